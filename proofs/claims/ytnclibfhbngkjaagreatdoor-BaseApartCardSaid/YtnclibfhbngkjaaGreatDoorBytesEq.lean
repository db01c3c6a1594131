/- slices.Equal of bytes. -/
import Derived.Test.YtnclibfhbngkjaaGreatDoorM2
import Derived.BigQuiet
import Derived.Deep.RegionHeld3
import Derived.Deep.Cut
import Derived.Deep.QuietTactic
import Derived.Outline
namespace Go.Proofs.YtnclibfhbngkjaaGreatDoor
open Go.RowKit
theorem take_byte {l m : List UInt8} {k : Nat} (h : l.take k = m.take k) (hl : k < l.length) (hm : k < m.length) (he : byteAt l k = byteAt m k) : l.take (k + 1) = m.take (k + 1) := by
  rw [List.take_succ_eq_append_getElem hl, List.take_succ_eq_append_getElem hm, h]
  have : l[k] = m[k] := by
    apply UInt8.toNat_inj.1
    simpa [byteAt, hl, hm] using he
  rw [this]
set_option maxRecDepth 100000 in
set_option maxHeartbeats 3200000 in
theorem bytes_equal (a b : Option Addr) (c d : Nat) (l m : List UInt8) (w : World) (ha : Bytes w a l) (hb : Bytes w b m) (hl : l.length ≤ 100000) (hm : m.length ≤ 100000) :
    Calls Tryz.prog 57 #[.slice a l.length c, .slice b m.length d] w fun e w' => e = .returned (.bool (decide (l = m))) ∧ Ext w w' := by
  obtain ⟨R, hR⟩ : ∃ R : Ending → World → Prop, R = fun e w' => e = .returned (.bool (decide (l = m))) ∧ Ext w w' := ⟨_, rfl⟩
  rw [← hR]
  have HR := Lib.hid hR; clear hR
  have HA := Lib.hid ha; clear ha
  have HB := Lib.hid hb; clear hb
  obtain ⟨n, hn⟩ : ∃ n, n = l.length := ⟨_, rfl⟩
  obtain ⟨p, hp⟩ : ∃ p, p = m.length := ⟨_, rfl⟩
  rw [← hn] at hl ⊢
  rw [← hp] at hm ⊢
  have HN := Lib.hid hn; clear hn
  have HP := Lib.hid hp; clear hp
  by_cases hnp : n = p
  · subst hnp
    go_enter Tryz.func57, Tryz.ntmps57
    go_wp2_with fail
    go_loopw [13] (fun i wr => ∃ k : Nat, i = .int .i64 k ∧ k ≤ n ∧ Hid (l.take k = m.take k) ∧ Hid (Ext w wr)) (fun i _ => n - (intOf i).toNat)
    case atStart => exact ⟨0, rfl, Nat.zero_le _, Lib.hid rfl, Lib.hid (Ext.refl _)⟩
    case round =>
      obtain ⟨k, rfl, hk, ht, hx⟩ := hrel
      by_cases hlt : k < n
      · obtain ⟨g, off, rfl, _, hc⟩ := (HA.out.ext hx.out).at (by have := HN.out; intro e; rw [e] at this; simp at this; omega)
        obtain ⟨g2, off2, rfl, _, hc2⟩ := (HB.out.ext hx.out).at (by have := HP.out; intro e; rw [e] at this; simp at this; omega)
        have c1 := hc k (by have := HN.out; omega)
        have c2 := hc2 k (by have := HP.out; omega)
        clear hc hc2
        obtain ⟨x, hxx⟩ : ∃ x, x = byteAt l k := ⟨_, rfl⟩
        obtain ⟨y, hyy⟩ : ∃ y, y = byteAt m k := ⟨_, rfl⟩
        rw [← hxx] at c1
        rw [← hyy] at c2
        have i0 : (0 : Int) ≤ (k : Int) := by omega
        have i1 : (k : Int) < (n : Int) := by omega
        by_cases hxy : x = y
        · have n1 : ((x : Int) != (y : Int)) = false := by rw [hxy]; simp
          have HXY := Lib.hid hxy; clear hxy
          have HX := Lib.hid hxx; clear hxx
          have HY := Lib.hid hyy; clear hyy
          go_upto_region 6 with fail
          go_quiet (fail)
          all_goals (
            go_wp2_with fail
            refine ⟨⟨k + 1, by go_num, by omega, Lib.hid (take_byte ht.out (by have := HN.out; omega) (by have := HP.out; omega) (by rw [← HX.out, ← HY.out, HXY.out])), Lib.hid (hx.out.drewN _)⟩, by simp [intOf]; omega⟩)
        · have n1 : ((x : Int) != (y : Int)) = true := by rw [bne_iff_ne]; omega
          have HXY := Lib.hid hxy; clear hxy
          have HX := Lib.hid hxx; clear hxx
          have HY := Lib.hid hyy; clear hyy
          go_upto_region 6 with fail
          go_quiet (fail)
          all_goals (
            go_wp2_with fail
            rw [HR.out]
            refine ⟨?_, hx.out.drewN _⟩
            have : ¬ l = m := by
              intro e
              apply HXY.out
              rw [HX.out, HY.out, e]
            rw [decide_eq_false this]
            rfl)
      · obtain rfl : k = n := by omega
        go_wp2_with fail
        rw [HR.out]
        have e : l = m := by
          have h := ht.out
          rw [List.take_of_length_le (by have := HN.out; omega), List.take_of_length_le (by have := HP.out; omega)] at h
          exact h
        rw [decide_eq_true e]
        exact ⟨rfl, hx.out⟩
  · have n1 : ((n : Int) != (p : Int)) = true := by rw [bne_iff_ne]; omega
    have HNP := Lib.hid hnp; clear hnp
    go_enter Tryz.func57, Tryz.ntmps57
    go_wp2_with fail
    rw [HR.out]
    have : ¬ l = m := by
      intro e
      apply HNP.out
      rw [HN.out, HP.out, e]
    rw [decide_eq_false this]
    exact ⟨rfl, Ext.refl _⟩
end Go.Proofs.YtnclibfhbngkjaaGreatDoor
