/- slices.EqualFunc of rows of bytes, as base.Same calls it. -/
import Derived.Test.YtnclibfhbngkjaaGreatDoorBytesEq
import Derived.Test.YtnclibfhbngkjaaGreatDoorPack
namespace Go.Proofs.YtnclibfhbngkjaaGreatDoor
open Go.RowKit
set_option maxHeartbeats 1600000 in
theorem same_one (a b : Option Addr) (c d : Nat) (l m : List UInt8) (w : World) (ha : Bytes w a l) (hb : Bytes w b m) (hl : l.length ≤ 100000) (hm : m.length ≤ 100000) :
    Calls Tryz.prog 56 #[.slice a l.length c, .slice b m.length d] w fun e w' => e = .returned (.bool (decide (l = m))) ∧ Ext w w' := by
  have h := bytes_equal a b c d l m w ha hb hl hm
  have H := Lib.hid h; clear h ha hb
  go_enter Tryz.func56, Tryz.ntmps56
  go_wp2_with (go_at_call 57; refine H.out.mono ?_; rintro e w' ⟨rfl, hx⟩)
  go_ret
  exact ⟨rfl, hx⟩
set_option maxRecDepth 100000 in
set_option maxHeartbeats 3200000 in
theorem rows_equal (a b : Option Addr) (c d : Nat) (L M : List (List UInt8)) (w : World) (hL : Parts w a L) (hM : Parts w b M) (h1 : ∀ l ∈ L, l.length ≤ 100000) (h2 : ∀ l ∈ M, l.length ≤ 100000) (hl : L.length ≤ 100000) (hm : M.length ≤ 100000) :
    Calls Tryz.prog 55 #[.slice a L.length c, .slice b M.length d, .func (.func 56) #[] #[]] w fun e w' => e = .returned (.bool (decide (L = M))) ∧ Ext w w' := by
  obtain ⟨R, hR⟩ : ∃ R : Ending → World → Prop, R = fun e w' => e = .returned (.bool (decide (L = M))) ∧ Ext w w' := ⟨_, rfl⟩
  rw [← hR]
  have HR := Lib.hid hR; clear hR
  have HA := Lib.hid hL; clear hL
  have HB := Lib.hid hM; clear hM
  have HL1 := Lib.hid h1; clear h1
  have HL2 := Lib.hid h2; clear h2
  obtain ⟨n, hn⟩ : ∃ n, n = L.length := ⟨_, rfl⟩
  obtain ⟨p, hp⟩ : ∃ p, p = M.length := ⟨_, rfl⟩
  rw [← hn] at hl ⊢
  rw [← hp] at hm ⊢
  have HN := Lib.hid hn; clear hn
  have HP := Lib.hid hp; clear hp
  by_cases hnp : n = p
  · subst hnp
    go_enter Tryz.func55, Tryz.ntmps55
    go_wp2_with fail
    go_loopw [17] (fun i wr => ∃ k : Nat, i = .int .i64 k ∧ k ≤ n ∧ Hid (L.take k = M.take k) ∧ Hid (Ext w wr)) (fun i _ => n - (intOf i).toNat)
    case atStart => exact ⟨0, rfl, Nat.zero_le _, Lib.hid rfl, Lib.hid (Ext.refl _)⟩
    case round =>
      obtain ⟨k, rfl, hk, ht, hx⟩ := hrel
      by_cases hlt : k < n
      · have hkL : k < L.length := by have := HN.out; omega
        have hkM : k < M.length := by have := HP.out; omega
        obtain ⟨g, off, p1, q1, rfl, c1, b1⟩ := (HA.out.ext hx.out).at hkL
        obtain ⟨g2, off2, p2, q2, rfl, c2, b2⟩ := (HB.out.ext hx.out).at hkM
        have e1 : L.getD k [] = L[k] := by simp [hkL]
        have e2 : M.getD k [] = M[k] := by simp [hkM]
        have hq := fun W (hW : Ext wr W) => same_one p1 p2 q1 q2 (L.getD k []) (M.getD k []) W (b1.ext hW) (b2.ext hW) (HL1.out _ (by rw [e1]; simp)) (HL2.out _ (by rw [e2]; simp))
        have HQ := Lib.hid hq; clear hq b1 b2
        have HE1 := Lib.hid e1; clear e1
        have HE2 := Lib.hid e2; clear e2
        obtain ⟨x, hxx⟩ : ∃ x, x = L.getD k [] := ⟨_, rfl⟩
        obtain ⟨y, hyy⟩ : ∃ y, y = M.getD k [] := ⟨_, rfl⟩
        rw [← hxx] at c1 HQ
        rw [← hyy] at c2 HQ
        have HXX := Lib.hid hxx; clear hxx
        have HYY := Lib.hid hyy; clear hyy
        by_cases hxy : x = y
        · have hd : decide (x = y) = true := decide_eq_true hxy
          rw [hd] at HQ
          have HXY := Lib.hid hxy; clear hxy hd
          go_wp2_with (go_at_call 56; refine (HQ.out _ (Ext.refl _)).mono ?_; rintro e w' ⟨rfl, hx2⟩; have HX2 := Lib.hid hx2; clear hx2)
          refine ⟨⟨k + 1, by go_num, by omega, Lib.hid ?_, Lib.hid (hx.out.trans HX2.out)⟩, by simp [intOf]; omega⟩
          rw [List.take_succ_eq_append_getElem hkL, List.take_succ_eq_append_getElem hkM, ht.out, ← HE1.out, ← HE2.out, ← HXX.out, ← HYY.out, HXY.out]
        · have hd : decide (x = y) = false := decide_eq_false hxy
          rw [hd] at HQ
          have HXY := Lib.hid hxy; clear hxy hd
          go_wp2_with (go_at_call 56; refine (HQ.out _ (Ext.refl _)).mono ?_; rintro e w' ⟨rfl, hx2⟩; have HX2 := Lib.hid hx2; clear hx2)
          rw [HR.out]
          refine ⟨?_, hx.out.trans HX2.out⟩
          have : ¬ L = M := by
            intro e
            apply HXY.out
            rw [HXX.out, HYY.out, e]
          rw [decide_eq_false this]
          rfl
      · obtain rfl : k = n := by omega
        go_wp2_with fail
        rw [HR.out]
        have e : L = M := by
          have h := ht.out
          rw [List.take_of_length_le (by have := HN.out; omega), List.take_of_length_le (by have := HP.out; omega)] at h
          exact h
        rw [decide_eq_true e]
        exact ⟨rfl, hx.out⟩
  · have n1 : ((n : Int) != (p : Int)) = true := by rw [bne_iff_ne]; omega
    have HNP := Lib.hid hnp; clear hnp
    go_enter Tryz.func55, Tryz.ntmps55
    go_wp2_with fail
    rw [HR.out]
    have : ¬ L = M := by
      intro e
      apply HNP.out
      rw [HN.out, HP.out, e]
    rw [decide_eq_false this]
    exact ⟨rfl, Ext.refl _⟩
end Go.Proofs.YtnclibfhbngkjaaGreatDoor
