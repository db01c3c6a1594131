/- (*rec.Reader).Num reads a number. -/
import Derived.Test.YtldgpcmnmegioaaGreatDoorRec
import Derived.Lib.EndianBits
namespace Go.Proofs.YtldgpcmnmegioaaGreatDoor
open Go.RowKit
theorem rNum_short {most : Nat} {s : RSt} (h : s.1.length < 4) : rNum most s = (0, ([], true)) := by unfold rNum; rw [if_pos h]
theorem rNum_big {most : Nat} {s : RSt} (h : 4 ≤ s.1.length) (k : most < le32 s.1) : rNum most s = (0, ([], true)) := by unfold rNum; rw [if_neg (by omega), if_pos k]
theorem rNum_ok {most : Nat} {s : RSt} (h : 4 ≤ s.1.length) (k : le32 s.1 ≤ most) : rNum most s = (le32 s.1, (s.1.drop 4, s.2)) := by unfold rNum; rw [if_neg (by omega), if_neg (by omega)]
theorem byteAt_lt (l : List UInt8) (i : Nat) : byteAt l i < 256 := (l.getD i 0).toNat_lt
/-- What a reader's call gives. -/
def RdR (S : Nat → Prop) (R : Nat) (w : World) (v : Value) (t : RSt) (e : Ending) (w' : World) : Prop := e = .returned v ∧ Rd S w' R t ∧ But R w w'
theorem RdR.of {S : Nat → Prop} {R : Nat} {w w' : World} {v : Value} {t : RSt} (h : But R w w' ∧ Rd S w' R t) : RdR S R w v t (.returned v) w' := ⟨rfl, h.2, h.1⟩
theorem rd_fin_ok {S : Nat → Prop} {w : World} {R g off c k nq : Nat} {s : RSt} {a' : Option Addr} {c' : Nat} {v : Value} (hg : w.heap[R]? = some (.cells #[.slice (some ⟨g, off, none⟩) s.1.length c, .bool s.2] 113 (0, 0))) (hc : s.1.length ≤ c) (hb : BytesS S w (some ⟨g, off, none⟩) s.1) (hk : k ≤ s.1.length)
    (ha : s.1.length = k ∨ a' = some ⟨g, off + k, none⟩) (hc' : s.1.length - k ≤ c') :
    RdR S R w v (s.1.drop k, s.2) (.returned v) ((w.drewN nq).setCell ⟨R, 0, none⟩ (.slice a' (s.1.length - k) c')) := by
  have h := rd_cut (w := w.drewN nq) hg hc (Row.keep hb (Keep.of_ext ((Ext.refl w).drewN nq))) hk ha hc'
  exact ⟨rfl, h.2, ((But.refl R w).drewN nq).trans h.1⟩
theorem rd_fin_bad {S : Nat → Prop} {w : World} {R g off c k nq : Nat} {s : RSt} {a' : Option Addr} {c' : Nat} {v : Value} (hg : w.heap[R]? = some (.cells #[.slice (some ⟨g, off, none⟩) s.1.length c, .bool s.2] 113 (0, 0))) (hc : s.1.length ≤ c) (hb : BytesS S w (some ⟨g, off, none⟩) s.1) (hk : k ≤ s.1.length)
    (ha : s.1.length = k ∨ a' = some ⟨g, off + k, none⟩) (hc' : s.1.length - k ≤ c') :
    RdR S R w v ([], true) (.returned v) ((((w.drewN nq).setCell ⟨R, 0, none⟩ (.slice a' (s.1.length - k) c')).setCell ⟨R, 1, none⟩ (.bool true)).setCell ⟨R, 0, none⟩ (.slice none 0 0)) := by
  have h := rd_fin_ok (nq := nq) (v := v) hg hc hb hk ha hc'
  have h2 := rd_num_bad h.2.1
  exact ⟨rfl, h2.2, h.2.2.trans h2.1⟩
set_option maxHeartbeats 1600000 in
theorem rd_num (S : Nat → Prop) (R most : Nat) (s : RSt) (w : World) (h : Rd S w R s) (hs : s.1.length ≤ 1099511627776) (hm : most ≤ 4294967295) :
    Calls Tryz.prog 39 #[.pointer (some ⟨R, 0, none⟩), .int .i64 (most : Int)] w (RdR S R w (.int .i64 ((rNum most s).1 : Nat)) (rNum most s).2) := by
  have H0 := Lib.hid h
  obtain ⟨a, c, hg, hc, hb⟩ := h
  obtain ⟨n, hn⟩ : ∃ n, n = s.1.length := ⟨_, rfl⟩
  have hg' := hg
  rw [← hn] at hg' hc hs
  obtain ⟨hR0, hR1, hF0, hF1⟩ := rd_facts hg'
  clear hg'
  have HG := Lib.hid hg; clear hg
  by_cases h4 : n < 4
  · have HN := Lib.hid (rNum_short (most := most) (s := s) (by omega))
    have HB := Lib.hid hb; clear hb
    have HNN := Lib.hid hn; clear hn
    go_enter Tryz.func39, Tryz.ntmps39
    go_wp2_with fail
    go_ret
    rw [HN.out]; exact RdR.of (rd_num_bad H0.out)
  · obtain ⟨g, off, rfl, hlt, hcell⟩ := hb.bytes.at (by intro e; rw [hn, e] at h4; simp at h4)
    have hc0 := hcell 0 (by omega)
    have hc1 := hcell 1 (by omega)
    have hc2 := hcell 2 (by omega)
    have hc3 := hcell 3 (by omega)
    rw [Nat.add_zero] at hc0
    have HB := Lib.hid hb; clear hb hcell
    have HNN := Lib.hid hn; clear hn
    have HL := Lib.hid (show le32 s.1 = byteAt s.1 0 + 256 * byteAt s.1 1 + 65536 * byteAt s.1 2 + 16777216 * byteAt s.1 3 from rfl)
    have hl0 := byteAt_lt s.1 0
    have hl1 := byteAt_lt s.1 1
    have hl2 := byteAt_lt s.1 2
    have hl3 := byteAt_lt s.1 3
    generalize hb0 : byteAt s.1 0 = b0 at *
    generalize hb1 : byteAt s.1 1 = b1 at *
    generalize hb2 : byteAt s.1 2 = b2 at *
    generalize hb3 : byteAt s.1 3 = b3 at *
    have H4 : 4 ≤ n := by omega
    have i0 : (0 : Int) < (n : Int) := by omega
    have i1 : (1 : Int) < (n : Int) := by omega
    have i2 : (2 : Int) < (n : Int) := by omega
    have i3 : (3 : Int) < (n : Int) := by omega
    clear hb0 hb1 hb2 hb3
    go_enter Tryz.func39, Tryz.ntmps39
    go_wp2_with fail
    go_quiet (fail)
    simp (disch := omega) only [u32_or8, u32_or16, u32_or24]
    by_cases hbig : most < le32 s.1
    · have HN := Lib.hid (rNum_big (s := s) (by have := HNN.out; omega) hbig)
      have hb2 : (most : Int) < (b0 : Int) + (b1 : Int) * 256 + (b2 : Int) * 65536 + (b3 : Int) * 16777216 := by have := HL.out; omega
      clear hbig
      by_cases hc4 : c = 4
      · go_wp2_with fail
        all_goals first | (exfalso; omega) | skip
        go_ret
        have e := HNN.out
        subst e
        rw [HN.out]; exact rd_fin_bad HG.out hc HB.out H4 (Or.inl (by omega)) (by omega)
      · go_wp2_with fail
        all_goals first | (exfalso; omega) | skip
        go_ret
        have e := HNN.out
        subst e
        rw [HN.out]; exact rd_fin_bad HG.out hc HB.out H4 (Or.inr rfl) (by omega)
    · have HN := Lib.hid (rNum_ok (most := most) (s := s) (by have := HNN.out; omega) (by omega))
      have hb2 : (b0 : Int) + (b1 : Int) * 256 + (b2 : Int) * 65536 + (b3 : Int) * 16777216 ≤ (most : Int) := by have := HL.out; omega
      have HV := Lib.hid (show ((le32 s.1 : Nat) : Int) = (b0 : Int) + (b1 : Int) * 256 + (b2 : Int) * 65536 + (b3 : Int) * 16777216 by have := HL.out; omega)
      clear hbig
      by_cases hc4 : c = 4
      · go_wp2_with fail
        all_goals first | (exfalso; omega) | skip
        go_ret
        have e := HNN.out
        subst e
        rw [HN.out, HV.out]; exact rd_fin_ok HG.out hc HB.out H4 (Or.inl (by omega)) (by omega)
      · go_wp2_with fail
        all_goals first | (exfalso; omega) | skip
        go_ret
        have e := HNN.out
        subst e
        rw [HN.out, HV.out]; exact rd_fin_ok HG.out hc HB.out H4 (Or.inr rfl) (by omega)
end Go.Proofs.YtldgpcmnmegioaaGreatDoor
