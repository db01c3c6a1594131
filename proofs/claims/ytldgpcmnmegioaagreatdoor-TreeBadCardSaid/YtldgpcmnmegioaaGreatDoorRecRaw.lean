/- rec.Read, (*rec.Reader).Raw, Text, List, More, Done: what they give. -/
import Derived.Test.YtldgpcmnmegioaaGreatDoorRecNum
import Derived.Test.YtldgpcmnmegioaaGreatDoorBytes
import Derived.Test.YtldgpcmnmegioaaGreatDoorM2
import Derived.WalkSpells
import Derived.WalkLawsBesides
namespace Go.Proofs.YtldgpcmnmegioaaGreatDoor
open Go.RowKit
theorem Bytes.take {w : World} {a : Option Addr} {l : List UInt8} (h : Bytes w a l) (n : Nat) : Bytes w a (l.take n) := by
  rcases h with h | ⟨g, off, ha, hg, hc⟩
  · subst h; exact Or.inl (by simp)
  · refine Or.inr ⟨g, off, ha, hg, fun i hi => ?_⟩
    have hi' : i < n ∧ i < l.length := by simp at hi; omega
    rw [hc i hi'.2]
    simp [byteAt, hi'.1]
theorem rec_read (a : Option Addr) (c : Nat) (l : List UInt8) (w : World) (hb : Bytes w a l) (hl : l.length ≤ 1099511627776) :
    Calls Tryz.prog 37 #[.slice a l.length c] w fun e w' => ∃ R, e = .returned (.pointer (some ⟨R, 0, none⟩)) ∧ w.heap.size ≤ R ∧ Rd (fun k => w.heap.size ≤ k ∧ k < R) w' R (l, false) ∧ Ext w w' := by
  have HB := Lib.hid hb; clear hb
  go_enter Tryz.func37, Tryz.ntmps37
  go_wp2_with (at_builtin; refine append_bytes rfl (.const (.slice none 0 0)) (.tmp 3) 36 rfl Tryz.underlying36 w.heap.size none 0 [] l 0 l.length rfl rfl rfl (OwnB.nil _ _) a c rfl HB.out (by simpa using hl) (Nat.le_refl _) ?_; intro ad cap w1 hown hx; have hbx := And.intro (hown.fresh (S := fun k => w.heap.size ≤ k) (fun k hk => hk)) hown.bytes; have HBX := Lib.hid hbx; clear hbx hown; have HX := Lib.hid hx; clear hx)
  go_ret
  have hx := HX.out
  refine ⟨w1.heap.size, rfl, hx.size, ⟨ad, cap, ?_, HBX.out.2.2, Row.keep (Row.mono HBX.out.1 (fun k hk hb => ⟨hb, hk⟩)) (Keep.of_ext (Ext.alloc _ _))⟩, Ext.trans hx (Ext.alloc _ _)⟩
  show (w1.heap.push _)[w1.heap.size]? = _
  simp
theorem rRaw_eq {most : Nat} {s : RSt} {n : Nat} {t : RSt} (h : rNum most s = (n, t)) : rRaw most s = if t.1.length < n then ([], ([], true)) else (t.1.take n, (t.1.drop n, t.2)) := by
  unfold rRaw; rw [h]
/-- What a reader of bytes gives. -/
def RdB (S : Nat → Prop) (R : Nat) (w : World) (p : List UInt8) (t : RSt) (e : Ending) (w' : World) : Prop := ∃ a c, e = .returned (.slice a p.length c) ∧ p.length ≤ c ∧ OwnB w' w.heap.size a c p ∧ Rd S w' R t ∧ But R w w'
set_option maxHeartbeats 1600000 in
theorem rd_raw (S : Nat → Prop) (R most : Nat) (s : RSt) (w : World) (h : Rd S w R s) (hs : s.1.length ≤ 1099511627776) (hm : most ≤ 16777216) :
    Calls Tryz.prog 41 #[.pointer (some ⟨R, 0, none⟩), .int .i64 (most : Int)] w (RdB S R w (rRaw most s).1 (rRaw most s).2) := by
  have H0 := Lib.hid h
  have hle := rNum_le most s
  have hln := rNum_len most s
  have hnum := rd_num S R most s w h hs (by omega)
  obtain ⟨n, t, ht⟩ : ∃ n t, rNum most s = (n, t) := ⟨_, _, rfl⟩
  have hraw := rRaw_eq ht
  rw [ht] at hnum hle hln
  have HNUM := Lib.hid hnum; clear hnum
  have HRAW := Lib.hid hraw; clear hraw
  clear ht h
  simp only at hle hln
  go_enter Tryz.func41, Tryz.ntmps41
  go_wp2_with fail
  refine HNUM.out.mono ?_
  rintro e w1 ⟨rfl, hR, hB⟩
  have HR := Lib.hid hR
  have HB := Lib.hid hB; clear hB
  obtain ⟨a, c, hg, hc, hb⟩ := hR
  have hRlt : R < w1.heap.size := (Array.getElem?_eq_some_iff.1 hg).1
  obtain ⟨m, hm⟩ : ∃ m, m = t.1.length := ⟨_, rfl⟩
  have hg' := hg
  rw [← hm] at hg' hc
  obtain ⟨hR0, hR1, hF0, hF1⟩ := rd_facts hg'
  have HGM := Lib.hid hg'; clear hg'
  have HG := Lib.hid hg; clear hg
  have HBY := Lib.hid hb; clear hb
  have HM := Lib.hid hm; clear hm
  by_cases hlt : m < n
  · have hl2 : (m : Int) < (n : Int) := by omega
    go_wp2_with fail
    go_ret
    have e1 : rRaw most s = ([], ([], true)) := by rw [HRAW.out, if_pos (by rw [← HM.out]; exact hlt)]
    rw [e1]
    have h2 := rd_num_bad HR.out
    exact ⟨none, 0, rfl, Nat.le_refl _, OwnB.nil _ _, h2.2, HB.out.trans h2.1⟩
  · have hl2 : (n : Int) ≤ (m : Int) := by omega
    have e1 : rRaw most s = (t.1.take n, (t.1.drop n, t.2)) := by rw [HRAW.out, if_neg (by rw [← HM.out]; exact hlt)]
    have HE := Lib.hid e1; clear e1
    have fin : ∀ (w2 : World) (a2 : Option Addr) (c2 : Nat) (a3 : Option Addr) (c3 : Nat), Below w1.heap.size w1 w2 → OwnB w2 w1.heap.size a2 c2 (t.1.take n) → n ≤ c2 → (m = n ∨ ∃ g off, a = some ⟨g, off, none⟩ ∧ a3 = some ⟨g, off + n, none⟩) → m - n ≤ c3 →
        RdB S R w (rRaw most s).1 (rRaw most s).2 (.returned (.slice a2 n c2)) (w2.setCell ⟨R, 0, none⟩ (.slice a3 (m - n) c3)) := by
      intro w2 a2 c2 a3 c3 hx hb2 hc2 h3 hc3
      rw [HE.out]
      have hlen : (t.1.take n).length = n := by rw [List.length_take, ← HM.out]; omega
      have hR2 : Rd S w2 R t := HR.out.ext hx
      have hB2 : But R w1 (w2.setCell ⟨R, 0, none⟩ (.slice a3 (m - n) c3)) := (But.of_ext hx).setCell 0 _
      have hBB : But R w2 (w2.setCell ⟨R, 0, none⟩ (.slice a3 (m - n) c3)) := (But.refl _ _).setCell 0 _
      have hRd : Rd S (w2.setCell ⟨R, 0, none⟩ (.slice a3 (m - n) c3)) R (t.1.drop n, t.2) := by
        rcases h3 with h3 | ⟨g, off, rfl, rfl⟩
        · refine ⟨a3, c3, ?_, ?_, Or.inl ?_⟩
          · rw [setCell_row (Ext.heap hx HGM.out)]
            simp [← HM.out]
          · simp [← HM.out]; omega
          · have : t.1.drop n = [] := by rw [List.drop_eq_nil_iff, ← HM.out]; omega
            simp only [this]; rfl
        · have hmm := HM.out
          subst hmm
          exact (rd_cut (Ext.heap hx HG.out) hc (Row.keep HBY.out (Keep.of_ext hx)) (by omega) (Or.inr rfl) hc3).2
      exact ⟨a2, c2, by rw [hlen], by rw [hlen]; exact hc2, (hb2.but_lt hBB hRlt).base HB.out.size, hRd, HB.out.trans hB2⟩
    have FIN := Lib.hid fin; clear fin
    have hlen : (t.1.take n).length = n := by rw [List.length_take, ← HM.out]; omega
    have HLEN := Lib.hid hlen; clear hlen
    by_cases hcn : c = n
    · have hmn : m = n := by omega
      subst hcn
      go_wp2_with (at_builtin; refine append_bytes rfl (.const (.slice none 0 0)) (.tmp 28) 36 rfl Tryz.underlying36 w1.heap.size none 0 [] (t.1.take c) 0 _ rfl HLEN.out rfl (OwnB.nil _ _) _ _ rfl (HBY.out.bytes.take _) (by omega) (Nat.le_refl _) ?_; intro ad cap w2 hown hx; have hbx := And.intro hown hown.bytes.2; have HBX := Lib.hid hbx; clear hbx hown; have hg2 := Ext.heap hx HGM.out; obtain ⟨k0, k1, k2, k3⟩ := rd_facts hg2; have HX := Lib.hid hx; clear hx hg2)
      go_ret
      have hbx := HBX.out
      rw [List.nil_append, HLEN.out] at hbx
      have h := FIN.out w2 ad cap a 0 HX.out hbx.1 hbx.2 (Or.inl hmn) (by omega)
      rw [show m - c = 0 by omega] at h
      exact h
    · go_wp2_with (at_builtin; refine append_bytes rfl (.const (.slice none 0 0)) (.tmp 28) 36 rfl Tryz.underlying36 w1.heap.size none 0 [] (t.1.take n) 0 _ rfl HLEN.out rfl (OwnB.nil _ _) _ _ rfl (HBY.out.bytes.take _) (by omega) (Nat.le_refl _) ?_; intro ad cap w2 hown hx; have hbx := And.intro hown hown.bytes.2; have HBX := Lib.hid hbx; clear hbx hown; have hg2 := Ext.heap hx HGM.out; obtain ⟨k0, k1, k2, k3⟩ := rd_facts hg2; have HX := Lib.hid hx; clear hx hg2)
      have hbx := HBX.out
      rw [List.nil_append, HLEN.out] at hbx
      go_ret
      refine FIN.out _ _ _ _ _ HX.out hbx.1 hbx.2 ?_ (by omega)
      rcases HBY.out.bytes with hz | ⟨g, off, rfl, _, _⟩
      · left
        have hmm := HM.out
        rw [hz] at hmm
        simp at hmm
        omega
      · exact Or.inr ⟨g, off, rfl, by rw [Option.map_some, addr_add]⟩
/-- (*rec.Reader).Text. -/
theorem rd_text (S : Nat → Prop) (R most : Nat) (s : RSt) (w : World) (h : Rd S w R s) (hs : s.1.length ≤ 1099511627776) (hm : most ≤ 16777216) :
    Calls Tryz.prog 40 #[.pointer (some ⟨R, 0, none⟩), .int .i64 (most : Int)] w (RdR S R w (.string (bs (rRaw most s).1)) (rRaw most s).2) := by
  have hraw := rd_raw S R most s w h hs hm
  obtain ⟨p, t, ht⟩ : ∃ p t, rRaw most s = (p, t) := ⟨_, _, rfl⟩
  rw [ht] at hraw ⊢
  have HRAW := Lib.hid hraw; clear hraw ht h
  go_enter Tryz.func40, Tryz.ntmps40
  go_wp2_with fail
  refine HRAW.out.mono ?_
  rintro e w1 ⟨a, c, rfl, hc, hb, hR, hB⟩
  have hconv := conv_text (c := c) hb.bytes.1
  have HR := Lib.hid hR
  have HB := Lib.hid hB; clear hB hb hR
  go_wp2_with fail
  go_ret
  exact ⟨rfl, HR.out, HB.out⟩






















/-- (*rec.Reader).More. -/
theorem rd_more (S : Nat → Prop) (R : Nat) (s : RSt) (w : World) (h : Rd S w R s) :
    Calls Tryz.prog 38 #[.pointer (some ⟨R, 0, none⟩)] w fun e w' => e = .returned (.bool (decide (0 < s.1.length))) ∧ w = w' := by
  obtain ⟨a, c, hg, hc, hb⟩ := h
  obtain ⟨hR0, hR1, hF0, hF1⟩ := rd_facts hg
  clear hg hb
  go_enter Tryz.func38, Tryz.ntmps38
  go_wp2_with fail
  go_ret
  exact ⟨ret_bool (by simp), rfl⟩
/-- (*rec.Reader).Done. -/
theorem rd_done (S : Nat → Prop) (R : Nat) (s : RSt) (w : World) (h : Rd S w R s) :
    Calls Tryz.prog 47 #[.pointer (some ⟨R, 0, none⟩)] w fun e w' => e = .returned (.bool (rDone s)) ∧ w = w' := by
  obtain ⟨l, b⟩ := s
  obtain ⟨a, c, hg, hc, hb⟩ := h
  obtain ⟨hR0, hR1, hF0, hF1⟩ := rd_facts hg
  clear hg hb
  go_enter Tryz.func47, Tryz.ntmps47
  cases b with
  | true =>
    go_wp2_with fail
    go_ret
    exact ⟨rfl, rfl⟩
  | false =>
    go_wp2_with fail
    go_ret
    refine ⟨ret_bool ?_, rfl⟩
    cases l with
    | nil => rfl
    | cons x r => simp [rDone]; omega
end Go.Proofs.YtldgpcmnmegioaaGreatDoor
