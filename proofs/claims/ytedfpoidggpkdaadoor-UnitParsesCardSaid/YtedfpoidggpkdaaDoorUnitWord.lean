/- (*unit.Unit).line: the words of lists, and any other word. -/
import Derived.Test.YtedfpoidggpkdaaDoorUnitLine
namespace Go.Proofs.YtedfpoidggpkdaaDoor
open Go.RowKit
theorem map_type : Tryd.prog.underlying 101 = some (.map 9 100) := by kernel_rfl
theorem zero_ptr (w : World) : (zeroValue 100).run Tryd.prog w = .ok (.pointer none) w := by kernel_rfl
theorem list_at {w : World} {M B : Nat} (h : MapF Lit.string w 9 M 5 (listsF B)) (wd : Bs) (hw : wd.length ≤ maxLen) :
    (Instr.lookup 101 (.map (some M)) (.string (bs wd)) false).run Tryd.prog w = .ok (if wordN wd = 0 then .pointer none else .pointer (some ⟨B, wordN wd, none⟩)) w := by
  have q := h.lookup str_keyed map_type (zero_ptr w) (key := .string (bs wd)) (kl := wd) (key_str (bs wd) hw)
  rw [q]
  unfold listsF
  split <;> rfl
set_option maxRecDepth 100000 in
set_option maxHeartbeats 3200000 in
theorem line_word (base B : Nat) (u : UnitD) (A : Nat → Option Addr) (C : Nat → Nat) (wd r : Bs) (hwl : wd.length ≤ maxLen) (w : World) (h : UnitAt w base B u A C) (h1 : wd ≠ wUnit) (h2 : wd ≠ wFile) (h3 : wd ≠ wRetry) (h8 : (u.row (wordN wd)).length ≤ 8) :
    Calls Tryd.prog 67 #[.pointer (some ⟨B, 0, none⟩), .string (bs wd), .string (bs r)] w (LineR base B (lineU u wd r) w) := by
  obtain ⟨o, ho⟩ : ∃ o, o = lineU u wd r := ⟨_, rfl⟩
  have hl : lineU u wd r = (if wordN wd = 0 then (u, 4) else if nameL r = false then (u, 14) else addU u (wordN wd) r) := by unfold lineU; rw [if_neg h1, if_neg h2, if_neg h3]
  rw [hl] at ho
  obtain ⟨R, hR⟩ : ∃ R, R = LineR base B (lineU u wd r) w := ⟨_, rfl⟩
  rw [← hR]
  rw [hl, ← ho] at hR
  have HR := Lib.hid hR; clear hR
  have HO := Lib.hid ho; clear ho hl
  have hw1 : ((bs wd).toList == [117, 110, 105, 116]) = false := word_ne h1
  have hw2 : ((bs wd).toList == [102, 105, 108, 101]) = false := word_ne h2
  have hw3 : ((bs wd).toList == [114, 101, 116, 114, 121]) = false := word_ne h3
  have HU := Lib.hid h; clear h
  have HW := Lib.hid hwl; clear hwl h1 h2 h3
  have hnm := fun W => name_any (bs r) W
  rw [bs_data] at hnm
  by_cases h0 : wordN wd = 0
  · have H0 := Lib.hid h0; clear h0
    go_enter Tryd.func67, Tryd.ntmps67
    go_wp2_with (go_at_call 71; refine (unit_lists B _).mono ?_; rintro e w1 ⟨M, rfl, hm, hx⟩; have hq := list_at hm wd HW.out; rw [if_pos H0.out] at hq)
    rw [HR.out]
    exact LineR.same (by rw [HO.out, if_pos H0.out]) HU.out hx
  · have H6 := wordN_le wd
    have H0 := Lib.hid h0; clear h0
    have HE := Lib.hid h8; clear h8
    cases hn : nameL r with
    | false =>
      rw [hn] at hnm
      have HNM := Lib.hid hnm; clear hnm
      have HN := Lib.hid hn; clear hn
      go_enter Tryd.func67, Tryd.ntmps67
      go_wp2_with (first
        | (go_at_call 71; refine (unit_lists B _).mono ?_; rintro e w1 ⟨M, rfl, hm, hx⟩; have hq := list_at hm wd HW.out; rw [if_neg H0.out] at hq)
        | (go_at_call 19; refine (HNM.out _).mono ?_; rintro e w2 ⟨rfl, hx2⟩))
      rw [HR.out]
      exact LineR.same (by rw [HO.out, if_neg H0.out, if_pos HN.out]) HU.out (hx.trans hx2)
    | true =>
      rw [hn] at hnm
      have HNM := Lib.hid hnm; clear hnm
      have HN := Lib.hid hn; clear hn
      go_enter Tryd.func67, Tryd.ntmps67
      go_wp2_with (first
        | (go_at_call 71; refine (unit_lists B _).mono ?_; rintro e w1 ⟨M, rfl, hm, hx⟩; have hq := list_at hm wd HW.out; rw [if_neg H0.out] at hq)
        | (go_at_call 19; refine (HNM.out _).mono ?_; rintro e w2 ⟨rfl, hx2⟩)
        | (go_at_call 83; refine (add_line base B (wordN wd) u A C r w _ o (by rw [HO.out, if_neg H0.out, if_neg (by rw [HN.out]; decide)]) (HU.out.ext (hx.trans hx2)) (hx.trans hx2) (by have := H0.out; omega) H6 HE.out).mono ?_; rintro e w3 ⟨rfl, ha⟩))
      rw [HR.out]; exact ha.out
end Go.Proofs.YtedfpoidggpkdaaDoor
