/- (*unit.Unit).line: a unit behind a line. -/
import Derived.Test.YtedfpoidggpkdaaDoorUnitAt
import Derived.Test.YtedfpoidggpkdaaDoorEnvN
import Derived.WalkSpells
import Derived.WalkLawsBesides
namespace Go.Proofs.YtedfpoidggpkdaaDoor
open Go.RowKit
/-- What a line gives. -/
def LineR (base B : Nat) (o : UnitD × Nat) (w : World) (e : Ending) (w' : World) : Prop :=
  ∃ A' C', e = .returned (.int .i64 (o.2 : Int)) ∧ UnitAt w' base B o.1 A' C' ∧ Keep (fun k => k < base ∧ k ≠ B) w w'
theorem LineR.same {base B n : Nat} {u : UnitD} {A : Nat → Option Addr} {C : Nat → Nat} {w w' : World} {o : UnitD × Nat} (ho : o = (u, n)) (h : UnitAt w base B u A C) (k : Ext w w') : LineR base B o w (.returned (.int .i64 (n : Int))) w' := by
  rw [ho]; exact ⟨A, C, rfl, h.ext k, Keep.of_ext k⟩
theorem LineR.set {base B : Nat} {u v : UnitD} {A : Nat → Option Addr} {C : Nat → Nat} {w w1 : World} {o : UnitD × Nat} (ho : o = (v, 0)) (h : UnitAt w1 base B u A C) (k : Ext w w1) (i : Nat) (x : Value) (hrow : ∀ f, 1 ≤ f → f ≤ 6 → v.row f = u.row f)
    (hc : (#[Value.string (bs u.name), .slice (A 1) u.files.length (C 1), .slice (A 2) u.after.length (C 2), .slice (A 3) u.before.length (C 3), .slice (A 4) u.reqs.length (C 4), .slice (A 5) u.wants.length (C 5), .slice (A 6) u.partof.length (C 6), .int .i64 u.retry] : Array Value).setIfInBounds i x
      = #[.string (bs v.name), .slice (A 1) v.files.length (C 1), .slice (A 2) v.after.length (C 2), .slice (A 3) v.before.length (C 3), .slice (A 4) v.reqs.length (C 4), .slice (A 5) v.wants.length (C 5), .slice (A 6) v.partof.length (C 6), .int .i64 v.retry]) :
    LineR base B o w (.returned (.int .i64 0)) (w1.setCell ⟨B, i, none⟩ x) := by
  obtain ⟨h1, h2⟩ := h.set i x hrow hc
  rw [ho]; exact ⟨A, C, rfl, h1, (Keep.of_ext k).trans h2⟩
theorem LineR.add {base B f : Nat} {u : UnitD} {A : Nat → Option Addr} {C : Nat → Nat} {w w1 w2 : World} {o : UnitD × Nat} {s : Bs} {e : Ending} (ho : o = addU u f s) (h : UnitAt w1 base B u A C) (k : Ext w w1) (h1 : 1 ≤ f) (h6 : f ≤ 6)
    (ha : if s ∈ u.row f then e = .returned (.int .i64 9) ∧ w1 = w2 else if (u.row f).length = 8 then e = .returned (.int .i64 22) ∧ w1 = w2 else Added B f base (A f) (C f) (u.row f) s w1 e w2) : LineR base B o w e w2 := by
  unfold addU at ho
  split at ha
  · rename_i hm
    rw [if_pos hm] at ho
    obtain ⟨rfl, rfl⟩ := ha
    rw [ho]; exact ⟨A, C, rfl, h, Keep.of_ext k⟩
  · rename_i hm
    rw [if_neg hm] at ho
    split at ha
    · rename_i h8
      rw [if_pos h8] at ho
      obtain ⟨rfl, rfl⟩ := ha
      rw [ho]; exact ⟨A, C, rfl, h, Keep.of_ext k⟩
    · rename_i h8
      rw [if_neg h8] at ho
      have hr := ha.ret
      obtain ⟨A', C', g1, g2⟩ := h.added h1 h6 ha
      rw [ho, hr]
      exact ⟨A', C', rfl, g1, (Keep.of_ext k).trans g2⟩
theorem LineR.ret {base B : Nat} {o : UnitD × Nat} {w : World} {e : Ending} {w' : World} (h : LineR base B o w e w') : e = .returned (.int .i64 (o.2 : Int)) := by obtain ⟨_, _, h, _⟩ := h; exact h
theorem add_line (base B f : Nat) (u : UnitD) (A : Nat → Option Addr) (C : Nat → Nat) (r : Bs) (w w1 : World) (o : UnitD × Nat) (ho : o = addU u f r) (h : UnitAt w1 base B u A C) (k : Ext w w1) (h1 : 1 ≤ f) (h6 : f ≤ 6) (h8 : (u.row f).length ≤ 8) :
    Calls Tryd.prog 83 #[.pointer (some ⟨B, f, none⟩), .string (bs r)] w1 (fun e w2 => e = .returned (.int .i64 (o.2 : Int)) ∧ Hid (LineR base B o w e w2)) := by
  refine (unit_add B f base (A f) (C f) (u.row f) r w1 (h.cell f h1 h6).1 (h.cell f h1 h6).2 (h.rows f h1 h6) h.lt h.size h8).mono ?_
  intro e w2 ha
  have q := LineR.add ho h k h1 h6 ha
  exact ⟨q.ret, Lib.hid q⟩
theorem word_eq {a b : Bs} (h : a = b) : ((bs a).toList == b) = true := by rw [bs_toList, h]; simp
theorem word_ne {a b : Bs} (h : a ≠ b) : ((bs a).toList == b) = false := by rw [bs_toList]; simpa using h
set_option maxRecDepth 100000 in
set_option maxHeartbeats 3200000 in
theorem line_unit (base B : Nat) (u : UnitD) (A : Nat → Option Addr) (C : Nat → Nat) (r : Bs) (w : World) (h : UnitAt w base B u A C) :
    Calls Tryd.prog 67 #[.pointer (some ⟨B, 0, none⟩), .string (bs wUnit), .string (bs r)] w (LineR base B (lineU u wUnit r) w) := by
  obtain ⟨o, ho⟩ : ∃ o, o = lineU u wUnit r := ⟨_, rfl⟩
  have hl : lineU u wUnit r = (if nameL r = false then (u, 14) else if u.name ≠ [] then (u, 9) else ({ u with name := r }, 0)) := by unfold lineU; rw [if_pos rfl]
  rw [hl] at ho
  obtain ⟨R, hR⟩ : ∃ R, R = LineR base B (lineU u wUnit r) w := ⟨_, rfl⟩
  rw [← hR]
  rw [hl, ← ho] at hR
  have HR := Lib.hid hR; clear hR
  have HO := Lib.hid ho; clear ho hl
  have c0 : w.cell? ⟨B, 0, none⟩ = some (.string (bs u.name)) := blk_cell h.blk 0 _ rfl
  have hw : ((bs wUnit).toList == [117, 110, 105, 116]) = true := word_eq rfl
  have f0 := blk_free h.blk 0
  have HU := Lib.hid h; clear h
  have hnm := fun W => name_any (bs r) W
  rw [bs_data] at hnm
  go_enter Tryd.func67, Tryd.ntmps67
  cases hn : nameL r with
  | false =>
    rw [hn] at hnm
    have HNM := Lib.hid hnm; clear hnm
    have HN := Lib.hid hn; clear hn
    go_wp2_with (go_at_call 19; refine (HNM.out _).mono ?_; rintro e w1 ⟨rfl, hx⟩)
    rw [HR.out]
    exact LineR.same (by rw [HO.out, if_pos HN.out]) HU.out hx
  | true =>
    rw [hn] at hnm
    have HNM := Lib.hid hnm; clear hnm
    have HN := Lib.hid hn; clear hn
    by_cases hu : u.name = []
    · have he : (bs u.name).toList.isEmpty = true := by rw [bs_toList, hu]; rfl
      have HE := Lib.hid hu; clear hu
      go_wp2_with (go_at_call 19; refine (HNM.out _).mono ?_; rintro e w1 ⟨rfl, hx⟩; have c1 := Ext.cell hx c0; have f1 : w1.frozen? ⟨B, 0, none⟩ = false := blk_free (Ext.heap hx HU.out.blk) 0)
      rw [HR.out]
      refine LineR.set (v := { u with name := r }) (by rw [HO.out, if_neg (by rw [HN.out]; decide), if_neg (by simpa using HE.out)]) (HU.out.ext hx) hx 0 _ ?_ rfl
      intro f h1 h6
      unfold UnitD.row; split <;> rfl
    · have he : (bs u.name).toList.isEmpty = false := by rw [bs_toList]; simpa using hu
      have HE := Lib.hid hu; clear hu
      go_wp2_with (go_at_call 19; refine (HNM.out _).mono ?_; rintro e w1 ⟨rfl, hx⟩; have c1 := Ext.cell hx c0)
      rw [HR.out]
      exact LineR.same (by rw [HO.out, if_neg (by rw [HN.out]; decide), if_pos HE.out]) HU.out hx
set_option maxRecDepth 100000 in
set_option maxHeartbeats 3200000 in
theorem line_file (base B : Nat) (u : UnitD) (A : Nat → Option Addr) (C : Nat → Nat) (r : Bs) (w : World) (h : UnitAt w base B u A C) (hE : Env w) (h8 : u.files.length ≤ 8) :
    Calls Tryd.prog 67 #[.pointer (some ⟨B, 0, none⟩), .string (bs wFile), .string (bs r)] w (LineR base B (lineU u wFile r) w) := by
  obtain ⟨o, ho⟩ : ∃ o, o = lineU u wFile r := ⟨_, rfl⟩
  have hl : lineU u wFile r = (if rightL r = false then (u, 14) else addU u 1 r) := by unfold lineU; rw [if_neg (by decide), if_pos rfl]
  rw [hl] at ho
  obtain ⟨R, hR⟩ : ∃ R, R = LineR base B (lineU u wFile r) w := ⟨_, rfl⟩
  rw [← hR]
  rw [hl, ← ho] at hR
  have HR := Lib.hid hR; clear hR
  have HO := Lib.hid ho; clear ho hl
  have hw1 : ((bs wFile).toList == [117, 110, 105, 116]) = false := word_ne (by decide)
  have hw2 : ((bs wFile).toList == [102, 105, 108, 101]) = true := word_eq rfl
  have HU := Lib.hid h; clear h
  have hnm := fun W (hW : Env W) => path_right (bs r) W hW
  rw [bs_data] at hnm
  go_enter Tryd.func67, Tryd.ntmps67
  cases hn : rightL r with
  | false =>
    rw [hn] at hnm
    have HNM := Lib.hid hnm; clear hnm
    have HN := Lib.hid hn; clear hn
    go_wp2_with (go_at_call 18; refine (HNM.out _ hE).mono ?_; rintro e w1 ⟨rfl, hx⟩)
    rw [HR.out]
    exact LineR.same (by rw [HO.out, if_pos HN.out]) HU.out hx
  | true =>
    rw [hn] at hnm
    have HNM := Lib.hid hnm; clear hnm
    have HN := Lib.hid hn; clear hn
    go_wp2_with (first
      | (go_at_call 18; refine (HNM.out _ hE).mono ?_; rintro e w1 ⟨rfl, hx⟩)
      | (go_at_call 83; refine (add_line base B 1 u A C r w _ o (by rw [HO.out, if_neg (by rw [HN.out]; decide)]) (HU.out.ext hx) hx (by omega) (by omega) h8).mono ?_; rintro e w2 ⟨rfl, ha⟩))
    rw [HR.out]; exact ha.out
end Go.Proofs.YtedfpoidggpkdaaDoor
