/- The readers of one part of an archive: a test, a text, a need, a file. -/
import Derived.Test.YtnclibfhbngkjaaGreatDoorM1
import Derived.Test.YtnclibfhbngkjaaGreatDoorRecRaw
namespace Go.Proofs.YtnclibfhbngkjaaGreatDoor
open Go.RowKit
theorem rd_truth (S : Nat → Prop) (R : Nat) (s : RSt) (w : World) (h : Rd S w R s) (hs : s.1.length ≤ 1099511627776) :
    Calls Tryz.prog 51 #[.pointer (some ⟨R, 0, none⟩)] w (RdR S R w (.bool (decide ((rNum 1 s).1 = 1))) (rNum 1 s).2) := by
  have hn := rd_num S R 1 s w h hs (by omega)
  obtain ⟨k, t, ht⟩ : ∃ k t, rNum 1 s = (k, t) := ⟨_, _, rfl⟩
  rw [ht] at hn ⊢
  simp only at hn ⊢
  obtain ⟨Q, hQ⟩ : ∃ Q, Q = RdR S R w (.bool (decide (k = 1))) t := ⟨_, rfl⟩
  rw [← hQ]
  have HQ := Lib.hid hQ; clear hQ
  have HN := Lib.hid hn; clear hn ht h
  go_enter Tryz.func51, Tryz.ntmps51
  go_wp2_with (go_at_call 50; refine HN.out.mono ?_; rintro e w1 ⟨rfl, hr, hb⟩; have hr := Lib.hid hr; have hb := Lib.hid hb)
  rw [HQ.out]
  refine ⟨?_, hr.out, hb.out⟩
  have : ((k : Int) == 1) = decide (k = 1) := by
    by_cases h : k = 1
    · subst h; rfl
    · rw [decide_eq_false h, beq_eq_false_iff_ne]; omega
  simp [this]
def needA (n : NeedD) : Value := .agg #[.string (bs n.name), .int .i64 n.way, .string (bs n.ver)]
/-- What a reader of a part gives. -/
def RdK (S : Nat → Prop) (R : Nat) (w : World) (v : Value) (t : RSt) (e : Ending) (w' : World) : Prop := e = .returned v ∧ Rd S w' R t ∧ Keep (· ≠ R) w w'
theorem set3 {w : World} {R : Nat} {t : TypeId} {a0 a1 a2 : Value} (hg : w.heap[R]? = some (.cells #[a0, a1, a2] t (0, 0))) (v0 v1 v2 : Value) :
    (((w.setCell ⟨R, 0, none⟩ v0).setCell ⟨R, 1, none⟩ v1).setCell ⟨R, 2, none⟩ v2).heap[R]? = some (.cells #[v0, v1, v2] t (0, 0)) ∧
    But R w (((w.setCell ⟨R, 0, none⟩ v0).setCell ⟨R, 1, none⟩ v1).setCell ⟨R, 2, none⟩ v2) := by
  refine ⟨?_, (((But.refl R w).setCell 0 _).setCell 1 _).setCell 2 _⟩
  rw [setCell_row (setCell_row (setCell_row hg _) _) _]
  rfl

































































def fileA (f : FileD) (d : Option Addr) (c : Nat) : Value := .agg #[.string (bs f.path), .bool f.config, .slice d f.data.length c]
/-- What a reader of a file gives. -/
def RdF (S : Nat → Prop) (R : Nat) (w : World) (f : FileD) (t : RSt) (e : Ending) (w' : World) : Prop := ∃ d c, e = .returned (fileA f d c) ∧ f.data.length ≤ c ∧ OwnB w' w.heap.size d c f.data ∧ Rd S w' R t ∧ Keep (· ≠ R) w w'












































end Go.Proofs.YtnclibfhbngkjaaGreatDoor
