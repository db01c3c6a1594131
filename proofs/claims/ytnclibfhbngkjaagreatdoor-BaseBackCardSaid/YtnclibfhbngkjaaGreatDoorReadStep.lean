/- Steps that came in: packages that come or go. -/
import Derived.Test.YtnclibfhbngkjaaGreatDoorM2
import Derived.Test.YtnclibfhbngkjaaGreatDoorReadPkg
import Derived.Test.YtnclibfhbngkjaaGreatDoorArcSmall
import Derived.Test.YtnclibfhbngkjaaGreatDoorBaseUnp
namespace Go.Proofs.YtnclibfhbngkjaaGreatDoor
open Go.RowKit Go.WideShapes Go.ChangeShapes Go.Deep
abbrev StepD := (Int × PkgD) × PkgA
def sz : StepD := ((0, pz), ⟨none, none, none, none, 0, 0, 0, 0⟩)
/-- A step's seven cells, at a place. -/
def StepAt (w : World) (g o : Nat) (x : StepD) : Prop :=
  (w.cell? ⟨g, o, none⟩ = some (.int .i64 x.1.1) ∧ w.cell? ⟨g, o + 1, none⟩ = some (.string (bs x.1.2.name)) ∧ w.cell? ⟨g, o + 2, none⟩ = some (.string (bs x.1.2.ver)) ∧ w.cell? ⟨g, o + 3, none⟩ = some (.slice x.2.an x.1.2.needs.length x.2.cn) ∧ w.cell? ⟨g, o + 4, none⟩ = some (.slice x.2.ac x.1.2.conf.length x.2.cc) ∧ w.cell? ⟨g, o + 5, none⟩ = some (.slice x.2.af x.1.2.files.length x.2.cf) ∧ w.cell? ⟨g, o + 6, none⟩ = some (.slice x.2.au x.1.2.units.length x.2.cu)) ∧ PkgM w x.1.2 x.2 ∧ PkgC x.1.2 x.2
theorem StepAt.ext {w w' : World} {g o : Nat} {x : StepD} (h : StepAt w g o x) (k : Ext w w') : StepAt w' g o x :=
  ⟨⟨k.cell h.1.1, k.cell h.1.2.1, k.cell h.1.2.2.1, k.cell h.1.2.2.2.1, k.cell h.1.2.2.2.2.1, k.cell h.1.2.2.2.2.2.1, k.cell h.1.2.2.2.2.2.2⟩, h.2.1.ext k, h.2.2⟩
def StepsL (w : World) (a : Option Addr) (L : List StepD) : Prop :=
  L = [] ∨ ∃ g off, a = some ⟨g, off, none⟩ ∧ g < w.heap.size ∧ ∀ i, i < L.length → StepAt w g (off + i * 7) (L.getD i sz)
theorem StepsL.ext {w w' : World} {a : Option Addr} {L : List StepD} (h : StepsL w a L) (k : Ext w w') : StepsL w' a L := by
  rcases h with h | ⟨g, off, ha, hg, hc⟩
  · exact Or.inl h
  · exact Or.inr ⟨g, off, ha, Nat.lt_of_lt_of_le hg k.size, fun i hi => (hc i hi).ext k⟩
theorem StepsL.at {w : World} {a : Option Addr} {L : List StepD} (h : StepsL w a L) {i : Nat} (hi : i < L.length) :
    ∃ g off, a = some ⟨g, off, none⟩ ∧ g < w.heap.size ∧ StepAt w g (off + i * 7) (L.getD i sz) := by
  rcases h with h | ⟨g, off, ha, hg, hc⟩
  · rw [h] at hi; simp at hi
  · exact ⟨g, off, ha, hg, hc i hi⟩
def stepR7 (w : World) (cs : List Value) (x : StepD) : Prop :=
  cs = [.int .i64 x.1.1, .string (bs x.1.2.name), .string (bs x.1.2.ver), .slice x.2.an x.1.2.needs.length x.2.cn, .slice x.2.ac x.1.2.conf.length x.2.cc, .slice x.2.af x.1.2.files.length x.2.cf, .slice x.2.au x.1.2.units.length x.2.cu] ∧ PkgM w x.1.2 x.2 ∧ PkgC x.1.2 x.2
theorem SliceOf.steps {w : World} {a : Option Addr} {L : List StepD} (h : SliceOf 7 stepR7 w a L) : StepsL w a L := by
  rcases h with h | ⟨g, off, ha, hg, hc⟩
  · exact Or.inl h
  · refine Or.inr ⟨g, off, ha, hg, fun i hi => ?_⟩
    obtain ⟨cs, _, h2, h3, h4, h5⟩ := hc i hi
    have e : L.getD i sz = L[i] := by simp [List.getD_eq_getElem?_getD, List.getElem?_eq_getElem hi]
    rw [e]
    subst h3
    exact ⟨⟨h2 0 (by omega), h2 1 (by omega), h2 2 (by omega), h2 3 (by omega), h2 4 (by omega), h2 5 (by omega), h2 6 (by omega)⟩, h4, h5⟩
section
variable {H : Type} {enc : TypeId × Value → H} {w : World} {base : Nat} {spare : Nat → Bool} {held : Bool}
theorem cells_step : Tryz.prog.cellsOf 33 = 7 := by kernel_rfl
theorem cells_int1 : Tryz.prog.cellsOf 3 = 1 := by kernel_rfl
theorem cells_pkg6s : Tryz.prog.cellsOf 31 = 6 := by kernel_rfl
theorem bytes_step : Tryz.prog.bytesOf 33 = 136 := by kernel_rfl
set_option maxRecDepth 100000 in
theorem read_step {fuel : Nat} {cs : List Value} {x : DataW H × List MemPlace} (h : DataW.trod enc Tryz.prog w base spare held fuel 33 cs = some x) : ∃ y, stepR7 w cs y := by
  obtain ⟨ys, n, _, _, hlen, hyl, hf⟩ := DataW.trod_struct Tryz.underlying33 h
  rw [cells_step] at hlen
  have h0 := hf 0 _ rfl
  have h1 := hf 1 _ rfl
  change DataW.trod enc Tryz.prog w base spare held n 3 ((cs.drop 0).take (Tryz.prog.cellsOf 3)) = _ at h0
  change DataW.trod enc Tryz.prog w base spare held n 31 ((cs.drop 1).take (Tryz.prog.cellsOf 31)) = _ at h1
  rw [cells_int1] at h0
  rw [cells_pkg6s] at h1
  have hy0 : ys[0]? = some (ys[0]'(by rw [hyl]; decide)) := List.getElem?_eq_getElem _
  have hy1 : ys[1]? = some (ys[1]'(by rw [hyl]; decide)) := List.getElem?_eq_getElem _
  rw [hy0] at h0
  rw [hy1] at h1
  match cs, hlen with
  | [c0, c1, c2, c3, c4, c5, c6], _ =>
    simp only [List.drop_zero, List.take_succ_cons, List.take_zero, List.drop_succ_cons] at h0 h1
    obtain ⟨k, e0, _⟩ := DataW.trod_int Tryz.underlying3 h0
    obtain ⟨p, A, e1, hM, hC⟩ := read_pkg h1
    cases e0
    cases e1
    exact ⟨((k, p), A), rfl, hM, hC⟩
set_option maxRecDepth 100000 in
/-- A []Step that came in. -/
theorem open_steps {b0 : Nat} {v : Value} {d : DataW H} {ps : List MemPlace} (hval : Value.okWide Tryz.prog w .any b0 22 v) (hd : DataW.Trod enc Tryz.prog w base spare held 22 v d ps) (hw : InReach Tryz.prog 22 d) :
    ∃ (a : Option Addr) (L : List StepD) (c : Nat), v = .slice a L.length c ∧ L.length ≤ c ∧ StepsL w a L ∧ L.length ≤ 1099511627776 := by
  obtain ⟨a0, len, cap, rfl⟩ := okWide_slice Tryz.underlying22 hval
  obtain ⟨fuel, hf⟩ := hd
  obtain ⟨a, L, c, h1, h2, h3, h4⟩ := read_slice_w (R := stepR7) Tryz.underlying22 cells_step (by decide) hw (fun n cs y hy _ => read_step hy) hf
  simp [Value.cells] at h1
  obtain ⟨rfl, rfl, rfl⟩ := h1
  rw [bytes_step] at h4
  exact ⟨a0, L, cap, rfl, h2, h3.steps, by unfold reachBytes at h4; omega⟩
end
end Go.Proofs.YtnclibfhbngkjaaGreatDoor
