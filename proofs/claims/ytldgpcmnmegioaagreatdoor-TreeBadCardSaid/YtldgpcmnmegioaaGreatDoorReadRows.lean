/- Rows of bytes that came in. -/
import Derived.Test.YtldgpcmnmegioaaGreatDoorRead
import Derived.Test.YtldgpcmnmegioaaGreatDoorPack
namespace Go.Proofs.YtldgpcmnmegioaaGreatDoor
open Go.RowKit Go.WideShapes Go.ChangeShapes Go.Deep
section
variable {H : Type} {enc : TypeId × Value → H} {w : World} {base : Nat} {spare : Nat → Bool} {held : Bool}
def rowR1 (w : World) (cs : List Value) (l : List UInt8) : Prop := ∃ p c, cs = [.slice p l.length c] ∧ Bytes w p l
theorem cells_row1 : Tryz.prog.cellsOf 36 = 1 := by kernel_rfl
theorem parts_at {a : Option Addr} {L : List (List UInt8)} (h : L = [] ∨ ∃ g off, a = some ⟨g, off, none⟩ ∧ g < w.heap.size ∧ ∀ i (hi : i < L.length), ∃ p c, w.cell? ⟨g, off + i, none⟩ = some (.slice p L[i].length c) ∧ Bytes w p L[i]) : Parts w a L := by
  rcases h with rfl | ⟨g, off, ha, hg, hc⟩
  · exact ⟨[], Or.inl rfl, PartsS.nil _ _⟩
  · have hv : ∀ i, i < L.length → (((List.range L.length).map fun i => (w.cell? ⟨g, off + i, none⟩).getD undef)[i]?) = w.cell? ⟨g, off + i, none⟩ := by
      intro i hi
      obtain ⟨p, c, h1, _⟩ := hc i hi
      rw [List.getElem?_map, List.getElem?_range hi, h1]
      simp [h1]
    refine ⟨(List.range L.length).map fun i => (w.cell? ⟨g, off + i, none⟩).getD undef, Or.inr ⟨g, off, ha, hg, trivial, fun i hi => ?_⟩, by simp, fun i hi => ?_⟩
    · exact (hv i (by simpa using hi)).symm
    · obtain ⟨p, c, h1, h2⟩ := hc i hi
      have e : L.getD i [] = L[i] := by simp [List.getD_eq_getElem?_getD, List.getElem?_eq_getElem hi]
      rw [hv i hi, e]
      exact ⟨p, c, h1, h2.row⟩
theorem SliceOf.rows {a : Option Addr} {L : List (List UInt8)} (h : SliceOf 1 rowR1 w a L) : Parts w a L := by
  refine parts_at (h.imp id fun ⟨g, off, ha, hg, hc⟩ => ⟨g, off, ha, hg, fun i hi => ?_⟩)
  obtain ⟨cs, _, h2, p, c, h3, h4⟩ := hc i hi
  subst h3
  have := h2 0 (by omega)
  rw [Nat.mul_one, Nat.add_zero] at this
  exact ⟨p, c, this, h4⟩
theorem sum_onesR {α : Type} (L : List α) : (L.map fun _ => 0).sum = 0 := by
  induction L with
  | nil => rfl
  | cons a L ih => rw [List.map_cons, List.sum_cons, ih]
set_option maxRecDepth 100000 in
/-- A [][]byte that came in. -/
theorem open_rows {b0 : Nat} {v : Value} {d : DataW H} {ps : List MemPlace} (hval : Value.okWide Tryz.prog w .any b0 53 v) (hd : DataW.Trod enc Tryz.prog w base spare held 53 v d ps) :
    ∃ (a : Option Addr) (L : List (List UInt8)) (c : Nat), v = .slice a L.length c ∧ L.length ≤ c ∧ Parts w a L := by
  obtain ⟨a0, len, cap, rfl⟩ := okWide_slice Tryz.underlying53 hval
  obtain ⟨fuel, hf⟩ := hd
  obtain ⟨a, L, c, h1, h2, h3, h4⟩ := read_slice (R := rowR1) (wt := fun _ => 0) Tryz.underlying53 cells_row1 (by decide) (fun n cs y hy => by
    obtain ⟨a, l, c, h, _, hb⟩ := read_u8s hy
    exact ⟨l, ⟨a, c, h, hb⟩, Nat.zero_le _⟩) hf
  simp [Value.cells] at h1
  obtain ⟨rfl, rfl, rfl⟩ := h1
  exact ⟨a0, L, cap, rfl, h2, h3.rows⟩
end
end Go.Proofs.YtldgpcmnmegioaaGreatDoor
