/- Acts of farrierlaw08 that came in; numbers that came in. -/
import Derived.Test.YtachelbodpfckaaGreatDoorM1
import Derived.Test.YtachelbodpfckaaGreatDoorM4
namespace Go.Proofs.YtachelbodpfckaaGreatDoor
open Go.RowKit Go.WideShapes Go.ChangeShapes Go.Deep
structure ActD where
 kind : Int
 pid : Int
 file : Int
 pa : Option Addr
 paths : List By
 pc : Nat
section
variable {H : Type} {enc : TypeId × Value → H} {w : World} {base : Nat} {spare : Nat → Bool} {held : Bool}
theorem bytes_intA : Tryz.prog.bytesOf 3 = 8 := by kernel_rfl
theorem cells_intA : Tryz.prog.cellsOf 3 = 1 := by kernel_rfl
def intR1 (_ : World) (cs : List Value) (x : Int) : Prop := cs = [.int .i64 x]
set_option maxRecDepth 100000 in
theorem open_ints {b0 : Nat} {v : Value} {d : DataW H} {ps : List MemPlace} (hval : Value.okWide Tryz.prog w .any b0 22 v) (hd : DataW.Trod enc Tryz.prog w base spare held 22 v d ps) (hw : InReach Tryz.prog 22 d) :
 ∃ (a : Option Addr) (L : List Int) (c : Nat), v = .slice a L.length c ∧ L.length ≤ c ∧ RunM w a (intV L) ∧ L.length ≤ 17592186044416 := by
 obtain ⟨a0, len, cap, rfl⟩ := okWide_slice Tryz.underlying22 hval
 obtain ⟨fuel, hf⟩ := hd
 obtain ⟨a, L, c, h1, h2, h3, h4⟩ := read_slice_w (R := intR1) Tryz.underlying22 cells_intA (by decide) hw (fun n cs y hy _ => by
  obtain ⟨k, e, _, _⟩ := DataW.trod_int Tryz.underlying3 hy
  exact ⟨k, e⟩) hf
 simp [Value.cells] at h1
 obtain ⟨rfl, rfl, rfl⟩ := h1
 rw [bytes_intA] at h4
 refine ⟨a0, L, cap, rfl, h2, ?_, by unfold reachBytes at h4; omega⟩
 rcases h3 with h | ⟨g, off, ha, hg, hc⟩
 · left; rw [h]; rfl
 · refine Or.inr ⟨g, off, ha, hg, fun j u hj => ?_⟩
   unfold intV at hj
   rw [List.getElem?_map] at hj
   cases hL : L[j]? with
   | none => rw [hL] at hj; cases hj
   | some y =>
     obtain ⟨hjl, e⟩ := List.getElem?_eq_some_iff.1 hL
     obtain ⟨cs, _, h2, h3⟩ := hc j hjl
     have := h2 0 (by omega)
     rw [h3, e] at this
     rw [hL] at hj
     rw [← Option.some.inj hj]
     simpa using this
end
end Go.Proofs.YtachelbodpfckaaGreatDoor
