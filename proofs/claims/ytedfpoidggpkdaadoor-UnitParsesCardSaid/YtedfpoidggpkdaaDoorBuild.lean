/- strings.Builder: texts that a call gathers. -/
import Derived.Test.YtedfpoidggpkdaaDoorKeep
import Derived.Test.YtedfpoidggpkdaaDoorEnvN
namespace Go.Proofs.YtedfpoidggpkdaaDoor
open Go.RowKit
/-- A builder, made by the call in this block, with these bytes. -/
def Bld (b : Nat) (l : List UInt8) (w : World) : Prop := Lib.IsBuilderF 95 5 b b (Lib.byteCells l) w
/-- What writing into it leaves alone: all that stood ahead of it; and all that is neither it nor bytes. -/
structure Beside (b : Nat) (w w' : World) : Prop where
  below : Below b w w'
  other : Lib.OthersKept 5 (some b) w w'
theorem Beside.refl (b : Nat) (w : World) : Beside b w w := ⟨Below.refl _ _, Lib.OthersKept.refl _ _ _⟩
theorem Beside.trans {b : Nat} {x y z : World} (h : Beside b x y) (k : Beside b y z) : Beside b x z := ⟨Below.trans h.below k.below, h.other.trans k.other⟩
theorem Beside.of_ext {b : Nat} {x y : World} (h : Ext x y) (hb : b ≤ x.heap.size) : Beside b x y := ⟨h.mono hb, fun _ _ ho _ _ => h.heap ho⟩
theorem Beside.ext {b : Nat} {w x y : World} (h : Beside b x y) (k : Ext w x) (hb : w.heap.size ≤ b) : Ext w y := (Below.trans k (h.below.mono hb) : Below w.heap.size w y)
theorem Beside.keep {b : Nat} {x y : World} (h : Beside b x y) : Keep (· < b) x y := Keep.of_below h.below
theorem Beside.heap {b k : Nat} {x y : World} (h : Beside b x y) {cs : Array Value} {t : TypeId} {fr : Nat × Nat} (hk : x.heap[k]? = some (.cells cs t fr)) (hb : k ≠ b) (ht : t ≠ 5) : y.heap[k]? = some (.cells cs t fr) :=
  h.other k _ hk (fun e => hb (Option.some.inj e)) (fun c fz e => ht (by injection e))
theorem Beside.size {b : Nat} {x y : World} (h : Beside b x y) : x.heap.size ≤ y.heap.size := h.below.size
theorem Bld.lt {b : Nat} {l : List UInt8} {w : World} (h : Bld b l w) : b < w.heap.size := by
  rcases h with h | h
  · exact h.lt
  · exact h.lt
theorem Bld.new (w : World) : Bld w.heap.size [] (w.alloc (.cells #[.pointer none, .slice none 0 0] 95)) := by
  refine Or.inl (Lib.BuilderAtF.of ⟨Nat.le_refl _, .slice none 0 0, heap_alloc_new w _, World.ownsRow_nil _ _ _ _, by simp [Value.ownBlock]⟩)
theorem Bld.ext {b : Nat} {l : List UInt8} {w w' : World} (h : Bld b l w) (k : Ext w w') : Bld b l w' := by
  have go : ∀ p, Lib.BuilderAtF 95 5 b b p (Lib.byteCells l) w → Lib.BuilderAtF 95 5 b b p (Lib.byteCells l) w' := by
    rintro p ⟨h1, v, h2, h3, h4⟩
    exact ⟨h1, v, k.heap h2, ⟨h3.1, h3.2.imp id (fun ⟨g, c, cur, fz, q1, q2, q3, q4⟩ => ⟨g, c, cur, fz, q1, q2, k.heap q3, q4⟩)⟩, h4⟩
  rcases h with h | h
  · exact Or.inl (go _ h)
  · exact Or.inr (go _ h)
theorem bld_write (b : Nat) (l p : List UInt8) (s : ByteArray) (hs : s.data.toList = p) (w : World) (h : Bld b l w) (hl : l.length + p.length ≤ 1000000000) :
    Calls Tryd.prog 70 #[.pointer (some ⟨b, 0, none⟩), .string s] w fun e w' => e = .returned (.tuple #[.int .i64 s.size, .nilIface]) ∧ Bld b (l ++ p) w' ∧ Beside b w w' := by
  have hsz : s.size = p.length := by rw [← hs, size_len]
  have hlt := Bld.lt h
  have hc : (Lib.byteCells l).length = l.length := by unfold Lib.byteCells; rw [List.length_map]
  have q := Any.Builder_WriteString_k (P := Tryd.prog) (ρ := Tryd.lays156_ren) { Tryd.lays156 with } Tryd.Builder_Extra_156 b b (Lib.byteCells l) s w h (by rw [hc]; omega) (by omega)
  refine q.mono ?_
  rintro e w' ⟨rfl, h1, h2, h3⟩
  have e1 : Lib.byteCells l ++ Lib.strCells s = Lib.byteCells (l ++ p) := by rw [Lib.strCells_eq, hs]; unfold Lib.byteCells; rw [List.map_append]
  rw [e1] at h1
  exact ⟨rfl, Or.inr h1, h2, h3⟩
theorem bld_string (b : Nat) (l : List UInt8) (w : World) (h : Bld b l w) :
    Calls Tryd.prog 73 #[.pointer (some ⟨b, 0, none⟩)] w fun e w' => e = .returned (.string (bs l)) ∧ Beside b w w' := by
  have hlt := Bld.lt h
  refine (Any.Builder_String_any_k (P := Tryd.prog) (ρ := Tryd.lays156_ren) { Tryd.lays156 with } Tryd.Builder_Extra_156 b b l w h (by omega)).mono ?_
  rintro e w' ⟨rfl, _, h2, h3⟩
  exact ⟨rfl, h2, h3⟩
end Go.Proofs.YtedfpoidggpkdaaDoor
