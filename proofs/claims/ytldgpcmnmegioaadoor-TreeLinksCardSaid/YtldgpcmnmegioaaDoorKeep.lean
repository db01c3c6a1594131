/- What a call leaves as it was: the blocks of a kind; data that lies in such blocks. -/
import Derived.Test.YtldgpcmnmegioaaDoorOwn
import Derived.Test.YtldgpcmnmegioaaDoorRecSpec
namespace Go.Proofs.YtldgpcmnmegioaaDoor
open Go.RowKit
/-- A slice at this address has these bytes. -/
def Bytes (w : World) (a : Option Addr) (l : List UInt8) : Prop :=
  l = [] ∨ ∃ g off, a = some ⟨g, off, none⟩ ∧ g < w.heap.size ∧ ∀ i, i < l.length → w.cell? ⟨g, off + i, none⟩ = some (.int .u8 (byteAt l i : Nat))
theorem Bytes.ext {w w' : World} {a : Option Addr} {l : List UInt8} (h : Bytes w a l) (k : Ext w w') : Bytes w' a l := by
  rcases h with h | ⟨g, off, ha, hg, hc⟩
  · exact Or.inl h
  · exact Or.inr ⟨g, off, ha, Nat.lt_of_lt_of_le hg k.size, fun i hi => k.cell (hc i hi)⟩
theorem Bytes.at {w : World} {a : Option Addr} {l : List UInt8} (h : Bytes w a l) (hL : l ≠ []) :
    ∃ g off, a = some ⟨g, off, none⟩ ∧ g < w.heap.size ∧ ∀ i, i < l.length → w.cell? ⟨g, off + i, none⟩ = some (.int .u8 (byteAt l i : Nat)) :=
  h.resolve_left hL
/-- But for one block all that was there is as it was. -/
structure But (R : Nat) (w w' : World) : Prop where
  os : w'.os = w.os
  tape : w'.tape = w.tape
  output : w'.output = w.output
  size : w.heap.size ≤ w'.heap.size
  block : ∀ k, k < w.heap.size → k ≠ R → w'.heap[k]? = w.heap[k]?
theorem But.refl (R : Nat) (w : World) : But R w w := ⟨rfl, rfl, rfl, Nat.le_refl _, fun _ _ _ => rfl⟩
theorem But.trans {R : Nat} {a b c : World} (h : But R a b) (k : But R b c) : But R a c :=
  ⟨k.os.trans h.os, k.tape.trans h.tape, k.output.trans h.output, Nat.le_trans h.size k.size, fun i hi hn => (k.block i (Nat.lt_of_lt_of_le hi h.size) hn).trans (h.block i hi hn)⟩
theorem But.of_ext {R : Nat} {a b : World} (h : Ext a b) : But R a b := ⟨h.os, h.tape, h.output, h.size, fun k hk _ => h.block k hk⟩
theorem But.drewN {R : Nat} {a b : World} (h : But R a b) (n : Nat) : But R a (b.drewN n) := ⟨h.os, h.tape, h.output, h.size, h.block⟩
theorem But.alloc {R : Nat} {a b : World} (h : But R a b) (o : Obj) : But R a (b.alloc o) := h.trans (But.of_ext (Ext.alloc _ _))
theorem But.setCell {R : Nat} {a b : World} (h : But R a b) (i : Nat) (v : Value) : But R a (b.setCell ⟨R, i, none⟩ v) :=
  h.trans ⟨rfl, rfl, rfl, by simp [World.setCell], fun k _ hk => Below.heap_setCell _ _ _ _ hk⟩
/-- From before the block was made. -/
theorem But.ext {R : Nat} {w a b : World} (h : Ext w a) (k : But R a b) (hR : w.heap.size ≤ R) : Ext w b :=
  ⟨k.os.trans h.os, k.tape.trans h.tape, k.output.trans h.output, Nat.le_trans h.size k.size, fun i hi => (k.block i (Nat.lt_of_lt_of_le hi h.size) (by omega)).trans (h.block i hi)⟩
theorem But.cell {R : Nat} {w w' : World} (k : But R w w') {g o : Nat} {v : Value} (hg : g ≠ R) (hv : w.cell? ⟨g, o, none⟩ = some v) : w'.cell? ⟨g, o, none⟩ = some v := by
  have hlt : g < w.heap.size := by
    rcases Nat.lt_or_ge g w.heap.size with hl | hl
    · exact hl
    · have e : w.heap[g]? = none := Array.getElem?_eq_none hl
      simp [World.cell?, e] at hv
  rw [World.cell?_of_block (w := w) (w' := w') (a := ⟨g, o, none⟩) (k.block g hlt hg)]; exact hv
/-- The reader's block with another row. -/
theorem setCell_row {w : World} {R i : Nat} {cs : Array Value} {t : TypeId} {fr : Nat × Nat} (hg : w.heap[R]? = some (.cells cs t fr)) (v : Value) :
    (w.setCell ⟨R, i, none⟩ v).heap[R]? = some (.cells (cs.setIfInBounds i v) t fr) := by
  simp only [World.setCell, Array.getElem?_modify, hg]
  simp
/-- w' is w in all blocks of a kind. -/
structure Keep (S : Nat → Prop) (w w' : World) : Prop where
  os : w'.os = w.os
  tape : w'.tape = w.tape
  output : w'.output = w.output
  size : w.heap.size ≤ w'.heap.size
  block : ∀ k, k < w.heap.size → S k → w'.heap[k]? = w.heap[k]?
theorem Keep.refl (S : Nat → Prop) (w : World) : Keep S w w := ⟨rfl, rfl, rfl, Nat.le_refl _, fun _ _ _ => rfl⟩
theorem Keep.trans {S : Nat → Prop} {a b c : World} (h : Keep S a b) (k : Keep S b c) : Keep S a c :=
  ⟨k.os.trans h.os, k.tape.trans h.tape, k.output.trans h.output, Nat.le_trans h.size k.size, fun i hi hn => (k.block i (Nat.lt_of_lt_of_le hi h.size) hn).trans (h.block i hi hn)⟩
theorem Keep.mono {S T : Nat → Prop} {a b : World} (h : Keep S a b) (hT : ∀ k, k < a.heap.size → T k → S k) : Keep T a b := ⟨h.os, h.tape, h.output, h.size, fun k hk hS => h.block k hk (hT k hk hS)⟩
theorem Keep.of_ext {S : Nat → Prop} {a b : World} (h : Ext a b) : Keep S a b := ⟨h.os, h.tape, h.output, h.size, fun k hk _ => h.block k hk⟩
theorem Keep.of_below {B : Nat} {a b : World} (h : Below B a b) : Keep (· < B) a b := ⟨h.os, h.tape, h.output, h.size, fun k _ hS => h.block k hS⟩
theorem Keep.of_but {R : Nat} {a b : World} (h : But R a b) : Keep (· ≠ R) a b := ⟨h.os, h.tape, h.output, h.size, fun k hk hS => h.block k hk hS⟩
theorem Keep.of_grown {row : Option Nat} {a b : World} (h : a.grownBy b row) : Keep (fun k => some k ≠ row) a b := ⟨h.os, h.tape, h.output, h.size, fun k hk hS => h.block k hk hS⟩
theorem Keep.ext {a b : World} (h : Keep (fun _ => True) a b) : Ext a b := ⟨h.os, h.tape, h.output, h.size, fun k hk => h.block k hk trivial⟩
theorem Keep.drewN {S : Nat → Prop} {a b : World} (h : Keep S a b) (n : Nat) : Keep S a (b.drewN n) := ⟨h.os, h.tape, h.output, h.size, h.block⟩
theorem Keep.heap {S : Nat → Prop} {w w' : World} (h : Keep S w w') {g : Nat} {o : Obj} (hS : S g) (hg : w.heap[g]? = some o) : w'.heap[g]? = some o :=
  (h.block g (Array.getElem?_eq_some_iff.1 hg).1 hS).trans hg
theorem lt_of_cell {w : World} {g o : Nat} {v : Value} (hv : w.cell? ⟨g, o, none⟩ = some v) : g < w.heap.size := by
  rcases Nat.lt_or_ge g w.heap.size with hl | hl
  · exact hl
  · have e : w.heap[g]? = none := Array.getElem?_eq_none hl
    simp [World.cell?, e] at hv
theorem Keep.cell {S : Nat → Prop} {w w' : World} (k : Keep S w w') {g o : Nat} {v : Value} (hg : S g) (hv : w.cell? ⟨g, o, none⟩ = some v) : w'.cell? ⟨g, o, none⟩ = some v := by
  rw [World.cell?_of_block (w := w) (w' := w') (a := ⟨g, o, none⟩) (k.block g (lt_of_cell hv) hg)]; exact hv
/-- A slice at this address has these cells, in a block of a kind. -/
def Row (S : Nat → Prop) (w : World) (a : Option Addr) (cs : List Value) : Prop :=
  cs = [] ∨ ∃ g off, a = some ⟨g, off, none⟩ ∧ g < w.heap.size ∧ S g ∧ ∀ i, i < cs.length → w.cell? ⟨g, off + i, none⟩ = cs[i]?
theorem Row.keep {S : Nat → Prop} {w w' : World} {a : Option Addr} {cs : List Value} (h : Row S w a cs) (k : Keep S w w') : Row S w' a cs := by
  rcases h with h | ⟨g, off, ha, hg, hS, hc⟩
  · exact Or.inl h
  · refine Or.inr ⟨g, off, ha, Nat.lt_of_lt_of_le hg k.size, hS, fun i hi => ?_⟩
    have := hc i hi
    rw [List.getElem?_eq_getElem hi] at this ⊢
    exact k.cell hS this
theorem Row.mono {S T : Nat → Prop} {w : World} {a : Option Addr} {cs : List Value} (h : Row S w a cs) (hT : ∀ k, k < w.heap.size → S k → T k) : Row T w a cs := by
  rcases h with h | ⟨g, off, ha, hg, hS, hc⟩
  · exact Or.inl h
  · exact Or.inr ⟨g, off, ha, hg, hT g hg hS, hc⟩
theorem Row.at {S : Nat → Prop} {w : World} {a : Option Addr} {cs : List Value} (h : Row S w a cs) (hL : cs ≠ []) :
    ∃ g off, a = some ⟨g, off, none⟩ ∧ g < w.heap.size ∧ S g ∧ ∀ i, i < cs.length → w.cell? ⟨g, off + i, none⟩ = cs[i]? := h.resolve_left hL
/-- Bytes in a block of a kind. -/
def byteV (l : List UInt8) : List Value := l.map fun b => .int .u8 (b.toNat : Int)
def BytesS (S : Nat → Prop) (w : World) (a : Option Addr) (l : List UInt8) : Prop := Row S w a (byteV l)
theorem byteV_at {l : List UInt8} {i : Nat} (hi : i < l.length) : (byteV l)[i]? = some (.int .u8 (byteAt l i : Nat)) := by
  simp [byteV, byteAt, hi]
theorem BytesS.bytes {S : Nat → Prop} {w : World} {a : Option Addr} {l : List UInt8} (h : BytesS S w a l) : Bytes w a l := by
  rcases h with h | ⟨g, off, ha, hg, hS, hc⟩
  · left; simpa [byteV] using h
  · refine Or.inr ⟨g, off, ha, hg, fun i hi => ?_⟩
    rw [hc i (by simpa [byteV] using hi), byteV_at hi]
theorem Bytes.row {w : World} {a : Option Addr} {l : List UInt8} (h : Bytes w a l) : BytesS (fun _ => True) w a l := by
  rcases h with h | ⟨g, off, ha, hg, hc⟩
  · left; simp [byteV, h]
  · refine Or.inr ⟨g, off, ha, hg, trivial, fun i hi => ?_⟩
    have hi' : i < l.length := by simpa [byteV] using hi
    rw [hc i hi', byteV_at hi']
theorem cell_new (w : World) (cs : Array Value) (t : TypeId) (i : Nat) (v : Value) (h : cs[i]? = some v) : (w.alloc (.cells cs t)).cell? ⟨w.heap.size, i, none⟩ = some v := by
  rw [cell_of_row _ _ _ _ _ _ (heap_alloc_new w _)]; exact h
theorem ext_below {a b c d : World} {B : Nat} (hB : a.heap.size = B) (h : Ext a b) (h2 : Ext b c) (h3 : Below B c d) : Ext a d := by
  subst hB
  exact Below.trans (h.trans h2) h3
theorem blk_cell {w : World} {R : Nat} {cs : Array Value} {t : TypeId} (hg : w.heap[R]? = some (.cells cs t (0, 0))) (i : Nat) (v : Value) (hi : cs[i]? = some v) : w.cell? ⟨R, i, none⟩ = some v := by
  rw [cell_of_row _ _ _ _ _ _ hg]; exact hi
theorem blk_free {w : World} {R : Nat} {cs : Array Value} {t : TypeId} (hg : w.heap[R]? = some (.cells cs t (0, 0))) (i : Nat) : w.frozen? ⟨R, i, none⟩ = false := by
  unfold World.frozen?; simp only [hg]; simp
theorem Keep.setCell {S : Nat → Prop} {a b : World} (h : Keep S a b) {R : Nat} (hR : ∀ k, S k → k ≠ R) (i : Nat) (v : Value) : Keep S a (b.setCell ⟨R, i, none⟩ v) :=
  h.trans ⟨rfl, rfl, rfl, by simp [World.setCell], fun k _ hS => Below.heap_setCell _ _ _ _ (hR k hS)⟩
theorem Keep.ext_trans {S : Nat → Prop} {a b c : World} (h : Keep S a b) (k : Ext b c) : Keep S a c := h.trans (Keep.of_ext k)
theorem ownsRow_keep {S : Nat → Prop} {w w' : World} {base e size n : Nat} {v : Value} {xs : List Value} (h : w.ownsRow base e size v n xs) (k : Keep S w w') (hS : ∀ g cur, v.ownBlock = some g → base ≤ g → w.heap[g]? = some (.cells cur e (0, 0)) → S g) : w'.ownsRow base e size v n xs := by
  refine ⟨h.1, ?_⟩
  rcases h.2 with h1 | ⟨g, c, cur, h1, hb, hg, r⟩
  · exact Or.inl h1
  · exact Or.inr ⟨g, c, cur, h1, hb, k.heap (hS g cur (by rw [h1]; rfl) hb hg) hg, r⟩
theorem Keep.ext_lt {a b : World} (h : Keep (· < a.heap.size) a b) : Ext a b := ⟨h.os, h.tape, h.output, h.size, fun k hk => h.block k hk hk⟩
theorem Keep.of_alloc {S : Nat → Prop} {w w' : World} {o : Obj} (h : Keep S (w.alloc o) w') : Keep S w w' := (Keep.of_ext (Ext.alloc w o)).trans h
end Go.Proofs.YtldgpcmnmegioaaDoor
