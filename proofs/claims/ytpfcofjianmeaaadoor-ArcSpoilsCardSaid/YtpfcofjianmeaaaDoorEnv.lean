/- What every world of a law's run keeps: the library's variables have their shapes; the words in which contracts speak of lists of texts. -/
import Derived.Test.YtpfcofjianmeaaaDoorProg
import Derived.Test.YtpfcofjianmeaaaDoorBase
import Derived.ChangeAgain
import Derived.BigQuiet
import Derived.Deep.QuietTactic
import Derived.Handy
namespace Go.Proofs.YtpfcofjianmeaaaDoor
open Go.RowKit

/-- Behind it nothing of what was there has turned. -/
def Ext (w w' : World) : Prop := Below w.heap.size w w'
theorem Ext.refl (w : World) : Ext w w := Below.refl _ _
theorem Ext.trans {a b c : World} (h : Ext a b) (k : Ext b c) : Ext a c := Below.trans h (Below.mono k h.size)
theorem Ext.alloc (w : World) (o : Obj) : Ext w (w.alloc o) := (Below.refl _ _).alloc (Nat.le_refl _) _
theorem Ext.drew {a b : World} (h : Ext a b) : Ext a b.drew := Below.drew h
theorem Ext.drewN {a b : World} (h : Ext a b) (n : Nat) : Ext a (b.drewN n) := ⟨h.os, h.tape, h.output, h.size, h.block⟩
theorem Ext.of_below {w w' : World} {B : Nat} (h : Below B w w') (hB : w.heap.size ≤ B) : Ext w w' := h.mono hB
theorem Ext.size {w w' : World} (h : Ext w w') : w.heap.size ≤ w'.heap.size := Below.size h
theorem Ext.cell {w w' : World} (h : Ext w w') {p : Addr} {v : Value} (hc : w.cell? p = some v) : w'.cell? p = some v := by
  have hp : p.block < w.heap.size := by
    rcases Nat.lt_or_ge p.block w.heap.size with hl | hl
    · exact hl
    · have e : w.heap[p.block]? = none := Array.getElem?_eq_none hl
      simp [World.cell?, e] at hc
  rw [Below.cell h hp]; exact hc
theorem Ext.heap {w w' : World} (h : Ext w w') {b : Nat} {o : Obj} (hc : w.heap[b]? = some o) : w'.heap[b]? = some o := by
  have hp : b < w.heap.size := by
    rcases Nat.lt_or_ge b w.heap.size with hl | hl
    · exact hl
    · rw [Array.getElem?_eq_none hl] at hc; cases hc
  rw [h.block b hp]; exact hc

structure Env (w : World) : Prop where
  shaped : w.ShapedOpen Tryd.prog
theorem Env.ext {w w' : World} (h : Env w) (k : Ext w w') : Env w' :=
  ⟨h.shaped.keptBut (Below.frame k (fun _ => False)) (fun _ hp => hp.elim)⟩

/-- A slice at this address has these texts. -/
def Strs (w : World) (a : Option Addr) (L : List (List UInt8)) : Prop :=
  L = [] ∨ ∃ g off, a = some ⟨g, off, none⟩ ∧ g < w.heap.size ∧ ∀ i, i < L.length → w.cell? ⟨g, off + i, none⟩ = some (.string (bs (L.getD i [])))
theorem Strs.nil (w : World) (a : Option Addr) : Strs w a [] := Or.inl rfl
theorem Strs.ext {w w' : World} {a : Option Addr} {L : List (List UInt8)} (h : Strs w a L) (k : Ext w w') : Strs w' a L := by
  rcases h with h | ⟨g, off, ha, hg, hc⟩
  · exact Or.inl h
  · exact Or.inr ⟨g, off, ha, Nat.lt_of_lt_of_le hg k.size, fun i hi => k.cell (hc i hi)⟩
theorem Strs.at {w : World} {a : Option Addr} {L : List (List UInt8)} (h : Strs w a L) (hL : L ≠ []) :
    ∃ g off, a = some ⟨g, off, none⟩ ∧ g < w.heap.size ∧ ∀ i, i < L.length → w.cell? ⟨g, off + i, none⟩ = some (.string (bs (L.getD i []))) :=
  h.resolve_left hL
theorem Strs.at0 {w : World} {b : Nat} {L : List (List UInt8)} (h : Strs w (some ⟨b, 0, none⟩) L) :
    ∀ i, i < L.length → w.cell? ⟨b, i, none⟩ = some (.string (bs (L.getD i []))) := by
  intro i hi
  rcases h with h | ⟨g, off, ha, _, hc⟩
  · rw [h] at hi; simp at hi
  · have ha := Option.some.inj ha
    obtain ⟨rfl, rfl⟩ : g = b ∧ off = 0 := by constructor <;> (cases ha; rfl)
    have := hc i hi
    rwa [Nat.zero_add] at this
/-- A new block of texts. -/
theorem Strs.made (w : World) (L : List (List UInt8)) (t : TypeId) : Strs (w.alloc (.cells ((L.map bs).map Value.string).toArray t)) (some ⟨w.heap.size, 0, none⟩) L := by
  refine Or.inr ⟨w.heap.size, 0, rfl, by simp, fun i hi => ?_⟩
  have h : (w.alloc (.cells ((L.map bs).map Value.string).toArray t)).heap[w.heap.size]? = some (.cells ((L.map bs).map Value.string).toArray t (0, 0)) := by
    show (w.heap.push _)[w.heap.size]? = _
    simp
  unfold World.cell?
  simp only [h]
  simp [hi]
end Go.Proofs.YtpfcofjianmeaaaDoor
