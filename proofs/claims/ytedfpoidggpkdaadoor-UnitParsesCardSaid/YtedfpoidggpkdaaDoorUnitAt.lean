/- A unit in memory. -/
import Derived.Test.YtedfpoidggpkdaaDoorUnitAdd
import Derived.Test.YtedfpoidggpkdaaDoorUnitLists
namespace Go.Proofs.YtedfpoidggpkdaaDoor
open Go.RowKit
/-- The block of this address. -/
def blkOf (a : Option Addr) : Option Nat := a.map (·.block)
theorem own_blk (a : Option Addr) (n c : Nat) : (Value.slice a n c).ownBlock = blkOf a := by cases a <;> rfl
/-- A unit that is being gathered stands in this block; its lists, in blocks of their own. -/
structure UnitAt (w : World) (base B : Nat) (u : UnitD) (A : Nat → Option Addr) (C : Nat → Nat) : Prop where
  blk : w.heap[B]? = some (.cells #[.string (bs u.name), .slice (A 1) u.files.length (C 1), .slice (A 2) u.after.length (C 2), .slice (A 3) u.before.length (C 3), .slice (A 4) u.reqs.length (C 4), .slice (A 5) u.wants.length (C 5), .slice (A 6) u.partof.length (C 6), .int .i64 u.retry] 56 (0, 0))
  rows : ∀ f, 1 ≤ f → f ≤ 6 → OwnS w base (A f) (C f) (u.row f)
  apart : ∀ f g, 1 ≤ f → f ≤ 6 → 1 ≤ g → g ≤ 6 → f ≠ g → ∀ x, blkOf (A f) = some x → blkOf (A g) ≠ some x
  lt : B < base
  size : base ≤ w.heap.size
theorem UnitAt.cell {w : World} {base B : Nat} {u : UnitD} {A : Nat → Option Addr} {C : Nat → Nat} (h : UnitAt w base B u A C) (f : Nat) (h1 : 1 ≤ f) (h6 : f ≤ 6) : w.cell? ⟨B, f, none⟩ = some (.slice (A f) (u.row f).length (C f)) ∧ w.frozen? ⟨B, f, none⟩ = false := by
  refine ⟨?_, blk_free h.blk f⟩
  have hf : f = 1 ∨ f = 2 ∨ f = 3 ∨ f = 4 ∨ f = 5 ∨ f = 6 := by omega
  rcases hf with rfl | rfl | rfl | rfl | rfl | rfl <;> exact blk_cell h.blk _ _ rfl
theorem UnitAt.own_lt {w : World} {base B : Nat} {u : UnitD} {A : Nat → Option Addr} {C : Nat → Nat} (h : UnitAt w base B u A C) {f x : Nat} (h1 : 1 ≤ f) (h6 : f ≤ 6) (hx : blkOf (A f) = some x) : base ≤ x ∧ x < w.heap.size :=
  World.ownsRow.lt (h.rows f h1 h6) x (by rw [own_blk]; exact hx)
/-- What a call that leaves the unit alone leaves of it. -/
theorem UnitAt.keep {S : Nat → Prop} {w w' : World} {base B : Nat} {u : UnitD} {A : Nat → Option Addr} {C : Nat → Nat} (h : UnitAt w base B u A C) (k : Keep S w w') (hB : S B) (hS : ∀ x, base ≤ x → x < w.heap.size → S x) : UnitAt w' base B u A C :=
  ⟨k.heap hB h.blk, fun f h1 h6 => ownsRow_keep (h.rows f h1 h6) k (fun g _ hg hb _ => hS g hb (World.ownsRow.lt (h.rows f h1 h6) g hg).2), h.apart, h.lt, Nat.le_trans h.size k.size⟩
theorem UnitAt.ext {w w' : World} {base B : Nat} {u : UnitD} {A : Nat → Option Addr} {C : Nat → Nat} (h : UnitAt w base B u A C) (k : Ext w w') : UnitAt w' base B u A C := h.keep (Keep.of_ext (S := fun _ => True) k) trivial (fun _ _ _ => trivial)
/-- Behind a text more on a list. -/
theorem UnitAt.added {w w' : World} {base B f : Nat} {u : UnitD} {A : Nat → Option Addr} {C : Nat → Nat} {s : Bs} {e : Ending} (h : UnitAt w base B u A C) (h1 : 1 ≤ f) (h6 : f ≤ 6) (ha : Added B f base (A f) (C f) (u.row f) s w e w') :
    ∃ A' C', UnitAt w' base B (u.put f (u.row f ++ [s])) A' C' ∧ Keep (fun k => k < base ∧ k ≠ B) w w' := by
  obtain ⟨_, g, c', w1, ho, hk, hb, hat, rfl⟩ := ha
  rw [own_blk] at hk hat
  have hlt := h.lt
  have hblk1 := (Keep.of_below hb).heap h.lt h.blk
  have hg : base ≤ g := (World.ownsRow.lt ho g rfl).1
  refine ⟨fun j => if j = f then some ⟨g, 0, none⟩ else A j, fun j => if j = f then c' else C j, ⟨?_, ?_, ?_, h.lt, ?_⟩, ?_⟩
  · rw [setCell_row hblk1]
    have hf : f = 1 ∨ f = 2 ∨ f = 3 ∨ f = 4 ∨ f = 5 ∨ f = 6 := by omega
    rcases hf with rfl | rfl | rfl | rfl | rfl | rfl <;> simp [UnitD.put, UnitD.row]
  · intro j j1 j6
    rw [row_put u f j _ h1 h6 j1 j6]
    by_cases hj : j = f
    · subst hj
      simp only [if_true]
      exact ownsRow_keep (S := (· ≠ B)) ho (Keep.setCell (Keep.refl _ _) (fun k hk => hk) _ _) (fun x _ _ hx _ => by show x ≠ B; omega)
    · simp only [if_neg hj]
      have o1 : OwnS w1 base (A j) (C j) (u.row j) := ownsRow_keep (h.rows j j1 j6) hk (fun x _ hx _ _ => by
        rw [own_blk] at hx
        intro e
        exact h.apart f j h1 h6 j1 j6 (fun e => hj e.symm) x e.symm hx)
      exact ownsRow_keep (S := (· ≠ B)) o1 (Keep.setCell (Keep.refl _ _) (fun k hk => hk) _ _) (fun x _ _ hx _ => by show x ≠ B; omega)
  · intro i j i1 i6 j1 j6 hij x hx hy
    by_cases hi : i = f
    · have hjf : j ≠ f := fun e => hij (hi.trans e.symm)
      simp only [if_pos hi] at hx
      simp only [if_neg hjf] at hy
      have hxg : g = x := by simpa [blkOf] using hx
      subst hxg
      rcases hat with h2 | h2
      · exact h.apart f j h1 h6 j1 j6 (fun e => hjf e.symm) g h2 hy
      · have := (h.own_lt j1 j6 hy).2; omega
    · by_cases hj : j = f
      · simp only [if_neg hi] at hx
        simp only [if_pos hj] at hy
        have hxg : g = x := by simpa [blkOf] using hy
        subst hxg
        rcases hat with h2 | h2
        · exact h.apart f i h1 h6 i1 i6 (fun e => hi e.symm) g h2 hx
        · have := (h.own_lt i1 i6 hx).2; omega
      · simp only [if_neg hi] at hx
        simp only [if_neg hj] at hy
        exact h.apart i j i1 i6 j1 j6 hij x hx hy
  · have := hb.size
    have h3 : (w1.setCell ⟨B, f, none⟩ (.slice (some ⟨g, 0, none⟩) ((u.row f).length + 1) c')).heap.size = w1.heap.size := by simp [World.setCell]
    rw [h3]; exact Nat.le_trans h.size this
  · exact Keep.setCell ((Keep.of_below hb).mono (fun k _ hk => hk.1)) (fun k hk => hk.2) _ _
/-- Behind a store into the unit's block. -/
theorem UnitAt.set {w : World} {base B : Nat} {u v : UnitD} {A : Nat → Option Addr} {C : Nat → Nat} (h : UnitAt w base B u A C) (i : Nat) (x : Value) (hrow : ∀ f, 1 ≤ f → f ≤ 6 → v.row f = u.row f)
    (hc : (#[Value.string (bs u.name), .slice (A 1) u.files.length (C 1), .slice (A 2) u.after.length (C 2), .slice (A 3) u.before.length (C 3), .slice (A 4) u.reqs.length (C 4), .slice (A 5) u.wants.length (C 5), .slice (A 6) u.partof.length (C 6), .int .i64 u.retry] : Array Value).setIfInBounds i x
      = #[.string (bs v.name), .slice (A 1) v.files.length (C 1), .slice (A 2) v.after.length (C 2), .slice (A 3) v.before.length (C 3), .slice (A 4) v.reqs.length (C 4), .slice (A 5) v.wants.length (C 5), .slice (A 6) v.partof.length (C 6), .int .i64 v.retry]) :
    UnitAt (w.setCell ⟨B, i, none⟩ x) base B v A C ∧ Keep (fun k => k < base ∧ k ≠ B) w (w.setCell ⟨B, i, none⟩ x) := by
  have hlt := h.lt
  refine ⟨⟨by rw [setCell_row h.blk, hc], fun f h1 h6 => ?_, h.apart, h.lt, by simpa [World.setCell] using h.size⟩, Keep.setCell (Keep.refl _ _) (fun k hk => hk.2) _ _⟩
  rw [hrow f h1 h6]
  exact ownsRow_keep (S := (· ≠ B)) (h.rows f h1 h6) (Keep.setCell (Keep.refl _ _) (fun k hk => hk) _ _) (fun x _ _ hx _ => by show x ≠ B; omega)
end Go.Proofs.YtedfpoidggpkdaaDoor
