/- Rows of whole numbers that a call gathers itself, as a function of the place. -/
import Derived.Test.YtnclibfhbngkjaaGreatDoorM2
namespace Go.Proofs.YtnclibfhbngkjaaGreatDoor
open Go.RowKit
def intsV (N : Nat) (f : Nat → Int) : List Value := (List.range N).map fun i => .int .i64 (f i)
theorem intsV_len (N : Nat) (f : Nat → Int) : (intsV N f).length = N := by simp [intsV]
theorem intsV_get {N i : Nat} (f : Nat → Int) (h : i < N) : (intsV N f)[i]? = some (.int .i64 (f i)) := by simp [intsV, h]
theorem intsV_congr {N : Nat} {f f' : Nat → Int} (h : ∀ i, i < N → f i = f' i) : intsV N f = intsV N f' := by
  unfold intsV
  apply List.map_congr_left
  intro i hi
  rw [h i (List.mem_range.1 hi)]
theorem intsV_set (N i : Nat) (f : Nat → Int) (x : Int) : (intsV N f).set i (.int .i64 x) = intsV N (fun j => if j = i then x else f j) := by
  apply List.ext_getElem?
  intro j
  rw [List.getElem?_set]
  by_cases hj : j < N
  · rw [intsV_get f hj, intsV_get (fun j => if j = i then x else f j) hj]
    by_cases e : i = j
    · subst e; rw [if_pos rfl, if_pos (by rw [intsV_len]; omega), if_pos rfl]
    · rw [if_neg e, if_neg (fun (k : j = i) => e (Eq.symm k))]
  · have h1 : ∀ g, (intsV N g)[j]? = none := fun g => List.getElem?_eq_none (by rw [intsV_len]; omega)
    rw [h1, h1]
    by_cases e : i = j
    · rw [if_pos e, if_neg (by rw [intsV_len]; omega)]
    · rw [if_neg e]
def OwnI (w : World) (base g cap N : Nat) (f : Nat → Int) : Prop := w.ownsRow base 3 1 (.slice (some ⟨g, 0, none⟩) N cap) N (intsV N f)
theorem OwnI.congr {w : World} {base g cap N : Nat} {f f' : Nat → Int} (h : OwnI w base g cap N f) (e : ∀ i, i < N → f i = f' i) : OwnI w base g cap N f' := by
  unfold OwnI at h ⊢
  rw [← intsV_congr e]; exact h
theorem OwnI.row {w : World} {base g cap N : Nat} {f : Nat → Int} (h : OwnI w base g cap N f) :
    base ≤ g ∧ N ≤ cap ∧ ∃ cur, w.heap[g]? = some (.cells cur 3 (0, 0)) ∧ cur.size = cap ∧ cur.toList.take N = intsV N f := by
  rcases h.2 with ⟨h1, _⟩ | ⟨g', c, cur, h1, hb, hg, hn, hm, hs, ht⟩
  · cases h1
  · simp only [Value.slice.injEq, Option.some.injEq, Addr.mk.injEq, and_true] at h1
    obtain ⟨rfl, _, rfl⟩ := h1
    refine ⟨hb, by simpa using hn, cur, hg, by simpa using hs, ?_⟩
    rw [Nat.mul_one] at ht
    exact ht
theorem OwnI.cell {w : World} {base g cap N : Nat} {f : Nat → Int} (h : OwnI w base g cap N f) {i : Nat} (hi : i < N) : w.cell? ⟨g, i, none⟩ = some (.int .i64 (f i)) := by
  rw [World.ownsRow.cellAt h i (by omega)]
  exact intsV_get f hi
theorem OwnI.free {w : World} {base g cap N : Nat} {f : Nat → Int} (h : OwnI w base g cap N f) (i : Nat) : w.frozen? ⟨g, i, none⟩ = false := by
  obtain ⟨_, _, cur, hg, _⟩ := h.row
  exact blk_free hg i
theorem OwnI.lt {w : World} {base g cap N : Nat} {f : Nat → Int} (h : OwnI w base g cap N f) : g < w.heap.size := by
  obtain ⟨_, _, cur, hg, _⟩ := h.row
  exact (Array.getElem?_eq_some_iff.1 hg).1
theorem OwnI.ext {w w' : World} {base g cap N : Nat} {f : Nat → Int} (h : OwnI w base g cap N f) (k : Ext w w') : OwnI w' base g cap N f := by
  refine ⟨h.1, ?_⟩
  rcases h.2 with h1 | ⟨g, c, cur, h1, hb, hg, r⟩
  · exact Or.inl h1
  · exact Or.inr ⟨g, c, cur, h1, hb, k.heap hg, r⟩
theorem OwnI.drewN {w : World} {base g cap N : Nat} {f : Nat → Int} (h : OwnI w base g cap N f) (n : Nat) : OwnI (w.drewN n) base g cap N f := h
theorem OwnI.empty (w : World) (base : Nat) (hb : base ≤ w.heap.size) (f : Nat → Int) : OwnI (w.alloc (.cells #[] 3)) base w.heap.size 0 0 f :=
  ⟨rfl, Or.inr ⟨w.heap.size, 0, #[], rfl, hb, heap_alloc_new w _, Nat.le_refl _, by unfold maxLen; omega, rfl, rfl⟩⟩
theorem OwnI.set {w : World} {base g cap N : Nat} {f : Nat → Int} (h : OwnI w base g cap N f) (i : Nat) (x : Int) :
    OwnI (w.setCell ⟨g, i, none⟩ (.int .i64 x)) base g cap N (fun j => if j = i then x else f j) := by
  refine ⟨by rw [intsV_len]; omega, ?_⟩
  rcases h.2 with ⟨h1, _⟩ | ⟨g', c, cur, h1, hb, hg, hn, hm, hs, ht⟩
  · cases h1
  · simp only [Value.slice.injEq, Option.some.injEq, Addr.mk.injEq, and_true] at h1
    obtain ⟨rfl, _, rfl⟩ := h1
    refine Or.inr ⟨g, cap, cur.setIfInBounds i (.int .i64 x), by simp, hb, setCell_row hg _, by simpa using hn, hm, by simpa using hs, ?_⟩
    rw [Array.toList_setIfInBounds, List.take_set, ht, intsV_set]
/-- 'out = append(out, x)'. -/
theorem append_ints {w : World} {ops : Array Oper} {rest : List Oper} {o : Oper} {a : Act} {Q : Exit → Act → World → Prop} (hgd : o.guard = none) (s x : Operand)
    (ho : o.op = .call { callee := .builtin .append, args := #[s, x], argTypes := #[120, 120] })
    (base g cap N : Nat) (f : Nat → Int) (p : Int) (hp : p = f N) (hs : a.eval s = .slice (some ⟨g, 0, none⟩) N cap) (hown : OwnI w base g cap N f)
    (hx : a.eval x = .slice (some ⟨w.heap.size, 0, none⟩) 1 1)
    (h63 : N + 1 ≤ 1099511627776) (hbase : base ≤ w.heap.size)
    (h : ∀ g' cap' w', OwnI w' base g' cap' (N + 1) f → Below base w w' →
      wpList Tryz.prog ops Q rest (a.put o.dst (.slice (some ⟨g', 0, none⟩) (N + 1) cap')) w') :
    wpList Tryz.prog ops Q (o :: rest) a (w.alloc (.cells #[.int .i64 p] 3)) := by
  refine append_one hgd s x _ ho 3 (.int .i64 0) 8 Tryz.underlying120 info_int rfl base (some ⟨g, 0, none⟩) N cap _ hs hown (.int .i64 p) rfl hx h63 (by decide) hbase ?_
  intro g' cap' w' hown' hcap hb _
  refine h g' cap' w' ?_ hb
  unfold OwnI
  have e : intsV (N + 1) f = intsV N f ++ [.int .i64 p] := by simp [intsV, List.range_succ, hp]
  rw [e]; exact hown'
end Go.Proofs.YtnclibfhbngkjaaGreatDoor
