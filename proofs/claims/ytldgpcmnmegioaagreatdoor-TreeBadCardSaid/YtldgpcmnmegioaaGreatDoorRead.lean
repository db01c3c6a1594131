/- Arguments of whatever depth, read as plain data, with how much they weigh. -/
import Derived.Test.YtldgpcmnmegioaaGreatDoorM3
import Derived.Deep.Slices
import Derived.Deep.Fields
import Derived.DataReads
namespace Go.Proofs.YtldgpcmnmegioaaGreatDoor
open Go.RowKit Go.WideShapes Go.ChangeShapes Go.Deep
/-- A slice's elements: C cells each, read as R says. -/
def SliceOf {α : Type} (C : Nat) (R : World → List Value → α → Prop) (w : World) (a : Option Addr) (L : List α) : Prop :=
  L = [] ∨ ∃ g off, a = some ⟨g, off, none⟩ ∧ g < w.heap.size ∧ ∀ i (hi : i < L.length), ∃ cs, cs.length = C ∧ (∀ j, j < C → w.cell? ⟨g, off + i * C + j, none⟩ = cs[j]?) ∧ R w cs L[i]
theorem SliceOf.ext {α : Type} {C : Nat} {R : World → List Value → α → Prop} (hR : ∀ {w w' : World} {cs : List Value} {x : α}, R w cs x → Ext w w' → R w' cs x) {w w' : World} {a : Option Addr} {L : List α} (h : SliceOf C R w a L) (k : Ext w w') : SliceOf C R w' a L := by
  rcases h with h | ⟨g, off, ha, hg, hc⟩
  · exact Or.inl h
  · refine Or.inr ⟨g, off, ha, Nat.lt_of_lt_of_le hg k.size, fun i hi => ?_⟩
    obtain ⟨cs, h1, h2, h3⟩ := hc i hi
    refine ⟨cs, h1, fun j hj => ?_, hR h3 k⟩
    have := h2 j hj
    have hj' : j < cs.length := by omega
    rw [List.getElem?_eq_getElem hj'] at this ⊢
    exact k.cell this
theorem read_list {α : Type} {P : Nat → α → Prop} : ∀ (m : Nat), (∀ i, i < m → ∃ x, P i x) → ∃ L : List α, L.length = m ∧ ∀ i (hi : i < L.length), P i L[i]
  | 0, _ => ⟨[], rfl, fun i hi => by simp at hi⟩
  | m + 1, h => by
    obtain ⟨L, h1, h2⟩ := read_list m (fun i hi => h i (by omega))
    obtain ⟨x, hx⟩ := h m (by omega)
    refine ⟨L ++ [x], by simp [h1], fun i hi => ?_⟩
    by_cases hl : i < L.length
    · rw [List.getElem_append_left hl]; exact h2 i hl
    · have : i = m := by simp at hi; omega
      subst this
      rw [List.getElem_append_right (by omega)]
      simpa [h1] using hx
section
variable {H : Type} {enc : TypeId × Value → H} {P : Program} {w : World} {base : Nat} {spare : Nat → Bool} {held : Bool}
theorem bulk_append (l r : List (DataW H)) : Rows.uptoBulkAll (l ++ r) = Rows.uptoBulkAll l + Rows.uptoBulkAll r := by
  induction l with
  | nil => simp [Rows.uptoBulkAll]
  | cons x l ih => simp only [List.cons_append, Rows.uptoBulkAll, ih]; omega
/-- A slice that came in. R, wt: what an element reads as, and how much it weighs at most. -/
theorem read_slice {α : Type} {R : World → List Value → α → Prop} {wt : α → Nat} {t e : TypeId} {C fuel : Nat} {cs : List Value} {x : DataW H × List MemPlace} (ht : P.underlying t = some (.slice e)) (hC : P.cellsOf e = C) (hCp : 0 < C)
    (he : ∀ n cs y, DataW.trod enc P w base spare held n e cs = some y → ∃ v, R w cs v ∧ wt v ≤ Rows.uptoBulk y.1)
    (h : DataW.trod enc P w base spare held fuel t cs = some x) :
    ∃ (a : Option Addr) (L : List α) (c : Nat), cs = [.slice a L.length c] ∧ L.length ≤ c ∧ SliceOf C R w a L ∧ (L.map wt).sum + 1 ≤ Rows.uptoBulk x.1 := by
  subst hC
  rcases open_slice ht h with ⟨h1, h2⟩ | ⟨a, len, cap, m, n, D, Pl, hcs, _, hl, _, hm, hx, hi⟩
  · subst h1 h2
    exact ⟨none, [], 0, rfl, Nat.le_refl _, Or.inl rfl, by simp [Rows.uptoBulk]⟩
  · subst hx hcs
    have hlm : len ≤ m := by rw [hm]; split <;> omega
    obtain ⟨L, h1, h2⟩ := read_list (P := fun i v => ∃ cs', w.cells? base (a.add (i * P.cellsOf e)) (P.cellsOf e) = some cs' ∧ R w cs' v ∧ wt v ≤ Rows.uptoBulk (D i)) len (fun i hi' => by
      obtain ⟨cs', k1, k2⟩ := hi i (by omega)
      obtain ⟨v, k3, k4⟩ := he n cs' _ k2
      exact ⟨v, cs', k1, k3, k4⟩)
    have hsum : ∀ (k : Nat) (M : List α) (E : Nat → DataW H), M.length = k → (∀ i (hi : i < M.length), wt M[i] ≤ Rows.uptoBulk (E i)) → (M.map wt).sum ≤ Rows.uptoBulkAll ((List.range k).map E) := by
      intro k
      induction k with
      | zero => intro M E hM _; rw [List.eq_nil_of_length_eq_zero hM]; simp
      | succ k ih =>
        intro M E hM hE
        have hne : M ≠ [] := by intro e; rw [e] at hM; simp at hM
        have hlast : M.dropLast.length = k := by simp [hM]
        rw [← List.dropLast_concat_getLast hne, List.map_append, List.sum_append, List.range_succ, List.map_append, bulk_append]
        have a1 := ih M.dropLast E hlast (fun i hi => by
          have := hE i (by omega)
          simpa [List.getElem_dropLast] using this)
        have a2 := hE k (by omega)
        have e3 : M.getLast hne = M[k]'(by omega) := by rw [List.getLast_eq_getElem]; congr 1; omega
        simp only [List.map_cons, List.map_nil, List.sum_cons, List.sum_nil, Rows.uptoBulkAll, e3]
        omega
    refine ⟨some a, L, cap, by rw [h1], by omega, ?_, ?_⟩
    · by_cases hL : L = []
      · exact Or.inl hL
      · have hpos : 0 < L.length := List.length_pos_iff.2 hL
        obtain ⟨cs', k1, _, _⟩ := h2 0 hpos
        obtain ⟨_, k3, k4⟩ := World.cells?_some k1
        have hc0 := k4 0 hCp
        have e0 : (a.add (0 * P.cellsOf e)).add 0 = a := by simp [Addr.add]
        rw [e0, List.getElem?_eq_getElem (by omega)] at hc0
        obtain ⟨g, off, rfl, hlt⟩ := addr_plain hc0
        refine Or.inr ⟨g, off, rfl, hlt, fun i hi' => ?_⟩
        obtain ⟨cs', k1, k2, _⟩ := h2 i hi'
        obtain ⟨_, k3, k4⟩ := World.cells?_some k1
        refine ⟨cs', k3, fun j hj => ?_, k2⟩
        have := k4 j hj
        rwa [add_plain, add_plain] at this
    · have := hsum len L D h1 (fun i hi' => by obtain ⟨_, _, _, k⟩ := h2 i hi'; exact k)
      simp only [Rows.uptoBulk]
      omega
/-- A struct of one-cell fields: its fields' readings. -/
theorem read_struct {t : TypeId} {fs : Array Field} {fuel : Nat} {cs : List Value} {x : DataW H × List MemPlace} (ht : P.underlying t = some (.struct fs)) (hone : oneCellFields P fs = true) (hC : P.cellsOf t = fs.size)
    (h : DataW.trod enc P w base spare held fuel t cs = some x) :
    ∃ (ys : List (DataW H × List MemPlace)) (n : Nat), x.1 = .agg (ys.map (·.1)) ∧ cs.length = fs.size ∧ ys.length = fs.size ∧
      ∀ (j : Nat) (f : Field), fs[j]? = some f → ∃ v y, cs[j]? = some v ∧ ys[j]? = some y ∧ DataW.trod enc P w base spare held n f.type [v] = some y := by
  obtain ⟨ys, n, _, hx, hlen, hyl, hf⟩ := DataW.trod_struct ht h
  refine ⟨ys, n, by rw [hx], by rw [hlen, hC], hyl, fun j f hj => ?_⟩
  obtain ⟨ho, hk⟩ := hone_of hone j f hj
  have hjl : j < fs.size := (Array.getElem?_eq_some_iff.1 hj).1
  have h1 := hf j f hj
  rw [ho, hk] at h1
  have hj2 : j < cs.length := by omega
  have hone' : (cs.drop j).take 1 = [cs[j]'hj2] := by
    rw [List.drop_eq_getElem_cons hj2]; rfl
  rw [hone'] at h1
  have hys : ys[j]? = some (ys[j]'(by omega)) := List.getElem?_eq_getElem (by omega)
  exact ⟨_, _, List.getElem?_eq_getElem hj2, hys, h1.trans hys⟩
end
section
variable {H : Type} {enc : TypeId × Value → H} {w : World} {base : Nat} {spare : Nat → Bool} {held : Bool}
theorem read_u8s {fuel : Nat} {cs : List Value} {x : DataW H × List MemPlace} (h : DataW.trod enc Tryz.prog w base spare held fuel 36 cs = some x) :
    ∃ (a : Option Addr) (l : List UInt8) (c : Nat), cs = [.slice a l.length c] ∧ l.length ≤ c ∧ Bytes w a l := by
  rcases open_ints Tryz.underlying36 Tryz.underlying5 cells_u8 h with ⟨hcs, hx⟩ | ⟨a, len, cap, zs, hcs, _, hl, hm, hz, hx, hcell, hwf⟩
  · exact ⟨none, [], 0, hcs, Nat.le_refl _, Or.inl rfl⟩
  · have hz' : len ≤ zs.length := by rw [hz]; split <;> omega
    have hLl : ((zs.take len).map fun n => UInt8.ofNat n.toNat).length = len := by simp; omega
    refine ⟨some a, (zs.take len).map fun n => UInt8.ofNat n.toNat, cap, by rw [hLl]; exact hcs, by rw [hLl]; exact hl, ?_⟩
    rcases Nat.eq_zero_or_pos len with h0 | h0
    · left; subst h0; simp
    · have hc0 := hcell 0 (by omega)
      have e0 : a.add 0 = a := by simp [Addr.add]
      rw [e0] at hc0
      obtain ⟨g, off, rfl, hlt⟩ := addr_plain hc0
      refine Or.inr ⟨_, _, rfl, hlt, fun i hi => ?_⟩
      have hi' : i < len := by rw [hLl] at hi; exact hi
      have hc := hcell i (by omega)
      rw [add_plain] at hc
      rw [hc]
      have hi2 : i < zs.length := by omega
      have hw := hwf (zs.getD i 0) (by rw [List.getD_eq_getElem?_getD, List.getElem?_eq_getElem hi2]; simp)
      have hb : 0 ≤ zs.getD i 0 ∧ zs.getD i 0 < 256 := by
        simp only [Lit.wf, Bool.and_eq_true, decide_eq_true_eq] at hw
        have h1 : IntKind.u8.min = 0 := by decide
        have h2 : IntKind.u8.max = 255 := by decide
        rw [h1, h2] at hw
        omega
      simp [byteAt, hi', hi2] at hb ⊢
      omega
end
end Go.Proofs.YtldgpcmnmegioaaGreatDoor
