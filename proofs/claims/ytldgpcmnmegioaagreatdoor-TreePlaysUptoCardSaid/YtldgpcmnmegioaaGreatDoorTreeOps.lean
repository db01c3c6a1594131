/- Trees in memory: what each write makes of them. -/
import Derived.Test.YtldgpcmnmegioaaGreatDoorTreeMem
namespace Go.Proofs.YtldgpcmnmegioaaGreatDoor
open Go.RowKit
section
variable {w w' : World} {base tb mb K : Nat} {T : TreeD} {A : Int → NodeA}
theorem TreeM.map_ne (h : TreeM w base tb mb K T A) {g : Nat} {cur : Array Value} {t : TypeId} {fr : Nat × Nat} (hg : w.heap[g]? = some (.cells cur t fr)) : mb ≠ g := by
  obtain ⟨es, cl, hb⟩ := h.map.block
  intro e
  rw [e, hg] at hb; cases hb
theorem TreeM.kid_ne (h : TreeM w base tb mb K T A) {i : Int} (hi : i ∈ T.ids) {b : Nat} (hb : (A i).kb = some b) {g : Nat} {cur : Array Value} {t : TypeId} {fr : Nat × Nat} (hg : w.heap[g]? = some (.cells cur t fr)) : b ≠ g := by
  obtain ⟨es, cl, hbk⟩ := (h.node i hi).2.2.2.block hb
  intro e
  rw [e, hg] at hbk; cases hbk
theorem TreeM.top_ne (h : TreeM w base tb mb K T A) {i : Int} (hi : i ∈ T.ids) : tb ≠ (A i).blk := by
  intro e
  have h1 := h.top
  rw [e, (h.node i hi).1] at h1
  injection (Option.some.inj h1) with _ h2
  exact absurd h2 (by decide)
/-- A node's row is turned in its own block. -/
theorem TreeM.set_node (h : TreeM w base tb mb K T A) {i : Int} (hi : i ∈ T.ids) (k : Keep (· ≠ (A i).blk) w w') {n : NodeD} {a : NodeA} (hn : NodeM w' K n a) (hb : a.blk = (A i).blk) (hk : a.kb = (A i).kb) (hd : n.dir = true → ∃ b, a.kb = some b) :
    TreeM w' base tb mb K (setT T i n) (fun j => if j = i then a else A j) := by
  have hg := (h.node i hi).1
  have hD := datas_cells hg (by decide)
  have hbl : ∀ j, (if j = i then a else A j).blk = (A j).blk := fun j => by
    by_cases e : j = i
    · rw [if_pos e, e, hb]
    · rw [if_neg e]
  have hkb : ∀ j, (if j = i then a else A j).kb = (A j).kb := fun j => by
    by_cases e : j = i
    · rw [if_pos e, e, hk]
    · rw [if_neg e]
  refine ⟨k.heap (h.top_ne hi) h.top, (h.map.keep k (h.map_ne hg)).same ?_, fun j hj => ?_, fun j hj l hl e => ?_, fun j hj l hl b e1 e2 => ?_, fun j hj => ?_, fun j hj hdj => ?_, h.low.1, h.low.2.1, fun j hj => ?_⟩
  · funext j
    unfold nodeF
    simp only [hbl]
    rfl
  · rw [setT_node]
    split
    · exact hn
    · rename_i hne
      exact (h.node j hj).keep k hD (fun e => hne (h.blk j hj i hi e)) (fun b hb' => h.kid_ne hj hb' hg)
  · simp only [hbl] at e; exact h.blk j hj l hl e
  · simp only [hkb] at e1 e2; exact h.kid j hj l hl b e1 e2
  · simp only [hkb]; exact h.mkb j hj
  · rw [setT_node] at hdj
    split at hdj
    · rename_i e
      obtain ⟨b, hb⟩ := hd hdj
      exact ⟨b, by simp only [e, if_true]; exact hb⟩
    · simp only [hkb]; exact h.kbd j hj hdj
  · simp only [hbl, hkb]; exact h.low.2.2 j hj
/-- A node's names are turned. -/
theorem TreeM.set_kids (h : TreeM w base tb mb K T A) {i : Int} (hi : i ∈ T.ids) {b : Nat} (hb : (A i).kb = some b) (k : Keep (· ≠ b) w w') {kd : By → Option Int} {L : Nat} (hl : K ≤ L) (hm : MapF keyS w' 9 b L (kidsF kd)) :
    TreeM w' base tb mb L (setT T i { T.node i with kids := kd }) A := by
  obtain ⟨es, cl, hbk⟩ := (h.node i hi).2.2.2.block hb
  have hD := datas_map hbk
  have hne : ∀ {g : Nat} {cur : Array Value} {t : TypeId} {fr : Nat × Nat}, w.heap[g]? = some (.cells cur t fr) → g ≠ b := fun hg e => by rw [e, hbk] at hg; cases hg
  have h' := h.mono hl
  refine ⟨k.heap (hne h.top) h.top, h'.map.keep k (fun e => h.mkb i hi (by rw [hb, e])), fun j hj => ?_, h.blk, h.kid, h.mkb, fun j hj hdj => h.kbd j hj (by rw [setT_node] at hdj; split at hdj; (rename_i e; rw [e]; exact hdj); exact hdj), h.low⟩
  rw [setT_node]
  split
  · rename_i e
    subst e
    obtain ⟨h1, h2, h3, _⟩ := h.node j hj
    exact ⟨k.heap (hne h1) h1, h2.keep k hD, h3, Or.inr ⟨b, hb, hm⟩⟩
  · rename_i hji
    exact (h'.node j hj).keep k hD (hne (h.node j hj).1) (fun c hc e => hji (h.kid j hj i hi b (by rw [hc, e]) hb))
/-- Another node at a number, in blocks of its own. -/
theorem TreeM.put (h : TreeM w base tb mb K T A) (i : Int) (k : Keep (· ≠ mb) w w') {n : NodeD} {a : NodeA} (hn : NodeM w K n a) (hb : ∀ j ∈ T.ids, a.blk ≠ (A j).blk) (hk : ∀ j ∈ T.ids, ∀ b, a.kb = some b → (A j).kb ≠ some b) (hkm : a.kb ≠ some mb) (hd : n.dir = true → ∃ b, a.kb = some b) (hlo : base ≤ a.blk ∧ ∀ b, a.kb = some b → base ≤ b) {L : Nat} (hl : K ≤ L)
    (hm : MapF keyI w' 3 mb L (fun z => if z = i then some (.pointer (some ⟨a.blk, 0, none⟩)) else nodeF T A z)) {I : List Int} (hI : ∀ j, j ∈ I ↔ j = i ∨ j ∈ T.ids) :
    TreeM w' base tb mb L { T with ids := I, node := fun j => if j = i then n else T.node j } (fun j => if j = i then a else A j) := by
  obtain ⟨es, cl, hbk⟩ := h.map.block
  have hD := datas_map hbk
  have hne : ∀ {g : Nat} {cur : Array Value} {t : TypeId} {fr : Nat × Nat}, w.heap[g]? = some (.cells cur t fr) → g ≠ mb := fun hg e => by rw [e, hbk] at hg; cases hg
  have hin : ∀ j ∈ I, j ≠ i → j ∈ T.ids := fun j hj hji => ((hI j).1 hj).resolve_left hji
  refine ⟨k.heap (hne h.top) h.top, hm.same ?_, fun j hj => ?_, fun j hj l hl' e => ?_, fun j hj l hl' b e1 e2 => ?_, fun j hj => ?_, fun j hj hdj => ?_, h.low.1, h.low.2.1, fun j hj => ?_⟩
  · funext z
    unfold nodeF
    by_cases hz : z = i
    · rw [if_pos hz, if_pos ((hI z).2 (Or.inl hz))]
      show _ = some (Value.pointer (some ⟨(if z = i then a else A z).blk, 0, none⟩))
      rw [if_pos hz]
    · rw [if_neg hz]
      have : z ∈ I ↔ z ∈ T.ids := by rw [hI z]; exact ⟨fun e => e.resolve_left hz, Or.inr⟩
      simp only [this, if_neg hz]
  · show NodeM w' L (if j = i then n else T.node j) (if j = i then a else A j)
    split
    · exact (hn.keep k hD (hne hn.1) (fun b hb' e => hkm (by rw [hb', e]))).mono hl
    · rename_i hji
      have hj' := hin j hj hji
      exact ((h.node j hj').keep k hD (hne (h.node j hj').1) (fun b hb' e => h.mkb j hj' (by rw [hb', e]))).mono hl
  · by_cases h1 : j = i
    · by_cases h2 : l = i
      · rw [h1, h2]
      · rw [if_pos h1, if_neg h2] at e
        exact absurd e (hb l (hin l hl' h2))
    · by_cases h2 : l = i
      · rw [if_neg h1, if_pos h2] at e
        exact absurd e.symm (hb j (hin j hj h1))
      · rw [if_neg h1, if_neg h2] at e
        exact h.blk j (hin j hj h1) l (hin l hl' h2) e
  · by_cases h1 : j = i
    · by_cases h2 : l = i
      · rw [h1, h2]
      · rw [if_pos h1] at e1
        rw [if_neg h2] at e2
        exact absurd e2 (hk l (hin l hl' h2) b e1)
    · by_cases h2 : l = i
      · rw [if_neg h1] at e1
        rw [if_pos h2] at e2
        exact absurd e1 (hk j (hin j hj h1) b e2)
      · rw [if_neg h1] at e1
        rw [if_neg h2] at e2
        exact h.kid j (hin j hj h1) l (hin l hl' h2) b e1 e2
  · show (if j = i then a else A j).kb ≠ some mb
    split
    · exact hkm
    · rename_i hji; exact h.mkb j (hin j hj hji)
  · show ∃ b, (if j = i then a else A j).kb = some b
    have hdj : (if j = i then n else T.node j).dir = true := hdj
    by_cases e : j = i
    · rw [if_pos e] at hdj ⊢; exact hd hdj
    · rw [if_neg e] at hdj ⊢; exact h.kbd j (hin j hj e) hdj
  · show base ≤ (if j = i then a else A j).blk ∧ ∀ b, (if j = i then a else A j).kb = some b → base ≤ b
    split
    · exact hlo
    · rename_i hji; exact h.low.2.2 j (hin j hj hji)
/-- A node less. -/
theorem TreeM.del (h : TreeM w base tb mb K T A) (i : Int) (k : Keep (· ≠ mb) w w') (hm : MapF keyI w' 3 mb K (fun z => if z = i then none else nodeF T A z)) : TreeM w' base tb mb K (delT T i) A := by
  obtain ⟨es, cl, hbk⟩ := h.map.block
  have hD := datas_map hbk
  have hne : ∀ {g : Nat} {cur : Array Value} {t : TypeId} {fr : Nat × Nat}, w.heap[g]? = some (.cells cur t fr) → g ≠ mb := fun hg e => by rw [e, hbk] at hg; cases hg
  have hmem : ∀ j, j ∈ (delT T i).ids ↔ j ∈ T.ids ∧ j ≠ i := by intro j; simp [delT]
  have hin : ∀ j, j ∈ (delT T i).ids → j ∈ T.ids := fun j hj => ((hmem j).1 hj).1
  refine ⟨k.heap (hne h.top) h.top, hm.same ?_, fun j hj => (h.node j (hin j hj)).keep k hD (hne (h.node j (hin j hj)).1) (fun b hb e => h.mkb j (hin j hj) (by rw [hb, e])), fun j hj l hl => h.blk j (hin j hj) l (hin l hl), fun j hj l hl => h.kid j (hin j hj) l (hin l hl), fun j hj => h.mkb j (hin j hj), fun j hj => h.kbd j (hin j hj), h.low.1, h.low.2.1, fun j hj => h.low.2.2 j (hin j hj)⟩
  funext z
  unfold nodeF
  simp only [hmem]
  by_cases hz : z = i
  · simp [hz]
  · simp [hz]
/-- The next number is turned. -/
theorem TreeM.set_next (h : TreeM w base tb mb K T A) (v : Int) : TreeM (w.setCell ⟨tb, 1, none⟩ (.int .i64 v)) base tb mb K { T with next := v } A := by
  have k : Keep (· ≠ tb) w (w.setCell ⟨tb, 1, none⟩ (.int .i64 v)) := (Keep.refl _ _).setCell (fun _ h => h) 1 _
  have hD := datas_cells h.top (by decide)
  refine ⟨by have := setCell_row h.top (i := 1) (.int .i64 v); simpa using this, h.map.keep k (h.map_ne h.top), fun j hj => (h.node j hj).keep k hD (fun e => h.top_ne hj e.symm) (fun b hb => h.kid_ne hj hb h.top), h.blk, h.kid, h.mkb, h.kbd, h.low⟩
/-- Another count of links. -/
theorem TreeM.set_links (h : TreeM w base tb mb K T A) {i : Int} (hi : i ∈ T.ids) (v : Int) : TreeM (w.setCell ⟨(A i).blk, 1, none⟩ (.int .i64 v)) base tb mb K (setT T i { T.node i with links := v }) A := by
  have k : Keep (· ≠ (A i).blk) w (w.setCell ⟨(A i).blk, 1, none⟩ (.int .i64 v)) := (Keep.refl _ _).setCell (fun _ h => h) 1 _
  obtain ⟨h1, h2, h3, h4⟩ := h.node i hi
  have hn : NodeM (w.setCell ⟨(A i).blk, 1, none⟩ (.int .i64 v)) K { T.node i with links := v } (A i) :=
    ⟨by have := setCell_row h1 (i := 1) (.int .i64 v); simpa [nodeV] using this, h2.keep k (datas_cells h1 (by decide)), h3, h4.keep k (fun b hb => h.kid_ne hi hb h1)⟩
  have := h.set_node hi k hn rfl rfl (h.kbd i hi)
  have e : (fun j => if j = i then A i else A j) = A := by
    funext j
    by_cases e : j = i
    · rw [if_pos e, e]
    · rw [if_neg e]
  rw [e] at this
  exact this
theorem kidsF_with (k : By → Option Int) (x : By) (i : Int) : (fun z => if z = x then some (Value.int .i64 i) else kidsF k z) = kidsF (withK k x i) := by
  funext z
  unfold kidsF withK
  split <;> rfl
theorem kidsF_less (k : By → Option Int) (x : By) : (fun z => if z = x then none else kidsF k z) = kidsF (lessK k x) := by
  funext z
  unfold kidsF lessK
  split <;> rfl
end
end Go.Proofs.YtldgpcmnmegioaaGreatDoor
