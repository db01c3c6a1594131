/- Trees, in plain Lean: operations at once, and one by one. -/
import Derived.Test.YtldgpcmnmegioaaGreatDoorTreeLaws
namespace Go.Proofs.YtldgpcmnmegioaaGreatDoor
/-- One by one, up to the first that is refused. -/
noncomputable def onesT : TreeD → List OpD → TreeD × Int
  | T, [] => (T, 0)
  | T, o :: l => if (doT T [o]).2 = 0 then onesT (doT T [o]).1 l else doT T [o]
section
variable {T : TreeD}
theorem runT_one (o : OpD) : runT T [o] = stepT T o := by
  unfold runT
  split
  · rename_i h
    unfold runT
    rw [← h]
  · rfl
theorem doT_zero {l : List OpD} (h : (doT T l).2 = 0) : (runT T l).2 = 0 ∧ (runT T l).1.ids.length ≤ 128 ∧ (usedT (runT T l).1 : Int) ≤ T.quota ∧ (doT T l).1 = (runT T l).1 := by
  unfold doT at h ⊢
  split at h
  · rename_i hn
    exact absurd h hn
  · rename_i h1
    split at h
    · cases h
    · rename_i h2
      split at h
      · cases h
      · rename_i h3
        rw [if_neg h1, if_neg h2, if_neg h3]
        exact ⟨by simpa using h1, by omega, by omega, rfl⟩
theorem doT_same {l : List OpD} (h : (doT T l).2 ≠ 0) : (doT T l).1 = T := by
  unfold doT at h ⊢
  split
  · rfl
  · rename_i h1
    rw [if_neg h1] at h
    split
    · rfl
    · rename_i h2
      rw [if_neg h2] at h
      split
      · rfl
      · rename_i h3
        rw [if_neg h3] at h
        exact absurd rfl h
theorem fileT_quota (o : OpD) (d : Int) (x : By) (i : Int) : (fileT T o d x i).1.quota = T.quota := by
  unfold fileT
  split
  · rfl
  · split
    · rfl
    · split
      · rfl
      · split
        · rfl
        · split
          · rfl
          · split
            · rfl
            · split
              · rfl
              · split <;> rfl
theorem stepT_quota (o : OpD) : (stepT T o).1.quota = T.quota := by
  unfold stepT
  split
  · rfl
  · split
    · rfl
    · split
      · rfl
      · split
        · split <;> rfl
        · split
          · rfl
          · split
            · split
              · rfl
              · split <;> rfl
            · split
              · rfl
              · exact fileT_quota _ _ _ _
theorem runT_quota : ∀ (l : List OpD) (T : TreeD), (runT T l).1.quota = T.quota
  | [], _ => rfl
  | o :: l, T => by
    unfold runT
    split
    · rw [runT_quota l, stepT_quota]
    · exact stepT_quota o
theorem doT_quota (l : List OpD) : (doT T l).1.quota = T.quota := by
  unfold doT
  split
  · rfl
  · split
    · rfl
    · split
      · rfl
      · exact runT_quota l T
theorem used_le {K : Nat} (h : FitT T K) : usedT T ≤ T.ids.length * 3500 := by
  have : ∀ L : List Int, (∀ i ∈ L, (T.node i).data.length ≤ 3500) → (L.map fun i => (T.node i).data.length).sum ≤ L.length * 3500 := by
    intro L
    induction L with
    | nil => intro _; simp
    | cons a L ih =>
      intro hL
      have h1 := hL a (by simp)
      have h2 := ih (fun i hi => hL i (by simp [hi]))
      rw [List.map_cons, List.sum_cons, List.length_cons]
      omega
  exact this T.ids h.data
/-- What goes well one by one goes well at once, with the same end. -/
theorem ones_zero : ∀ (l : List OpD) (T : TreeD), T.ids.length ≤ 128 → (usedT T : Int) ≤ T.quota → (onesT T l).2 = 0 → doT T l = ((onesT T l).1, 0)
  | [], T, h1, h2, _ => by
    unfold doT runT onesT
    rw [if_neg (by simp), if_neg (by show ¬ 128 < T.ids.length; omega), if_neg (by show ¬ T.quota < (usedT T : Int); omega)]
  | o :: l, T, h1, h2, he => by
    unfold onesT at he ⊢
    split at he
    · rename_i h0
      rw [if_pos h0]
      obtain ⟨a1, a2, a3, a4⟩ := doT_zero h0
      rw [runT_one] at a1 a2 a3 a4
      have hq : (doT T [o]).1.quota = T.quota := doT_quota _
      have ih := ones_zero l (doT T [o]).1 (by rw [a4]; exact a2) (by rw [hq, a4]; exact a3) he
      have hr : runT T (o :: l) = runT (doT T [o]).1 l := by
        conv => lhs; unfold runT
        rw [if_pos a1, a4]
      rw [← ih]
      unfold doT
      rw [hr]
      have e1 : (if (runT T [o]).2 ≠ 0 then (T, (runT T [o]).2) else if 128 < (runT T [o]).1.ids.length then (T, (7 : Int)) else if T.quota < usedT (runT T [o]).1 then (T, 13) else ((runT T [o]).1, 0)) = doT T [o] := rfl
      rw [e1, hq]
      have ih0 : (doT (doT T [o]).1 l).2 = 0 := by rw [ih]
      obtain ⟨b1, b2, b3, _⟩ := doT_zero ih0
      rw [hq] at b3
      rw [if_neg (by simpa using b1), if_neg (by omega), if_neg (by omega), if_neg (by simpa using b1), if_neg (by omega), if_neg (by omega)]
    · rename_i hn
      exact absurd he hn
/-- What goes well at once goes well one by one, but that there may be too many on the way. -/
theorem ones_full : ∀ (l : List OpD) (T : TreeD) (K : Nat), GoodT T → FitT T K → 448000 ≤ T.quota → (runT T l).2 = 0 → (onesT T l).2 = 0 ∨ (onesT T l).2 = 7
  | [], T, K, _, _, _, _ => Or.inl rfl
  | o :: l, T, K, hg, hf, hq, hr => by
    unfold onesT
    split
    · rename_i h0
      obtain ⟨a1, a2, a3, a4⟩ := doT_zero h0
      rw [runT_one] at a1 a4
      refine ones_full l _ (K + 1) (doT_good hg _) (doT_fit hf _) (by rw [doT_quota]; exact hq) ?_
      rw [a4]
      unfold runT at hr
      rw [if_pos a1] at hr
      exact hr
    · rename_i hn
      right
      have hs : (stepT T o).2 = 0 := by
        unfold runT at hr
        split at hr
        · assumption
        · exact hr
      unfold doT at hn ⊢
      rw [runT_one] at hn ⊢
      rw [if_neg (by simpa using hs)] at hn ⊢
      split
      · rfl
      · rename_i h2
        rw [if_neg h2] at hn
        have hu := used_le (stepT_fit hf o)
        have : usedT (stepT T o).1 ≤ 128 * 3500 := Nat.le_trans hu (Nat.mul_le_mul_right _ (by omega))
        rw [if_neg (by omega)] at hn
        exact absurd rfl hn
theorem doT_two {l : List OpD} (h : (runT T l).2 ≠ 0) : (doT T l).2 = (runT T l).2 := by
  unfold doT; rw [if_pos h]
/-- The law of TreeWhole. -/
theorem whole_law {K : Nat} (hg : GoodT T) (hf : FitT T K) (h1 : T.ids.length ≤ 128) (hq : 448000 ≤ T.quota) (l : List OpD) :
    ((onesT T l).2 = 0 ∨ (doT T l).2 = 0 → ((onesT T l).2 ≠ (doT T l).2 → (onesT T l).2 = 7) ∧ ((onesT T l).2 = (doT T l).2 → (doT T l).1 = (onesT T l).1)) ∧ ((doT T l).2 ≠ 0 → (doT T l).1 = T) := by
  have hu : (usedT T : Int) ≤ T.quota := by
    have := used_le hf
    have : usedT T ≤ 128 * 3500 := Nat.le_trans this (Nat.mul_le_mul_right _ h1)
    omega
  refine ⟨fun h => ?_, doT_same⟩
  by_cases he : (onesT T l).2 = 0
  · have := ones_zero l T h1 hu he
    rw [this]
    exact ⟨fun hn => absurd he hn, fun _ => rfl⟩
  · have hz := h.resolve_left he
    obtain ⟨a1, _⟩ := doT_zero hz
    refine ⟨fun _ => (ones_full l T K hg hf hq a1).resolve_left he, fun e => ?_⟩
    exact absurd (e.trans hz) he
end
end Go.Proofs.YtldgpcmnmegioaaGreatDoor
