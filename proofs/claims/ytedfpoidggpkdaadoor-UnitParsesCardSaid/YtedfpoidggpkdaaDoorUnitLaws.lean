/- Laws on units' texts: what is said is parsed; remarks; the order of lines. No program in sight. -/
import Derived.Test.YtedfpoidggpkdaaDoorUnitSpec
namespace Go.Proofs.YtedfpoidggpkdaaDoor
theorem splitOn_mid (c : UInt8) (a b : Bs) : splitOn c (a ++ c :: b) = splitOn c a ++ splitOn c b := by
  induction a with
  | nil => simp [splitOn]
  | cons x a ih =>
    rw [List.cons_append, splitOn, splitOn]
    split
    · rw [ih]; rfl
    · rw [ih]
      cases h : splitOn c a with
      | nil => exact absurd h (splitOn_ne c a)
      | cons p q => simp
theorem lines_app (A B : List Bs) : ∀ (i : Nat) (u : UnitD), linesU (A ++ B) i u = match linesU A i u with
    | .inl v => linesU B (i + A.length) v
    | .inr e => .inr e := by
  induction A with
  | nil => intro i u; simp [linesU]
  | cons l A ih =>
    intro i u
    rw [List.cons_append, linesU, linesU]
    split
    · rw [ih, List.length_cons, show i + 1 + A.length = i + (A.length + 1) by omega]
    · split
      · rw [ih, List.length_cons, show i + 1 + A.length = i + (A.length + 1) by omega]
      · rfl
/-- The same, but for the lines' numbers. -/
def SimR : UnitD ⊕ (Nat × Nat) → UnitD ⊕ (Nat × Nat) → Prop
  | .inl a, .inl b => a = b
  | .inr a, .inr b => a.1 = b.1
  | _, _ => False
theorem SimR.refl (x : UnitD ⊕ (Nat × Nat)) : SimR x x := by cases x <;> simp [SimR]
theorem sim_shift (B : List Bs) : ∀ (i j : Nat) (u : UnitD), SimR (linesU B i u) (linesU B j u) := by
  induction B with
  | nil => intro i j u; simp [linesU, SimR]
  | cons l B ih =>
    intro i j u
    rw [linesU, linesU]
    split
    · exact ih _ _ _
    · split
      · exact ih _ _ _
      · simp [SimR]
theorem sim_end {x y : UnitD ⊕ (Nat × Nat)} (h : SimR x y) : (endU x).1 = (endU y).1 ∧ (endU x).2.1 = (endU y).2.1 := by
  cases x with
  | inl a => cases y with
    | inl b => have h : a = b := h; rw [h]; exact ⟨rfl, rfl⟩
    | inr b => exact h.elim
  | inr a => cases y with
    | inl b => exact h.elim
    | inr b => have h : a.1 = b.1 := h; exact ⟨rfl, h⟩
/-- '# remark'. -/
def wRem : Bs := [35, 32, 114, 101, 109, 97, 114, 107]
/-- 'retry 1'. -/
def wRe1 : Bs := [114, 101, 116, 114, 121, 32, 49]
theorem idle_nil : idle [] = true := by simp [idle]
theorem idle_rem : idle wRem = true := by decide
/-- Empty lines and remarks. -/
theorem law_rem (a b : Bs) : (parseU (a ++ 10 :: b)).1 = (parseU (a ++ 10 :: 10 :: (wRem ++ 10 :: b))).1 ∧ (parseU (a ++ 10 :: b)).2.1 = (parseU (a ++ 10 :: 10 :: (wRem ++ 10 :: b))).2.1 := by
  refine sim_end ?_
  have e1 : splitOn 10 (10 :: (wRem ++ 10 :: b)) = [] :: wRem :: splitOn 10 b := by
    rw [splitOn_cons_eq, splitOn_append 10 wRem b (by decide)]
  rw [splitOn_mid, splitOn_mid, e1, lines_app, lines_app]
  cases linesU (splitOn 10 a) 0 u0 with
  | inr e => exact SimR.refl _
  | inl v =>
    simp only [linesU, idle_nil, idle_rem, if_true]
    exact sim_shift _ _ _ _
/-! ### Lines of unlike words -/
theorem lineU_retry (u : UnitD) (w r : Bs) (hw : w ≠ wRetry) (n : Int) : (lineU { u with retry := n } w r).2 = (lineU u w r).2 ∧ (lineU { u with retry := n } w r).1 = { (lineU u w r).1 with retry := n } := by
  have hrow : ∀ f, UnitD.row { u with retry := n } f = u.row f := fun f => by unfold UnitD.row; split <;> rfl
  have hput : ∀ f x, UnitD.put { u with retry := n } f x = { u.put f x with retry := n } := fun f x => by unfold UnitD.put; split <;> rfl
  have hadd : ∀ f s, (addU { u with retry := n } f s).2 = (addU u f s).2 ∧ (addU { u with retry := n } f s).1 = { (addU u f s).1 with retry := n } := by
    intro f s
    unfold addU
    rw [hrow]
    split
    · exact ⟨rfl, rfl⟩
    · split
      · exact ⟨rfl, rfl⟩
      · exact ⟨rfl, hput _ _⟩
  unfold lineU
  rw [if_neg hw, if_neg hw]
  split
  · split
    · exact ⟨rfl, rfl⟩
    · simp only
      split <;> exact ⟨rfl, rfl⟩
  · split
    · split
      · exact ⟨rfl, rfl⟩
      · exact hadd _ _
    · split
      · exact ⟨rfl, rfl⟩
      · split
        · exact ⟨rfl, rfl⟩
        · exact hadd _ _
theorem lineU_keeps (u : UnitD) (w r : Bs) (hw : w ≠ wRetry) : (lineU u w r).1.retry = u.retry := by
  have h := (lineU_retry u w r hw u.retry).2
  have e : ({ u with retry := u.retry } : UnitD) = u := rfl
  rw [e] at h
  rw [h]
/-- How lines behave where 'retry' was said ahead of them already. -/
def RetryR (x y : UnitD ⊕ (Nat × Nat)) : Prop :=
  match x with
  | .inr _ => ∃ e, y = .inr e
  | .inl v => (v.retry = -1 ∧ y = .inl { v with retry := 1 }) ∨ (0 ≤ v.retry ∧ ∃ e, y = .inr e)
theorem lines_retry (A : List Bs) : ∀ (i j : Nat) (u : UnitD), u.retry = -1 → RetryR (linesU A i u) (linesU A j { u with retry := 1 }) := by
  induction A with
  | nil => intro i j u hu; exact Or.inl ⟨hu, rfl⟩
  | cons l A ih =>
    intro i j u hu
    rw [linesU, linesU]
    split
    · exact ih _ _ _ hu
    · by_cases hw : (cutW l).1 = wRetry
      · have hr : ∀ v : UnitD, lineU v (cutW l).1 (cutW l).2 = match digN (cutW l).2 with
          | none => (v, 2)
          | some n => if 0 ≤ v.retry then (v, 9) else ({ v with retry := (n : Int) }, 0) := by
          intro v
          unfold lineU
          rw [hw, if_neg (by decide), if_neg (by decide), if_pos rfl]
          cases digN (cutW l).2 <;> rfl
        cases hd : digN (cutW l).2 with
        | none =>
          have e1 : ∀ v : UnitD, lineU v (cutW l).1 (cutW l).2 = (v, 2) := fun v => by rw [hr, hd]
          rw [e1, e1]
          exact ⟨_, rfl⟩
        | some n =>
          have e1 : lineU u (cutW l).1 (cutW l).2 = ({ u with retry := (n : Int) }, 0) := by rw [hr, hd]; simp only; rw [if_neg (by omega)]
          have e2 : lineU { u with retry := 1 } (cutW l).1 (cutW l).2 = ({ u with retry := 1 }, 9) := by rw [hr, hd]; rfl
          rw [e1, e2]
          rw [if_pos rfl, if_neg (show ¬ (9 = 0) by decide)]
          have hge : ∀ (B : List Bs) (i : Nat) (x v : UnitD), 0 ≤ x.retry → linesU B i x = .inl v → 0 ≤ v.retry := by
            intro B
            induction B with
            | nil => intro i x v hx hh; simp only [linesU, Sum.inl.injEq] at hh; rw [← hh]; exact hx
            | cons m B ih2 =>
              intro i x v hx hh
              unfold linesU at hh
              split at hh
              · exact ih2 _ _ _ hx hh
              · split at hh
                · refine ih2 _ _ _ ?_ hh
                  by_cases hm : (cutW m).1 = wRetry
                  · unfold lineU
                    rw [hm, if_neg (by decide), if_neg (by decide), if_pos rfl]
                    split
                    · exact hx
                    · rw [if_pos hx]; exact hx
                  · rw [lineU_keeps _ _ _ hm]; exact hx
                · cases hh
          cases hB : linesU A (i + 1) { u with retry := (n : Int) } with
          | inr e => exact ⟨_, rfl⟩
          | inl v =>
            have := hge _ _ _ _ (by simp only; omega) hB
            exact Or.inr ⟨this, _, rfl⟩
      · obtain ⟨a1, a2⟩ := lineU_retry u (cutW l).1 (cutW l).2 hw 1
        rw [a1, a2]
        split
        · exact ih _ _ _ (by rw [lineU_keeps _ _ _ hw]; exact hu)
        · exact ⟨_, rfl⟩
theorem lineU_re1 (u : UnitD) : lineU u (cutW wRe1).1 (cutW wRe1).2 = if 0 ≤ u.retry then (u, 9) else ({ u with retry := 1 }, 0) := by
  have hc : cutW wRe1 = (wRetry, [49]) := by decide
  rw [hc]
  unfold lineU
  rw [if_neg (by decide), if_neg (by decide), if_pos rfl]
  rfl
/-- 'retry 1' ahead of all, or behind all. -/
theorem law_retry (a : Bs) : (parseU (wRe1 ++ 10 :: a)).1 = (parseU (a ++ 10 :: wRe1)).1 ∧ ((parseU (wRe1 ++ 10 :: a)).2.1 = 0 ↔ (parseU (a ++ 10 :: wRe1)).2.1 = 0) := by
  have hi : idle wRe1 = false := by decide
  have e1 : linesU (splitOn 10 (wRe1 ++ 10 :: a)) 0 u0 = linesU (splitOn 10 a) 1 { u0 with retry := 1 } := by
    rw [splitOn_append 10 wRe1 a (by decide), linesU, hi, lineU_re1]
    rfl
  have e2 : linesU (splitOn 10 (a ++ 10 :: wRe1)) 0 u0 = match linesU (splitOn 10 a) 0 u0 with
      | .inl v => if 0 ≤ v.retry then .inr (9, (splitOn 10 a).length + 1) else .inl { v with retry := 1 }
      | .inr e => .inr e := by
    rw [splitOn_mid, lines_app, splitOn_none 10 wRe1 (by decide)]
    cases linesU (splitOn 10 a) 0 u0 with
    | inr e => rfl
    | inl v =>
      simp only [linesU, hi, lineU_re1]
      by_cases h : 0 ≤ v.retry
      · simp [h]
      · simp [h]
  have hne : ∀ (L : List Bs) (i : Nat) (u : UnitD) (e : Nat × Nat), linesU L i u = .inr e → e.1 ≠ 0 := by
    intro L
    induction L with
    | nil => intro i u e hh; cases hh
    | cons l L ih =>
      intro i u e hh
      unfold linesU at hh
      split at hh
      · exact ih _ _ _ hh
      · split at hh
        · exact ih _ _ _ hh
        · rename_i hne
          simp only [Sum.inr.injEq] at hh
          rw [← hh]; exact hne
  unfold parseU
  rw [e1, e2]
  have h := lines_retry (splitOn 10 a) 0 1 u0 rfl
  cases hA : linesU (splitOn 10 a) 0 u0 with
  | inr e =>
    rw [hA] at h
    obtain ⟨e', he'⟩ := h
    have n1 := hne _ _ _ _ hA
    have n2 := hne _ _ _ _ he'
    rw [he']
    exact ⟨rfl, by simp [endU, n1, n2]⟩
  | inl v =>
    rw [hA] at h
    rcases h with ⟨h1, h2⟩ | ⟨h1, e', h2⟩
    · rw [h2]
      simp only
      rw [if_neg (by omega)]
      exact ⟨rfl, Iff.rfl⟩
    · have n2 := hne _ _ _ _ h2
      rw [h2]
      simp only
      rw [if_pos h1]
      exact ⟨rfl, by simp [endU, n2]⟩
end Go.Proofs.YtedfpoidggpkdaaDoor
