/- Plain words on packages: the document's own way to say which may be is the program's. No program in sight. -/
import Derived.Test.YtpfcofjianmeaaaGreatDoorArcSpec
namespace Go.Proofs.YtpfcofjianmeaaaGreatDoor
def wVar : By := [118, 97, 114]
/-- May a file be, as the document has it? -/
def fileQ (f : FileD) : Bool := (match pathL f.path with
  | some (x :: _) => !decide (x = wVar)
  | _ => false) && decide (f.data.length ≤ 512)
/-- Does a text begin with another one? -/
def beginsL (s t : By) : Bool := decide (t.length ≤ s.length) && decide (s.take t.length = t)
def pairQ (L : List FileD) (k j : Nat) : Bool := ltL (L.getD j ⟨[], false, []⟩).path (L.getD k ⟨[], false, []⟩).path && !beginsL (L.getD k ⟨[], false, []⟩).path ((L.getD j ⟨[], false, []⟩).path ++ [47])
def pairsQ (L : List FileD) (k n : Nat) : Bool := (List.range n).all fun j => pairQ L k j
def filesQ (L : List FileD) (k : Nat) : Bool := (List.range k).all fun j => fileQ (L.getD j ⟨[], false, []⟩) && pairsQ L j j
theorem filesQ_succ (L : List FileD) (k : Nat) : filesQ L (k + 1) = (filesQ L k && (fileQ (L.getD k ⟨[], false, []⟩) && pairsQ L k k)) := by simp [filesQ, List.range_succ, List.all_append]
theorem pairsQ_succ (L : List FileD) (k n : Nat) : pairsQ L k (n + 1) = (pairsQ L k n && pairQ L k n) := by simp [pairsQ, List.range_succ, List.all_append]
theorem var_path : pathL varL = some [wVar] := by decide +kernel
theorem fileQ_R (f : FileD) : fileQ f = fileR f := by
  unfold fileQ fileR
  cases hp : pathL f.path with
  | none => rw [rightL_none hp]; simp
  | some L =>
    rw [rightL_some hp]
    have hw : withinL f.path varL = (decide (1 < L.length) && decide (L.take 1 = [wVar])) := by
      unfold withinL; rw [hp, var_path]; rfl
    have hj := joinP_pathL hp
    cases L with
    | nil => simp
    | cons x r =>
      by_cases hx : x = wVar
      · subst hx
        cases r with
        | nil =>
          have : f.path = varL := by rw [← hj]; decide
          simp [this]
        | cons y r => rw [hw]; simp
      · have hne : f.path ≠ varL := by
          intro e
          rw [e, var_path] at hp
          have := Option.some.inj hp
          simp only [List.cons.injEq] at this
          exact hx this.1.symm
        have : withinL f.path varL = false := by rw [hw]; simp [hx]
        simp [hx, this, hne]
theorem prefix_names {L U : List By} (hL : ∀ p ∈ L, (47 : UInt8) ∉ p) (hU : ∀ p ∈ U, (47 : UInt8) ∉ p) (rest : By) (h : glue 47 L = glue 47 U ++ 47 :: rest) : ∃ V, V ≠ [] ∧ L = U ++ V := by
  refine ⟨splitOn 47 rest, splitOn_ne _ _, ?_⟩
  have e : glue 47 U ++ 47 :: rest = glue 47 (U ++ splitOn 47 rest) := by rw [glue_append, glue_splitOn]
  rw [e] at h
  have hinj : ∀ (A B : List By), (∀ p ∈ A, (47 : UInt8) ∉ p) → (∀ p ∈ B, (47 : UInt8) ∉ p) → glue 47 A = glue 47 B → A = B := by
    intro A B hA hB hab
    cases A with
    | nil =>
      cases B with
      | nil => rfl
      | cons b B => rw [glue_cons] at hab; simp [glue] at hab
    | cons a A =>
      cases B with
      | nil => rw [glue_cons] at hab; simp [glue] at hab
      | cons b B =>
        rw [glue_cons, glue_cons] at hab
        have hab : a ++ glue 47 A = b ++ glue 47 B := by simpa using hab
        have h1 := splitOn_glue 47 a A (hA a (by simp)) (fun q hq => hA q (by simp [hq]))
        have h2 := splitOn_glue 47 b B (hB b (by simp)) (fun q hq => hB q (by simp [hq]))
        rw [← h1, ← h2, hab]
  refine hinj _ _ hL ?_ h
  intro p hp
  rcases List.mem_append.1 hp with hp | hp
  · exact hU p hp
  · exact splitOn_mem 47 rest p hp
theorem begins_iff (s t : By) : beginsL s t = true ↔ ∃ r, s = t ++ r := by
  unfold beginsL
  simp only [Bool.and_eq_true, decide_eq_true_eq]
  constructor
  · rintro ⟨_, h⟩
    exact ⟨s.drop t.length, by conv => lhs; rw [← List.take_append_drop t.length s, h]⟩
  · rintro ⟨r, rfl⟩; simp
theorem begins_within {s d : By} (hs : rightL s = true) (hd : rightL d = true) : beginsL s (d ++ [47]) = withinL s d := by
  unfold rightL at hs hd
  cases ps : pathL s with
  | none => rw [ps] at hs; cases hs
  | some L =>
    cases pd : pathL d with
    | none => rw [pd] at hd; cases hd
    | some U =>
      rw [ps] at hs
      rw [pd] at hd
      simp only [decide_eq_true_eq] at hs hd
      have fL := pathL_facts ps
      have fU := pathL_facts pd
      have nL : ∀ p ∈ L, (47 : UInt8) ∉ p := fun p hp => nameL_no47 ((List.all_eq_true.1 fL.2.1) p hp)
      have nU : ∀ p ∈ U, (47 : UInt8) ∉ p := fun p hp => nameL_no47 ((List.all_eq_true.1 fU.2.1) p hp)
      have gL : glue 47 L = s := by
        rcases fL.2.2.2 with ⟨_, h⟩ | ⟨_, _, h, _⟩
        · rw [h] at hs; simp at hs
        · exact h
      have gU : glue 47 U = d := by
        rcases fU.2.2.2 with ⟨_, h⟩ | ⟨_, _, h, _⟩
        · rw [h] at hd; simp at hd
        · exact h
      rw [Bool.eq_iff_iff, begins_iff]
      unfold withinL
      rw [ps, pd]
      simp only [Bool.and_eq_true, decide_eq_true_eq]
      constructor
      · rintro ⟨r, hr⟩
        rw [← gL, ← gU] at hr
        obtain ⟨V, hV, e⟩ := prefix_names nL nU r (by rw [hr]; simp)
        subst e
        have := List.length_pos_iff.2 hV
        exact ⟨by rw [List.length_append]; omega, by simp⟩
      · rintro ⟨h1, h2⟩
        have e : L = U ++ L.drop U.length := by conv => lhs; rw [← List.take_append_drop U.length L, h2]
        have hne : L.drop U.length ≠ [] := by intro e2; have := congrArg List.length e2; simp at this; omega
        obtain ⟨x, r, hx⟩ := List.exists_cons_of_ne_nil hne
        rw [hx] at e
        refine ⟨x ++ glue 47 r, ?_⟩
        rw [← gL, ← gU, e, glue_append, glue_cons]
        simp
theorem ltL_all {L : List FileD} {k : Nat} (h : ∀ j, 0 < j → j ≤ k → ltL (L.getD (j - 1) ⟨[], false, []⟩).path (L.getD j ⟨[], false, []⟩).path = true) : ∀ j, j < k → ltL (L.getD j ⟨[], false, []⟩).path (L.getD k ⟨[], false, []⟩).path = true := by
  induction k with
  | zero => intro j hj; omega
  | succ k ih =>
    intro j hj
    have hl := h (k + 1) (by omega) (Nat.le_refl _)
    rw [Nat.add_sub_cancel] at hl
    by_cases e : j = k
    · subst e; exact hl
    · exact ltL_trans (ih (fun i h1 h2 => h i h1 (by omega)) j (by omega)) hl
theorem any_take {L : List FileD} {k : Nat} (hk : k ≤ L.length) (p : FileD → Bool) : (L.take k).any p = (List.range k).any fun j => p (L.getD j ⟨[], false, []⟩) := by
  induction k with
  | zero => simp
  | succ k ih =>
    have hlt : k < L.length := by omega
    rw [List.take_succ_eq_append_getElem hlt, List.any_append, ih (by omega), List.range_succ, List.any_append]
    simp [List.getD_eq_getElem?_getD, hlt]
theorem filesQ_R (L : List FileD) : ∀ k, k ≤ L.length → filesQ L k = filesTo L k
  | 0, _ => rfl
  | k + 1, hk => by
    have ih := filesQ_R L k (by omega)
    rw [filesQ_succ, filesTo_succ, ih]
    cases hf : filesTo L k with
    | false => simp
    | true =>
      simp only [Bool.true_and]
      unfold fileAt
      rw [fileQ_R]
      cases hfk : fileR (L.getD k ⟨[], false, []⟩) with
      | false => simp
      | true =>
        simp only [Bool.true_and]
        have hall : ∀ j, j < k → fileR (L.getD j ⟨[], false, []⟩) = true ∧ (0 < j → ltL (L.getD (j - 1) ⟨[], false, []⟩).path (L.getD j ⟨[], false, []⟩).path = true) := by
          intro j hj
          unfold filesTo at hf
          have := (List.all_eq_true.1 hf) j (by simp; exact hj)
          unfold fileAt at this
          simp only [Bool.and_eq_true, Bool.or_eq_true, decide_eq_true_eq] at this
          exact ⟨this.1, fun h0 => this.2.1.resolve_left (by omega)⟩
        have hr : ∀ {f : FileD}, fileR f = true → rightL f.path = true := by
          intro f h
          unfold fileR at h
          simp only [Bool.and_eq_true] at h
          exact h.1
        rw [any_take (by omega)]
        rw [Bool.eq_iff_iff]
        unfold pairsQ pairQ
        simp only [List.all_eq_true, List.mem_range, Bool.and_eq_true, Bool.or_eq_true, decide_eq_true_eq, Bool.not_eq_true', List.any_eq_false]
        constructor
        · intro h
          refine ⟨?_, fun j hj => ?_⟩
          · by_cases h0 : k = 0
            · exact Or.inl h0
            · exact Or.inr (h (k - 1) (by omega)).1
          · have := (h j hj).2
            rw [begins_within (hr hfk) (hr (hall j hj).1)] at this
            rw [this]; simp
        · rintro ⟨h1, h2⟩ j hj
          refine ⟨ltL_all (k := k) (fun i hi hik => ?_) j hj, ?_⟩
          · by_cases e : i = k
            · subst e; exact h1.resolve_left (by omega)
            · exact (hall i (by omega)).2 hi
          · rw [begins_within (hr hfk) (hr (hall j hj).1)]
            have := h2 j hj
            simpa using this
/-- May a package be, as the document has it? -/
def needQ (n : NeedD) : Bool := nameL n.name && (decide (0 ≤ n.way) && (decide (n.way ≤ 3) && (!(decide (n.way = 0) && !decide (n.ver = [])) && !(decide (0 < n.way) && !verR n.ver))))
theorem needQ_R (n : NeedD) : needQ n = needR n := by
  unfold needQ needR
  cases nameL n.name with
  | false => rfl
  | true =>
    simp only [Bool.true_and]
    by_cases h0 : n.way = 0
    · by_cases hv : n.ver = []
      · simp [h0, hv]
      · simp [h0, hv]
    · by_cases h1 : 0 < n.way
      · by_cases h3 : n.way ≤ 3
        · have b : decide (0 ≤ n.way) = true := decide_eq_true (by omega)
          simp [h0, h1, h3, b]
          intro _; omega
        · simp [h0, h3]
      · have a : decide (1 ≤ n.way ∧ n.way ≤ 3) = false := decide_eq_false (by omega)
        have b : decide (0 ≤ n.way) = false := decide_eq_false (by omega)
        simp [h0, a, b]
def rightQ (p : PkgD) : Bool := headP p && (p.needs.all needQ && (p.conf.all (confR p) && (p.units.all (fun s => decide (s.length ≤ 300)) && filesQ p.files p.files.length)))
theorem rightQ_P (p : PkgD) : rightQ p = rightP p := by
  unfold rightQ rightP
  rw [filesQ_R _ _ (Nat.le_refl _)]
  have : needQ = needR := funext needQ_R
  rw [this]
end Go.Proofs.YtpfcofjianmeaaaGreatDoor
