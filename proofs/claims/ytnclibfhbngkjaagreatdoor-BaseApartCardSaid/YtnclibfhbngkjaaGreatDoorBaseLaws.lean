/- Plain laws on bases that are made of lists of packages. No program in sight. -/
import Derived.Test.YtnclibfhbngkjaaGreatDoorM1
namespace Go.Proofs.YtnclibfhbngkjaaGreatDoor
def newF (E : List PkgD) : BaseF := E.foldl withF noneF
theorem newF_snoc (E : List PkgD) (e : PkgD) : newF (E ++ [e]) = withF (newF E) e := by simp [newF, List.foldl_append]
/-- The first right package of each name, as they are there. -/
def addNew (E : List PkgD) (p : PkgD) : List PkgD := if rightP p && !(E.any fun e => decide (e.name = p.name)) then E ++ [ofP p] else E
def firsts (L : List PkgD) : List PkgD := L.foldl addNew []
theorem firsts_snoc (L : List PkgD) (p : PkgD) : firsts (L ++ [p]) = addNew (firsts L) p := by simp [firsts, List.foldl_append]
def GoodL (E : List PkgD) : Prop := (∀ e ∈ E, rightP e = true ∧ SumsP e) ∧ (E.map PkgD.name).Nodup
theorem GoodL.nil : GoodL [] := ⟨fun _ h => by simp at h, by simp⟩
theorem GoodL.add {E : List PkgD} (h : GoodL E) (p : PkgD) : GoodL (addNew E p) := by
  unfold addNew
  split
  · rename_i hc
    simp only [Bool.and_eq_true, Bool.not_eq_true', List.any_eq_false, decide_eq_true_eq] at hc
    refine ⟨fun e he => ?_, ?_⟩
    · rcases List.mem_append.1 he with he | he
      · exact h.1 e he
      · rw [List.mem_singleton.1 he]; exact ⟨ofP_right hc.1, ofP_sums p⟩
    · rw [List.map_append, List.nodup_append]
      refine ⟨h.2, by simp, fun a ha b hb e => ?_⟩
      obtain ⟨d, hd, rfl⟩ := List.mem_map.1 ha
      simp only [List.map_cons, List.map_nil, List.mem_singleton] at hb
      exact hc.2 d hd (by rw [e, hb]; rfl)
  · exact h
theorem firsts_good (L : List PkgD) : GoodL (firsts L) := by
  have : ∀ (L E : List PkgD), GoodL E → GoodL (L.foldl addNew E) := by
    intro L
    induction L with
    | nil => intro E h; exact h
    | cons a L ih => intro E h; exact ih _ (h.add a)
  exact this L [] GoodL.nil
theorem addNew_len (E : List PkgD) (p : PkgD) : (addNew E p).length ≤ E.length + 1 := by unfold addNew; split <;> simp
theorem firsts_len (L : List PkgD) : (firsts L).length ≤ L.length := by
  have : ∀ (L E : List PkgD), (L.foldl addNew E).length ≤ E.length + L.length := by
    intro L
    induction L with
    | nil => intro E; simp
    | cons a L ih => intro E; have := ih (addNew E a); have := addNew_len E a; simp only [List.foldl_cons, List.length_cons]; omega
  have := this L []
  simpa [firsts] using this
theorem GoodL.reverse {E : List PkgD} (h : GoodL E) : GoodL E.reverse := ⟨fun e he => h.1 e (List.mem_reverse.1 he), by rw [List.map_reverse]; exact (List.reverse_perm _).nodup_iff.2 h.2⟩
/-- At a name that one of them bears there is it; at no other name is anything. -/
theorem newF_mem {E : List PkgD} (h : (E.map PkgD.name).Nodup) (x : By) (e : PkgD) : newF E x = some e ↔ e ∈ E ∧ e.name = x := by
  have : ∀ (E : List PkgD) (f : BaseF), (E.map PkgD.name).Nodup → (E.foldl withF f x = some e ↔ (e ∈ E ∧ e.name = x) ∨ ((∀ d ∈ E, d.name ≠ x) ∧ f x = some e)) := by
    intro E
    induction E with
    | nil => intro f _; simp
    | cons a E ih =>
      intro f hn
      rw [List.map_cons, List.nodup_cons] at hn
      rw [List.foldl_cons, ih _ hn.2]
      unfold withF
      by_cases hx : x = a.name
      · subst hx
        have hno : ∀ d ∈ E, d.name ≠ a.name := fun d hd e => hn.1 (List.mem_map.2 ⟨d, hd, e⟩)
        simp only [if_true, Option.some.injEq, List.mem_cons]
        constructor
        · rintro (⟨h1, h2⟩ | ⟨_, h2⟩)
          · exact absurd h2 (hno e h1)
          · exact Or.inl ⟨Or.inl h2.symm, by rw [h2]⟩
        · rintro (⟨h1 | h1, h2⟩ | ⟨h1, _⟩)
          · exact Or.inr ⟨hno, h1.symm⟩
          · exact absurd h2 (hno e h1)
          · exact absurd rfl (h1 a (by simp))
      · simp only [if_neg hx, List.mem_cons]
        constructor
        · rintro (⟨h1, h2⟩ | ⟨h1, h2⟩)
          · exact Or.inl ⟨Or.inr h1, h2⟩
          · exact Or.inr ⟨fun d hd => by rcases hd with rfl | hd
                                         · exact fun e => hx e.symm
                                         · exact h1 d hd, h2⟩
        · rintro (⟨h1 | h1, h2⟩ | ⟨h1, h2⟩)
          · subst h1; exact absurd h2.symm hx
          · exact Or.inl ⟨h1, h2⟩
          · exact Or.inr ⟨fun d hd => h1 d (Or.inr hd), h2⟩
  have := this E noneF h
  unfold newF
  rw [this]
  simp [noneF]
theorem newF_good {E : List PkgD} (h : GoodL E) : GoodF (newF E) := by
  intro x e he
  have := (newF_mem h.2 x e).1 he
  exact ⟨this.2, h.1 e this.1⟩
theorem newF_reverse {E : List PkgD} (h : GoodL E) : newF E.reverse = newF E := by
  funext x
  cases hx : newF E x with
  | none =>
    cases hy : newF E.reverse x with
    | none => rfl
    | some e =>
      have := (newF_mem h.reverse.2 x e).1 hy
      have := (newF_mem h.2 x e).2 ⟨List.mem_reverse.1 this.1, this.2⟩
      rw [hx] at this; cases this
  | some e =>
    have := (newF_mem h.2 x e).1 hx
    exact (newF_mem h.reverse.2 x e).2 ⟨List.mem_reverse.2 this.1, this.2⟩
theorem perm_of_sub {α : Type} : ∀ (E D : List α), E.Nodup → (∀ e ∈ E, e ∈ D) → D.length ≤ E.length → E.Perm D
  | [], D, _, _, h => by
    have : D = [] := List.eq_nil_of_length_eq_zero (by simpa using h)
    rw [this]
  | a :: E, D, hn, hs, hl => by
    obtain ⟨s, t, rfl⟩ := List.append_of_mem (hs a (by simp))
    rw [List.nodup_cons] at hn
    have hp : (s ++ a :: t).Perm (a :: (s ++ t)) := List.perm_middle
    have ih := perm_of_sub E (s ++ t) hn.2 (fun e he => by
      have := hs e (by simp [he])
      have hne : e ≠ a := fun k => hn.1 (k ▸ he)
      simp only [List.mem_append, List.mem_cons] at this ⊢
      rcases this with h | h | h
      · exact Or.inl h
      · exact absurd h hne
      · exact Or.inr h) (by simp only [List.length_append, List.length_cons] at hl ⊢; omega)
    exact (ih.cons a).trans hp.symm
/-- What is kept of each package at its name: its bytes with the sums. -/
def heldF (E : List PkgD) : By → Option By := fun x => (newF E x).map packP
/-- Are two lists alike? -/
def AlikeL (E D : List PkgD) : Prop := E.length = D.length ∧ ∀ x k, heldF E x = some k → heldF D x = some k
theorem alike_iff {E D : List PkgD} (h : GoodL E) (k : GoodL D) : AlikeL E D ↔ newF E = newF D := by
  constructor
  · rintro ⟨hl, hh⟩
    have hsub : ∀ e ∈ E, e ∈ D := by
      intro e he
      have h1 : newF E e.name = some e := (newF_mem h.2 _ _).2 ⟨he, rfl⟩
      have h2 : heldF E e.name = some (packP e) := by unfold heldF; rw [h1]; rfl
      have h3 := hh _ _ h2
      unfold heldF at h3
      cases hd : newF D e.name with
      | none => rw [hd] at h3; cases h3
      | some d =>
        rw [hd] at h3
        have hd' := (newF_mem k.2 _ _).1 hd
        have : d = e := packP_inj (k.1 d hd'.1).1 (h.1 e he).1 (Option.some.inj h3)
        rw [← this]; exact hd'.1
    have hE : E.Nodup := List.Pairwise.of_map PkgD.name (fun a b hab e => hab (by rw [e])) h.2
    have hD : D.Nodup := List.Pairwise.of_map PkgD.name (fun a b hab e => hab (by rw [e])) k.2
    have hp : E.Perm D := perm_of_sub E D hE hsub (by omega)
    funext x
    cases hx : newF D x with
    | none =>
      cases hy : newF E x with
      | none => rfl
      | some e =>
        have := (newF_mem h.2 x e).1 hy
        have := (newF_mem k.2 x e).2 ⟨hp.mem_iff.1 this.1, this.2⟩
        rw [hx] at this; cases this
    | some e =>
      have := (newF_mem k.2 x e).1 hx
      exact (newF_mem h.2 x e).2 ⟨hp.mem_iff.2 this.1, this.2⟩
  · intro e
    refine ⟨?_, fun x y hy => by unfold heldF at hy ⊢; rw [← e]; exact hy⟩
    have hE : E.Nodup := List.Pairwise.of_map PkgD.name (fun a b hab e => hab (by rw [e])) h.2
    have hD : D.Nodup := List.Pairwise.of_map PkgD.name (fun a b hab e => hab (by rw [e])) k.2
    have hp : E.Perm D := (List.perm_ext_iff_of_nodup hE hD).2 fun d => by
      constructor
      · intro hd
        have : newF E d.name = some d := (newF_mem h.2 _ _).2 ⟨hd, rfl⟩
        rw [e] at this
        exact ((newF_mem k.2 _ _).1 this).1
      · intro hd
        have : newF D d.name = some d := (newF_mem k.2 _ _).2 ⟨hd, rfl⟩
        rw [← e] at this
        exact ((newF_mem h.2 _ _).1 this).1
    exact hp.length_eq
theorem packP_pos (p : PkgD) : packP p ≠ [] := by
  intro h
  have : (packP p).length = 0 := by rw [h]; rfl
  simp [packP, raw4_len] at this
end Go.Proofs.YtnclibfhbngkjaaGreatDoor
