/- Plain laws on the files of packages that may be there together. No program in sight. -/
import Derived.Test.YtnclibfhbngkjaaGreatDoorDepLaws
namespace Go.Proofs.YtnclibfhbngkjaaGreatDoor
theorem splitOn_two (c : UInt8) (a b : By) : splitOn c (a ++ c :: b) = splitOn c a ++ splitOn c b := by
  induction a with
  | nil => simp [splitOn]
  | cons x a ih =>
    rw [List.cons_append, splitOn, splitOn]
    split
    · rw [ih]; rfl
    · rw [ih]
      cases h : splitOn c a with
      | nil => exact absurd h (splitOn_ne c a)
      | cons p q => simp
/-- What begins with a path and a slash stands within it. -/
theorem within_of {p q r : By} (hp : rightL p = true) (hq : rightL q = true) (e : q = p ++ 47 :: r) : withinL q p = true := by
  unfold rightL at hp hq
  cases hpl : pathL p with
  | none => rw [hpl] at hp; cases hp
  | some U =>
    cases hql : pathL q with
    | none => rw [hql] at hq; cases hq
    | some L =>
      obtain ⟨_, _, _, hU⟩ := pathL_facts hpl
      obtain ⟨_, _, _, hL⟩ := pathL_facts hql
      rw [hpl] at hp
      rw [hql] at hq
      simp only [decide_eq_true_eq] at hp hq
      rcases hU with ⟨_, h⟩ | ⟨hp1, _, hg, hs⟩
      · rw [h] at hp; simp at hp
      · rcases hL with ⟨_, h⟩ | ⟨_, _, hg2, hs2⟩
        · rw [h] at hq; simp at hq
        · have hpt : p = 47 :: p.tail := by
            cases U with
            | nil => simp at hp
            | cons u U => rw [glue_cons] at hg; rw [← hg]; rfl
          have hqt : q.tail = p.tail ++ 47 :: r := by
            rw [e, hpt]; rfl
          have hLU : L = U ++ splitOn 47 r := by rw [hs2, hqt, splitOn_two, ← hs]
          have h1 := splitOn_length_pos 47 r
          unfold withinL
          rw [hpl, hql]
          simp only
          rw [hLU]
          simp
          omega
def pathsF (f : BaseF) (ss : List By) : List By := ss.flatMap fun n => (((f n).getD pz).files.map FileD.path)
theorem mem_paths {f : BaseF} {ss : List By} {p : By} : p ∈ pathsF f ss ↔ ∃ n ∈ ss, ∃ g ∈ ((f n).getD pz).files, g.path = p := by
  simp [pathsF, List.mem_flatMap]
theorem ltL_ne {a b : By} (h : ltL a b = true) : a ≠ b := by
  intro e
  subst e
  have : ∀ a : By, ltL a a = false := by
    intro a
    induction a with
    | nil => rfl
    | cons x a ih => simp [ltL, ih]
  rw [this a] at h; cases h
theorem files_rise {L : List FileD} (h : filesTo L L.length = true) : (L.map FileD.path).Pairwise (fun a b => ltL a b = true) := by
  rw [List.pairwise_iff_getElem]
  have step : ∀ (i : Nat) (hi : i + 1 < L.length), ltL L[i].path L[i + 1].path = true := by
    intro i hi
    unfold filesTo at h
    have := (List.all_eq_true.1 h) (i + 1) (by simpa using hi)
    unfold fileAt at this
    simp only [Bool.and_eq_true, Bool.or_eq_true, decide_eq_true_eq] at this
    rcases this.2.1 with h0 | h1
    · omega
    · simpa [List.getD_eq_getElem?_getD, hi, (by omega : i < L.length)] using h1
  have all : ∀ (d i : Nat) (hi : i + d + 1 < L.length), ltL L[i].path L[i + d + 1].path = true := by
    intro d
    induction d with
    | zero => intro i hi; exact step i hi
    | succ d ih =>
      intro i hi
      exact ltL_trans (ih i (by omega)) (step (i + d + 1) hi)
  intro i j hi hj hij
  simp only [List.length_map] at hi hj
  simp only [List.getElem_map]
  have := all (j - i - 1) i (by omega)
  have e : i + (j - i - 1) + 1 = j := by omega
  simp only [e] at this
  exact this
theorem paths_nodup {f : BaseF} {ss : List By} (hf : GoodF f) (h : NamesF f ss) (hc : CheckOK f ss) : (pathsF f ss).Nodup := by
  unfold pathsF List.Nodup
  rw [List.pairwise_flatMap]
  refine ⟨fun n hn => ?_, ?_⟩
  · obtain ⟨e, he⟩ := Option.isSome_iff_exists.1 ((h.2.2 n).1 hn)
    have hr := (hf n e he).2.1
    rw [he]
    unfold rightP at hr
    simp only [Bool.and_eq_true] at hr
    exact List.Pairwise.imp (fun {a b} h => ltL_ne h) (files_rise hr.2.2.2.2)
  · refine List.Pairwise.imp_of_mem (fun {n m} hn hm hne x hx y hy e => ?_) h.2.1
    obtain ⟨g, hg, rfl⟩ := List.mem_map.1 hx
    obtain ⟨d, hd, rfl⟩ := List.mem_map.1 hy
    have h1 := (hc.2.2 n hn g hg).1
    have h2 := (hc.2.2 m hm d hd).1
    rw [← e, h1] at h2
    exact hne h2
theorem paths_right {f : BaseF} {ss : List By} (hf : GoodF f) (h : NamesF f ss) {p : By} (hp : p ∈ pathsF f ss) : rightL p = true := by
  obtain ⟨n, hn, g, hg, rfl⟩ := mem_paths.1 hp
  obtain ⟨e, he⟩ := Option.isSome_iff_exists.1 ((h.2.2 n).1 hn)
  have hr := (hf n e he).2.1
  rw [he] at hg
  unfold rightP at hr
  simp only [Bool.and_eq_true] at hr
  have := filesTo_all hr.2.2.2.2
  rw [List.take_length] at this
  have := this g hg
  unfold fileR at this
  simp only [Bool.and_eq_true] at this
  exact this.1
theorem paths_apart {f : BaseF} {ss : List By} (hf : GoodF f) (h : NamesF f ss) (hc : CheckOK f ss) {p q r : By} (hp : p ∈ pathsF f ss) (hq : q ∈ pathsF f ss) : q ≠ p ++ 47 :: r := by
  intro e
  have hw := within_of (paths_right hf h hp) (paths_right hf h hq) e
  obtain ⟨n, hn, g, hg, rfl⟩ := mem_paths.1 hq
  obtain ⟨m, hm, d, hd, rfl⟩ := mem_paths.1 hp
  have := (hc.2.2 n hn g hg).2
  unfold anyIn at this
  rw [List.any_eq_false] at this
  have := this m hm
  rw [Bool.not_eq_true, List.any_eq_false] at this
  exact this d hd hw
end Go.Proofs.YtnclibfhbngkjaaGreatDoor
