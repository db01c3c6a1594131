/- Needs and files in rows of a call's own, as they lie in memory. -/
import Derived.Test.YtnclibfhbngkjaaGreatDoorArcEach
namespace Go.Proofs.YtnclibfhbngkjaaGreatDoor
open Go.RowKit
theorem needC_at : ∀ (L : List NeedD) (i : Nat), i < L.length → (needC L)[i * 3]? = some (.string (bs (L.getD i nz).name)) ∧ (needC L)[i * 3 + 1]? = some (.int .i64 (L.getD i nz).way) ∧ (needC L)[i * 3 + 2]? = some (.string (bs (L.getD i nz).ver)) := by
  intro L
  induction L with
  | nil => intro i hi; simp at hi
  | cons m L ih =>
    intro i hi
    cases i with
    | zero => exact ⟨rfl, rfl, rfl⟩
    | succ i =>
      have := ih i (by simp at hi; omega)
      have e : needC (m :: L) = .string (bs m.name) :: .int .i64 m.way :: .string (bs m.ver) :: needC L := rfl
      have e1 : (i + 1) * 3 = i * 3 + 1 + 1 + 1 := by omega
      have e2 : i * 3 + 1 + 1 + 1 + 1 = (i * 3 + 1) + 1 + 1 + 1 := by omega
      have e3 : i * 3 + 1 + 1 + 1 + 2 = (i * 3 + 2) + 1 + 1 + 1 := by omega
      rw [e, e1, e2, e3]
      simpa using this
theorem OwnNd.needs {w : World} {base : Nat} {a : Option Addr} {cap : Nat} {D : List NeedD} (h : OwnNd w base a cap D) : NeedsM w a D ∧ D.length ≤ cap := by
  have hlen : (needC D).length = D.length * 3 := h.1
  rcases h.2 with ⟨h1, h2⟩ | ⟨g, c, cur, h1, _, hg, hn, hm, hs, ht⟩
  · exact ⟨Or.inl (List.eq_nil_of_length_eq_zero h2), by omega⟩
  · simp only [Value.slice.injEq] at h1
    obtain ⟨rfl, _, rfl⟩ := h1
    have e0 : ∀ (j : Nat) (v : Value), (cur.toList.take (D.length * 3))[j]? = some v → cur[j]? = some v := by
      intro j v hj
      rw [List.getElem?_take] at hj
      split at hj
      · simpa using hj
      · cases hj
    refine ⟨Or.inr ⟨g, 0, rfl, (Array.getElem?_eq_some_iff.1 hg).1, fun i hi => ?_⟩, by omega⟩
    have h3 := needC_at D i hi
    rw [← ht] at h3
    refine ⟨?_, ?_, ?_⟩
    · rw [Nat.zero_add]; exact blk_cell hg _ _ (e0 _ _ h3.1)
    · rw [Nat.zero_add]; exact blk_cell hg _ _ (e0 _ _ h3.2.1)
    · rw [Nat.zero_add]; exact blk_cell hg _ _ (e0 _ _ h3.2.2)
theorem fileC_at : ∀ (L : List (FileD × (Option Addr × Nat))) (i : Nat) (hi : i < L.length), (fileC L)[i * 3]? = some (.string (bs L[i].1.path)) ∧ (fileC L)[i * 3 + 1]? = some (.bool L[i].1.config) ∧ (fileC L)[i * 3 + 2]? = some (.slice L[i].2.1 L[i].1.data.length L[i].2.2) := by
  intro L
  induction L with
  | nil => intro i hi; simp at hi
  | cons m L ih =>
    intro i hi
    cases i with
    | zero => exact ⟨rfl, rfl, rfl⟩
    | succ i =>
      have := ih i (by simp at hi; omega)
      have e : fileC (m :: L) = .string (bs m.1.path) :: .bool m.1.config :: .slice m.2.1 m.1.data.length m.2.2 :: fileC L := rfl
      have e1 : (i + 1) * 3 = i * 3 + 1 + 1 + 1 := by omega
      have e2 : i * 3 + 1 + 1 + 1 + 1 = (i * 3 + 1) + 1 + 1 + 1 := by omega
      have e3 : i * 3 + 1 + 1 + 1 + 2 = (i * 3 + 2) + 1 + 1 + 1 := by omega
      rw [e, e1, e2, e3]
      simpa using this
theorem OwnF.files {w : World} {base : Nat} {a : Option Addr} {cap : Nat} {D : List FileD} (h : OwnF w base a cap D) : FilesM w a D ∧ D.length ≤ cap := by
  obtain ⟨L, rfl, h, hb⟩ := h
  have hLl : (L.map Prod.fst).length = L.length := List.length_map _
  rcases h.2 with ⟨h1, h2⟩ | ⟨g, c, cur, h1, _, hg, hn, hm, hs, ht⟩
  · exact ⟨Or.inl (List.eq_nil_of_length_eq_zero h2), by omega⟩
  · simp only [Value.slice.injEq] at h1
    obtain ⟨rfl, _, rfl⟩ := h1
    have e0 : ∀ (j : Nat) (v : Value), (cur.toList.take ((L.map Prod.fst).length * 3))[j]? = some v → cur[j]? = some v := by
      intro j v hj
      rw [List.getElem?_take] at hj
      split at hj
      · simpa using hj
      · cases hj
    refine ⟨Or.inr ⟨g, 0, rfl, (Array.getElem?_eq_some_iff.1 hg).1, fun i hi => ?_⟩, by omega⟩
    have hi' : i < L.length := by omega
    have h3 := fileC_at L i hi'
    rw [← ht] at h3
    have eD : (L.map Prod.fst).getD i fz = L[i].1 := by simp [hi']
    obtain ⟨b1, b2⟩ := hb L[i] (List.getElem_mem hi')
    rw [eD]
    refine ⟨?_, ?_, L[i].2.1, L[i].2.2, ?_, b1, b2.bytes⟩
    · rw [Nat.zero_add]; exact blk_cell hg _ _ (e0 _ _ h3.1)
    · rw [Nat.zero_add]; exact blk_cell hg _ _ (e0 _ _ h3.2.1)
    · rw [Nat.zero_add]; exact blk_cell hg _ _ (e0 _ _ h3.2.2)
end Go.Proofs.YtnclibfhbngkjaaGreatDoor
