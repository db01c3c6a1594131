/- Plain words on units that come in: may one be, and how long is its text. -/
import Derived.Test.YtedfpoidggpkdaaDoorUnitText
import Derived.Test.YtedfpoidggpkdaaDoorUnitBack
import Derived.Test.YtedfpoidggpkdaaDoorRef05Split
namespace Go.Proofs.YtedfpoidggpkdaaDoor
open Go.RowKit
/-- What Split tells, as far as a line asks. -/
theorem split_weak (r : Bs) (w : World) :
    Calls Tryd.prog 16 #[.string (bs r)] w fun e w' => ∃ a n c b, e = .returned (.tuple #[.slice a (n : Nat) c, .bool b]) ∧ rightL r = (b && decide (0 < n)) ∧ Ext w w' := by
  have h := ref_split (bs r) w
  rw [bs_data] at h
  refine h.mono ?_
  intro e w' hp
  cases ho : pathL r with
  | none =>
    rw [ho] at hp
    obtain ⟨rfl, hx⟩ := hp
    exact ⟨none, 0, 0, false, rfl, by rw [rightL_none ho]; rfl, hx⟩
  | some L =>
    rw [ho] at hp
    obtain ⟨a, c, rfl, _, _, hx⟩ := hp
    exact ⟨a, L.length, c, true, rfl, by rw [rightL_some ho]; rfl, hx⟩
def headB (u : UnitD) : Bool := nameL u.name && (decide (0 ≤ u.retry) && (decide (u.retry ≤ 3) && decide (0 < u.files.length)))
/-- May a text stand in a list? -/
def okW (f : Nat) (p : Bs) : Bool := if f = 1 then rightL p else nameL p
def rowTo (f : Nat) (L : List Bs) (k : Nat) : Bool := (List.range k).all fun j => okW f (L.getD j []) && !decide (L.getD j [] ∈ L.take j)
def rowB (f : Nat) (L : List Bs) : Bool := decide (L.length ≤ 8) && rowTo f L L.length
def rowsB (u : UnitD) (k : Nat) : Bool := (List.range k).all fun j => rowB (j + 1) (u.row (j + 1))
def goodB (u : UnitD) : Bool := headB u && rowsB u 6
theorem rowTo_succ (f : Nat) (L : List Bs) (k : Nat) : rowTo f L (k + 1) = (rowTo f L k && (okW f (L.getD k []) && !decide (L.getD k [] ∈ L.take k))) := by
  simp [rowTo, List.range_succ, List.all_append]
theorem rowsB_succ (u : UnitD) (k : Nat) : rowsB u (k + 1) = (rowsB u k && rowB (k + 1) (u.row (k + 1))) := by
  simp [rowsB, List.range_succ, List.all_append]
theorem rowTo_spec (f : Nat) (L : List Bs) : ∀ k, k ≤ L.length → (rowTo f L k = true ↔ (L.take k).Nodup ∧ ∀ s ∈ L.take k, if f = 1 then rightL s = true else nameL s = true)
  | 0, _ => by simp [rowTo]
  | k + 1, hk => by
    have ih := rowTo_spec f L k (by omega)
    have hlt : k < L.length := by omega
    have e : L.getD k [] = L[k] := by simp [List.getD_eq_getElem?_getD, hlt]
    rw [rowTo_succ, List.take_succ_eq_append_getElem hlt, List.nodup_append, e]
    simp only [Bool.and_eq_true, ih, Bool.not_eq_true', decide_eq_false_iff_not, List.mem_append, List.mem_singleton]
    have ho : okW f L[k] = true ↔ (if f = 1 then rightL L[k] = true else nameL L[k] = true) := by unfold okW; split <;> rfl
    rw [ho]
    constructor
    · rintro ⟨⟨h1, h2⟩, h3, h4⟩
      refine ⟨⟨h1, by simp, ?_⟩, ?_⟩
      · intro a ha b hb
        have : b = L[k] := by simpa using hb
        subst this
        intro e; subst e; exact h4 ha
      · intro s hs
        rcases hs with hs | hs
        · exact h2 s hs
        · subst hs; exact h3
    · rintro ⟨⟨h1, _, h3⟩, h4⟩
      exact ⟨⟨h1, fun s hs => h4 s (Or.inl hs)⟩, h4 _ (Or.inr rfl), fun hm => h3 _ hm _ (by simp) rfl⟩
theorem rowB_spec (f : Nat) (L : List Bs) : rowB f L = true ↔ rowR f L := by
  have := rowTo_spec f L L.length (Nat.le_refl _)
  rw [List.take_length] at this
  unfold rowB rowR
  rw [Bool.and_eq_true, this, decide_eq_true_eq]
theorem goodB_spec (u : UnitD) : goodB u = true ↔ GoodU u := by
  unfold goodB headB rowsB
  simp only [Bool.and_eq_true, decide_eq_true_eq, List.all_eq_true, List.mem_range]
  constructor
  · rintro ⟨⟨h1, h2, h3, h4⟩, h5⟩
    refine ⟨h1, fun e => by rw [e] at h4; simp at h4, fun f a b => ?_, ⟨h2, h3⟩⟩
    have := h5 (f - 1) (by omega)
    rw [show f - 1 + 1 = f by omega] at this
    exact (rowB_spec _ _).1 this
  · rintro ⟨h1, h2, h3, h4⟩
    exact ⟨⟨h1, h4.1, h4.2, List.length_pos_iff.2 h2⟩, fun j hj => (rowB_spec _ _).2 (h3 (j + 1) (by omega) (by omega))⟩
/-- Lists that are short. -/
def shortR (L : List Bs) : Prop := L.length ≤ 12 ∧ ∀ s ∈ L, s.length ≤ 60
def shortU (u : UnitD) (k : Nat) : Prop := ∀ j, j < k → shortR (u.row (j + 1))
theorem wordOf_len (f : Nat) : (wordOf f).length ≤ 8 := by unfold wordOf; split <;> decide
theorem rowsT_short (f : Nat) : ∀ (L : List Bs), (∀ s ∈ L, s.length ≤ 60) → (rowsT f L).length ≤ 70 * L.length
  | [], _ => by simp [rowsT]
  | x :: L, h => by
    have e : rowsT f (x :: L) = lineT (wordOf f) x ++ rowsT f L := by unfold rowsT; rw [List.flatMap_cons]
    have ih := rowsT_short f L (fun s hs => h s (by simp [hs]))
    have h1 := h x (by simp)
    have h2 := wordOf_len f
    rw [e, List.length_append]
    unfold lineT
    simp only [List.length_cons, List.length_append, List.length_nil]
    omega
theorem digits_len : ∀ (k n : Nat), n < 10 ^ k → (Lib.decDigits n).length ≤ k + 1
  | 0, n, h => by
    have : n = 0 := by omega
    subst this; rw [Lib.decDigits, dif_pos (by omega)]; simp
  | k + 1, n, h => by
    rw [Lib.decDigits]
    split
    · simp
    · have := digits_len k (n / 10) (by rw [Nat.pow_succ] at h; omega)
      simp only [List.length_append, List.length_cons, List.length_nil]
      omega
theorem itoa_len (n : Int) (h : -1000 ≤ n ∧ n ≤ 1000) : (Lib.itoa n).length ≤ 10 := by
  unfold Lib.itoa
  split
  · have := digits_len 4 n.natAbs (by omega)
    simp only [List.length_cons]; omega
  · have := digits_len 4 n.toNat (by omega)
    omega
theorem text_short (u : UnitD) (h : shortU u 6) (hn : u.name.length ≤ 60) (hr : -1000 ≤ u.retry ∧ u.retry ≤ 1000) : (textU u).length ≤ 100000 := by
  have e : ∀ f, 1 ≤ f → f ≤ 6 → (rowsT f (u.row f)).length ≤ 840 := by
    intro f h1 h6
    have hs := h (f - 1) (by omega)
    rw [show f - 1 + 1 = f by omega] at hs
    have := rowsT_short f (u.row f) hs.2
    have := hs.1
    omega
  have e1 := e 1 (by omega) (by omega)
  have e2 := e 2 (by omega) (by omega)
  have e3 := e 3 (by omega) (by omega)
  have e4 := e 4 (by omega) (by omega)
  have e5 := e 5 (by omega) (by omega)
  have e6 := e 6 (by omega) (by omega)
  have e7 := itoa_len u.retry hr
  rw [textU_eq]
  have s1 : (tlU u 1).length = (rowsT 1 (u.row 1)).length + (tlU u 2).length := by rw [tlU_step u 1 (by omega) (by omega), List.length_append]
  have s2 : (tlU u 2).length = (rowsT 2 (u.row 2)).length + (tlU u 3).length := by rw [tlU_step u 2 (by omega) (by omega), List.length_append]
  have s3 : (tlU u 3).length = (rowsT 3 (u.row 3)).length + (tlU u 4).length := by rw [tlU_step u 3 (by omega) (by omega), List.length_append]
  have s4 : (tlU u 4).length = (rowsT 4 (u.row 4)).length + (tlU u 5).length := by rw [tlU_step u 4 (by omega) (by omega), List.length_append]
  have s5 : (tlU u 5).length = (rowsT 5 (u.row 5)).length + (tlU u 6).length := by rw [tlU_step u 5 (by omega) (by omega), List.length_append]
  have s6 : (tlU u 6).length = (rowsT 6 (u.row 6)).length + (tlU u 7).length := by rw [tlU_step u 6 (by omega) (by omega), List.length_append]
  have s7 : (tlU u 7).length = (lineT wRetry (Lib.itoa u.retry)).length := rfl
  have l1 : (lineT wUnit u.name).length ≤ 70 := by unfold lineT wUnit; simp; omega
  have l2 : (lineT wRetry (Lib.itoa u.retry)).length ≤ 30 := by unfold lineT wRetry; simp; omega
  rw [List.length_append]
  omega
/-- What is parsed out of a unit's text, and may be, is good. -/
theorem tell_bad {u x : UnitD} {s : Bs} {i : Nat} (h : parseU s = (x, 0, i)) (hg : goodB u = false) : u ≠ x := by
  intro e
  have := parseU_good h
  rw [← e, ← goodB_spec, hg] at this
  cases this
end Go.Proofs.YtedfpoidggpkdaaDoor
