/- Plain words on numerals: a text that is just how a number is written. -/
import Derived.Test.YtlpjmkkinlcbnaaGreatDoorM1
import Derived.Lib.AtoiAll
import Derived.Lib.ItoaNum
namespace Go.Proofs.YtlpjmkkinlcbnaaGreatDoor
/-- Digits alone? -/
def digs (l : List UInt8) : Bool := l.all fun b => decide (48 ≤ b.toNat ∧ b.toNat ≤ 57)
/-- The number of digits. -/
def valD (l : List UInt8) : Nat := l.foldl (fun acc b => acc * 10 + (b.toNat - 48)) 0
/-- The number that is written just so; none: no number is. -/
def canon (l : List UInt8) : Option Nat :=
  if l ≠ [] ∧ digs l = true ∧ (l.length = 1 ∨ l.head? ≠ some 48) then some (valD l) else none
theorem valD_snoc (l : List UInt8) (b : UInt8) : valD (l ++ [b]) = valD l * 10 + (b.toNat - 48) := by simp [valD]
theorem digs_snoc (l : List UInt8) (b : UInt8) : digs (l ++ [b]) = (digs l && decide (48 ≤ b.toNat ∧ b.toNat ≤ 57)) := by simp [digs]
theorem digit_byte {b : UInt8} (h : 48 ≤ b.toNat ∧ b.toNat ≤ 57) : UInt8.ofNat (48 + (b.toNat - 48)) = b := by
  apply UInt8.toNat_inj.1
  rw [UInt8.toNat_ofNat']
  omega
theorem list_snoc_ind {p : List UInt8 → Prop} (h0 : p []) (h1 : ∀ l b, p l → p (l ++ [b])) (l : List UInt8) : p l := by
  have : ∀ n (l : List UInt8), l.length = n → p l := by
    intro n
    induction n with
    | zero => intro l hl; have := List.eq_nil_of_length_eq_zero hl; subst this; exact h0
    | succ n ih =>
      intro l hl
      have hne : l ≠ [] := by intro e; subst e; simp at hl
      rw [← List.dropLast_concat_getLast hne]
      exact h1 _ _ (ih _ (by simp [hl]))
  exact this _ l rfl
theorem valD_pos {l : List UInt8} (hd : digs l = true) (hne : l ≠ []) (hh : l.head? ≠ some 48) : 1 ≤ valD l := by
  induction l using list_snoc_ind with
  | h0 => exact absurd rfl hne
  | h1 l b ih =>
    rw [digs_snoc, Bool.and_eq_true, decide_eq_true_eq] at hd
    rw [valD_snoc]
    by_cases hl : l = []
    · subst hl
      simp at hh
      have : b.toNat ≠ 48 := fun e => hh (UInt8.toNat_inj.1 (by rw [e]; rfl))
      omega
    · have := ih hd.1 hl (by
        intro e; apply hh
        cases l with
        | nil => exact absurd rfl hl
        | cons x r => simpa using e)
      omega
theorem decDigits_val {l : List UInt8} (hd : digs l = true) (hne : l ≠ []) (hh : l.length = 1 ∨ l.head? ≠ some 48) : Lib.decDigits (valD l) = l := by
  induction l using list_snoc_ind with
  | h0 => exact absurd rfl hne
  | h1 l b ih =>
    rw [digs_snoc, Bool.and_eq_true, decide_eq_true_eq] at hd
    rw [valD_snoc]
    by_cases hl : l = []
    · subst hl
      have : valD [] = 0 := rfl
      rw [this, Lib.decDigits_one (by omega)]
      simp [digit_byte hd.2]
    · have h1 : 2 ≤ (l ++ [b]).length := by
        cases l with
        | nil => exact absurd rfl hl
        | cons x r => simp
      have h2 : l.head? ≠ some 48 := by
        rcases hh with h | h
        · omega
        · intro e; apply h
          cases l with
          | nil => exact absurd rfl hl
          | cons x r => simpa using e
      have h3 := valD_pos hd.1 hl h2
      rw [Lib.decDigits, dif_neg (by omega)]
      rw [show (valD l * 10 + (b.toNat - 48)) / 10 = valD l by omega, ih hd.1 hl (Or.inr h2)]
      congr 2
      have : (valD l * 10 + (b.toNat - 48)) % 10 = b.toNat - 48 := by omega
      rw [this, digit_byte hd.2]
theorem decDigits_canon : ∀ (n : Nat), canon (Lib.decDigits n) = some n := by
  intro n
  have key : ∀ k n, n < k → (Lib.decDigits n ≠ [] ∧ digs (Lib.decDigits n) = true ∧ (n < 10 ∧ (Lib.decDigits n).length = 1 ∨ 10 ≤ n ∧ (Lib.decDigits n).head? ≠ some 48) ∧ valD (Lib.decDigits n) = n ∧ (1 ≤ n → (Lib.decDigits n).head? ≠ some 48)) := by
    intro k
    induction k with
    | zero => intro n h; omega
    | succ k ih =>
      intro n hn
      by_cases h10 : n < 10
      · rw [Lib.decDigits_one h10]
        have e : (UInt8.ofNat (48 + n)).toNat = 48 + n := by rw [UInt8.toNat_ofNat']; omega
        refine ⟨by simp, by simp only [digs, List.all_cons, List.all_nil, Bool.and_true, decide_eq_true_eq, e]; omega, Or.inl ⟨h10, rfl⟩, ?_, ?_⟩
        · simp only [valD, List.foldl_cons, List.foldl_nil, e]; omega
        · intro h1
          simp only [List.head?_cons, ne_eq, Option.some.injEq]
          intro h
          have := congrArg UInt8.toNat h
          rw [e] at this
          have e48 : (48 : UInt8).toNat = 48 := rfl
          omega
      · have h := ih (n / 10) (by omega)
        have e : (UInt8.ofNat (48 + n % 10)).toNat = 48 + n % 10 := by rw [UInt8.toNat_ofNat']; omega
        have hh := h.2.2.2.2 (by omega)
        have hr : Lib.decDigits n = Lib.decDigits (n / 10) ++ [UInt8.ofNat (48 + n % 10)] := by rw [Lib.decDigits, dif_neg h10]
        have hhead : (Lib.decDigits n).head? ≠ some 48 := by
          rw [hr]
          intro e2; apply hh
          cases hd : Lib.decDigits (n / 10) with
          | nil => exact absurd hd h.1
          | cons x r => rw [hd] at e2; simpa using e2
        refine ⟨by rw [hr]; simp, ?_, Or.inr ⟨by omega, hhead⟩, ?_, fun _ => hhead⟩
        · rw [hr, digs_snoc, h.2.1, Bool.true_and, decide_eq_true_eq, e]; omega
        · rw [hr, valD_snoc, h.2.2.2.1, e]; omega
  have h := key (n + 1) n (by omega)
  unfold canon
  rw [if_pos ⟨h.1, h.2.1, by
    rcases h.2.2.1 with h1 | h1
    · exact Or.inl h1.2
    · exact Or.inr h1.2⟩, h.2.2.2.1]
theorem canon_iff (l : List UInt8) (n : Nat) : canon l = some n ↔ Lib.decDigits n = l := by
  constructor
  · intro h
    unfold canon at h
    split at h
    · rename_i hc
      have h := Option.some.inj h
      rw [← h]; exact decDigits_val hc.2.1 hc.1 hc.2.2
    · cases h
  · intro h; rw [← h]; exact decDigits_canon n
theorem itoa_nat (n : Nat) : Lib.itoa (n : Int) = Lib.decDigits n := by
  unfold Lib.itoa; rw [if_neg (by omega)]; rfl
theorem fold_ge (l : List UInt8) : ∀ acc : Nat, acc ≤ l.foldl (fun acc b => acc * 10 + (b.toNat - 48)) acc := by
  induction l with
  | nil => intro acc; exact Nat.le_refl _
  | cons b r ih => intro acc; have := ih (acc * 10 + (b.toNat - 48)); simp only [List.foldl_cons]; omega
theorem parse_digs (l : List UInt8) : ∀ acc : Nat, digs l = true → l.foldl (fun acc b => acc * 10 + (b.toNat - 48)) acc ≤ 1000000000000000000 →
    Lib.parseUint10 acc l = .ok (l.foldl (fun acc b => acc * 10 + (b.toNat - 48)) acc) := by
  induction l with
  | nil => intro acc _ _; rfl
  | cons b r ih =>
    intro acc hd hb
    simp only [digs, List.all_cons, Bool.and_eq_true, decide_eq_true_eq] at hd
    have hg := fold_ge r (acc * 10 + (b.toNat - 48))
    simp only [List.foldl_cons] at hb ⊢
    rw [Lib.parseUint10, if_pos hd.1, if_neg (by omega), if_neg (by omega)]
    exact ih _ hd.2 hb
theorem atoi_canon {l : List UInt8} {n : Nat} (h : canon l = some n) (hn : n ≤ 1000000000000000000) : Lib.atoiAll l = .ok (n : Int) := by
  unfold canon at h
  split at h
  · rename_i hc
    have h := Option.some.inj h
    cases l with
    | nil => exact absurd rfl hc.1
    | cons b r =>
      have hd := hc.2.1
      simp only [digs, List.all_cons, Bool.and_eq_true, decide_eq_true_eq] at hd
      have e1 : ¬ (b.toNat = 43 ∨ b.toNat = 45) := by omega
      have e2 : ¬ b.toNat = 45 := by omega
      have hp : Lib.parseMag (b :: r) = .ok n := by
        unfold Lib.parseMag
        rw [if_neg (by simp), parse_digs (b :: r) 0 hc.2.1 (by show valD (b :: r) ≤ _; rw [h]; exact hn)]
        show Lib.NumEnd.ok (valD (b :: r)) = _
        rw [h]
      unfold Lib.atoiAll
      have e3 : ¬ b.toNat = 43 := by omega
      simp only [e3, e2, or_self, if_false]
      rw [hp]
      show (if _ then _ else _) = _
      rw [if_neg (by omega)]
      simp only [false_and, if_false]
  · cases h
theorem canon_len {l : List UInt8} {n : Nat} (h : canon l = some n) : 1 ≤ l.length := by
  unfold canon at h
  split at h
  · rename_i hc
    cases l with
    | nil => exact absurd rfl hc.1
    | cons => simp
  · cases h
end Go.Proofs.YtlpjmkkinlcbnaaGreatDoor
