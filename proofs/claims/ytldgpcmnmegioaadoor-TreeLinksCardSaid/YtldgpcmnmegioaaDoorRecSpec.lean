/- Plain words on records: how numbers, texts and lists are read off bytes, and packed. No program in sight. -/
import Derived.Lib.Hide
namespace Go.Proofs.YtldgpcmnmegioaaDoor
/-- What a reader has left, and whether something was bad. -/
abbrev RSt := List UInt8 × Bool
def byteAt (l : List UInt8) (i : Nat) : Nat := (l.getD i 0).toNat
def le32 (l : List UInt8) : Nat := byteAt l 0 + 256 * byteAt l 1 + 65536 * byteAt l 2 + 16777216 * byteAt l 3
def num4 (n : Nat) : List UInt8 := [UInt8.ofNat n, UInt8.ofNat (n / 256), UInt8.ofNat (n / 65536), UInt8.ofNat (n / 16777216)]
theorem num4_len (n : Nat) : (num4 n).length = 4 := rfl
theorem le32_lt (l : List UInt8) : le32 l < 4294967296 := by
  unfold le32 byteAt
  have h0 := (l.getD 0 0).toNat_lt
  have h1 := (l.getD 1 0).toNat_lt
  have h2 := (l.getD 2 0).toNat_lt
  have h3 := (l.getD 3 0).toNat_lt
  omega
theorem u8_ofNat_eq {n : Nat} {b : UInt8} (h : n % 256 = b.toNat) : UInt8.ofNat n = b := by
  apply UInt8.toNat_inj.1
  rw [UInt8.toNat_ofNat']
  exact h
theorem num4_le32 {l : List UInt8} (h : 4 ≤ l.length) : num4 (le32 l) ++ l.drop 4 = l := by
  match l, h with
  | a :: b :: c :: d :: r, _ =>
    have ha := a.toNat_lt
    have hb := b.toNat_lt
    have hc := c.toNat_lt
    have hd := d.toNat_lt
    have e : le32 (a :: b :: c :: d :: r) = a.toNat + 256 * b.toNat + 65536 * c.toNat + 16777216 * d.toNat := rfl
    have e0 : UInt8.ofNat (le32 (a :: b :: c :: d :: r)) = a := u8_ofNat_eq (by rw [e]; omega)
    have e1 : UInt8.ofNat (le32 (a :: b :: c :: d :: r) / 256) = b := u8_ofNat_eq (by rw [e]; omega)
    have e2 : UInt8.ofNat (le32 (a :: b :: c :: d :: r) / 65536) = c := u8_ofNat_eq (by rw [e]; omega)
    have e3 : UInt8.ofNat (le32 (a :: b :: c :: d :: r) / 16777216) = d := u8_ofNat_eq (by rw [e]; omega)
    unfold num4
    rw [e0, e1, e2, e3]
    rfl
/-- A number up to a bound. -/
def rNum (most : Nat) (s : RSt) : Nat × RSt :=
  if s.1.length < 4 then (0, ([], true)) else
  if most < le32 s.1 then (0, ([], true)) else (le32 s.1, (s.1.drop 4, s.2))
/-- Bytes up to a bound. -/
def rRaw (most : Nat) (s : RSt) : List UInt8 × RSt :=
  if (rNum most s).2.1.length < (rNum most s).1 then ([], ([], true))
  else ((rNum most s).2.1.take (rNum most s).1, ((rNum most s).2.1.drop (rNum most s).1, (rNum most s).2.2))
/-- A list: its own reader, and what is left. -/
def rList (s : RSt) : RSt × RSt := (((rRaw 16777216 s).1, (rRaw 16777216 s).2.2), (rRaw 16777216 s).2)
def raw4 (l : List UInt8) : List UInt8 := num4 l.length ++ l
theorem rNum_good {most : Nat} {s : RSt} {n : Nat} {l : List UInt8} (h : rNum most s = (n, (l, false))) : s.2 = false ∧ s.1 = num4 n ++ l ∧ n ≤ most ∧ n < 4294967296 := by
  unfold rNum at h
  split at h
  · simp at h
  · split at h
    · simp at h
    · simp only [Prod.mk.injEq] at h
      obtain ⟨h1, h2, h3⟩ := h
      subst h1 h2
      exact ⟨h3, (num4_le32 (by omega)).symm, by omega, le32_lt _⟩
theorem rRaw_good {most : Nat} {s : RSt} {p l : List UInt8} (h : rRaw most s = (p, (l, false))) : s.2 = false ∧ s.1 = raw4 p ++ l ∧ p.length ≤ most := by
  unfold rRaw at h
  split at h
  · simp at h
  · rename_i hlt
    simp only [Prod.mk.injEq] at h
    obtain ⟨h1, h2, h3⟩ := h
    have hn : rNum most s = ((rNum most s).1, ((rNum most s).2.1, false)) := by rw [← h3]
    obtain ⟨g1, g2, g3, _⟩ := rNum_good hn
    have hl : p.length = (rNum most s).1 := by rw [← h1, List.length_take]; omega
    refine ⟨g1, ?_, by omega⟩
    rw [g2, raw4, hl, List.append_assoc, ← h1, ← h2, List.take_append_drop]
theorem rList_good {s a b : RSt} (h : rList s = (a, b)) (ha : a.2 = false) : s.2 = false ∧ s.1 = raw4 a.1 ++ b.1 ∧ b.2 = false := by
  obtain ⟨m, e⟩ := a
  simp only at ha
  subst ha
  unfold rList at h
  simp only [Prod.mk.injEq] at h
  obtain ⟨h1, h2⟩ := h
  have hr : rRaw 16777216 s = (m, (b.1, false)) := by rw [← h1.1, ← h2, ← h1.2]
  obtain ⟨g1, g2, _⟩ := rRaw_good hr
  exact ⟨g1, g2, by rw [← h2, h1.2]⟩
theorem rNum_len (most : Nat) (s : RSt) : (rNum most s).2.1.length ≤ s.1.length := by
  unfold rNum; split
  · simp
  · split <;> simp
theorem rNum_less {most : Nat} {s : RSt} (h : 0 < s.1.length) : (rNum most s).2.1.length < s.1.length := by
  unfold rNum; split
  · simpa using h
  · split
    · simpa using h
    · simp; omega
theorem rRaw_len (most : Nat) (s : RSt) : (rRaw most s).2.1.length ≤ s.1.length ∧ (rRaw most s).1.length ≤ s.1.length := by
  have := rNum_len most s
  unfold rRaw; split
  · simp
  · simp; omega
theorem rRaw_less {most : Nat} {s : RSt} (h : 0 < s.1.length) : (rRaw most s).2.1.length < s.1.length := by
  have := rNum_less (most := most) h
  unfold rRaw; split
  · simpa using h
  · simp; omega
theorem rNum_le (most : Nat) (s : RSt) : (rNum most s).1 ≤ most := by
  unfold rNum; split
  · simp
  · split
    · simp
    · simp; omega
/-- Nothing is left, and nothing was bad. -/
def rDone (s : RSt) : Bool := !s.2 && decide (s.1.length = 0)
theorem rDone_of {s : RSt} (h : rDone s = true) : s = ([], false) := by
  obtain ⟨l, b⟩ := s
  unfold rDone at h
  simp only [Bool.and_eq_true, Bool.not_eq_true', decide_eq_true_eq] at h
  obtain ⟨rfl, h⟩ := h
  rw [List.eq_nil_of_length_eq_zero h]
end Go.Proofs.YtldgpcmnmegioaaDoor
