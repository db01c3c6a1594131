/- The sum of bytes, as the document has it: the rest of a polynomial, bit by bit. No program in sight. -/
import Derived.Test.YtnclibfhbngkjaaGreatDoorM1
namespace Go.Proofs.YtnclibfhbngkjaaGreatDoor
/-! ### The document's sum: the rest of a polynomial -/
def bit1 (b : Bool) : BitVec 32 := if b then 1#32 else 0#32
/-- The register, one bit of the text at a time. -/
def rg (T : Nat → Bool) : Nat → BitVec 32
  | 0 => crc0
  | k + 1 => crc1 (rg T k ^^^ bit1 (T k))
/-- Bit i of a text. -/
def tbit (l : List UInt8) (i : Nat) : Bool := (l.getD (i / 8) 0).toNat.testBit (i % 8)
def low (c : Nat) : BitVec 32 := BitVec.ofNat 32 c
theorem crc1_double {c : Nat} (h : c < 2 ^ 31) : crc1 (BitVec.ofNat 32 (2 * c)) = BitVec.ofNat 32 c := by
  unfold crc1
  have h0 : (BitVec.ofNat 32 (2 * c)).getLsbD 0 = false := by
    rw [BitVec.getLsbD, Nat.testBit_zero]; simp
  rw [h0]
  simp only [Bool.false_eq_true, if_false]
  apply BitVec.eq_of_toNat_eq
  rw [BitVec.toNat_ushiftRight, Nat.shiftRight_eq_div_pow]
  simp only [BitVec.toNat_ofNat]
  omega
theorem ofNat_parts (c : Nat) : BitVec.ofNat 32 c = bit1 (c.testBit 0) ^^^ BitVec.ofNat 32 (2 * (c / 2)) := by
  apply BitVec.eq_of_getLsbD_eq
  intro i hi
  rw [BitVec.getLsbD_xor, BitVec.getLsbD_ofNat, BitVec.getLsbD_ofNat]
  have hb : (bit1 (c.testBit 0)).getLsbD i = (decide (i = 0) && c.testBit 0) := by
    unfold bit1
    cases c.testBit 0 <;> simp
  rw [hb]
  cases i with
  | zero => simp
  | succ i => simp [hi, Nat.testBit_succ]
/-- n bits of a number, one by one. -/
def rgN (x : BitVec 32) (c : Nat) : Nat → BitVec 32
  | 0 => x
  | n + 1 => crc1 (rgN x c n ^^^ bit1 (c.testBit n))
theorem crcK_rgN (x : BitVec 32) (c : Nat) (h : c < 2 ^ 31) : ∀ n, crcK n (x ^^^ BitVec.ofNat 32 c) = rgN x c n ^^^ BitVec.ofNat 32 (c / 2 ^ n)
  | 0 => by simp [crcK, rgN]
  | n + 1 => by
    have hs : ∀ (n : Nat) (x : BitVec 32), crcK (n + 1) x = crc1 (crcK n x) := by
      intro n
      induction n with
      | zero => intro x; rfl
      | succ n ih => intro x; rw [crcK, ih, ← crcK]
    rw [hs, crcK_rgN x c h n, ofNat_parts (c / 2 ^ n), ← BitVec.xor_assoc, crc1_xor, crc1_double (by
      have : c / 2 ^ n ≤ c := Nat.div_le_self _ _
      omega)]
    have e : (c / 2 ^ n).testBit 0 = c.testBit n := by rw [Nat.testBit_div_two_pow]; simp
    rw [e, rgN, Nat.div_div_eq_div_mul, ← Nat.pow_succ]
theorem crcB_rgN (x : BitVec 32) (b : UInt8) : crcB x b = rgN x b.toNat 8 := by
  have := b.toNat_lt
  unfold crcB crc8 bv
  rw [crcK_rgN x b.toNat (by omega) 8, show b.toNat / 2 ^ 8 = 0 by omega]
  simp
theorem rg_byte (l : List UInt8) (m : Nat) : ∀ n, n ≤ 8 → rg (tbit l) (8 * m + n) = rgN (rg (tbit l) (8 * m)) (l.getD m 0).toNat n
  | 0, _ => rfl
  | n + 1, h => by
    rw [← Nat.add_assoc, rg, rg_byte l m n (by omega), rgN]
    have e : tbit l (8 * m + n) = (l.getD m 0).toNat.testBit n := by
      unfold tbit
      rw [show (8 * m + n) / 8 = m by omega, show (8 * m + n) % 8 = n by omega]
    rw [e]
theorem rg_crcF (l : List UInt8) : ∀ m, m ≤ l.length → rg (tbit l) (8 * m) = crcF crc0 (l.take m)
  | 0, _ => rfl
  | m + 1, h => by
    rw [show 8 * (m + 1) = 8 * m + 8 by omega, rg_byte l m 8 (Nat.le_refl _), rg_crcF l m (by omega), ← crcB_rgN]
    rw [List.take_succ_eq_append_getElem (by omega), crcF_append]
    simp [crcF, List.getD_eq_getElem?_getD, show m < l.length by omega]
theorem rg_all (l : List UInt8) : ~~~ (rg (tbit l) (8 * l.length)) = crcL l := by
  rw [rg_crcF l _ (Nat.le_refl _), List.take_length]; rfl
/-! The row of bits, behind k steps. -/
def b1 (b : Bool) : Nat := if b then 1 else 0
def polyL : List Nat := [1, 0, 0, 0, 0, 0, 1, 0, 0, 1, 1, 0, 0, 0, 0, 0, 1, 0, 0, 0, 1, 1, 1, 0, 1, 1, 0, 1, 1, 0, 1, 1, 1]
/-- Bit i of the row behind k steps. -/
def rowB (T : Nat → Bool) (k i : Nat) : Bool := if i < k then false else if i < k + 32 then ((rg T k).getLsbD (i - k) != T i) else T i
theorem poly_bit : ∀ j : Fin 32, b1 ((0xEDB88320#32).getLsbD j.val) = polyL.getD (j.val + 1) 0 := by decide
theorem rowB_test (T : Nat → Bool) (k : Nat) : rowB T k k = (rg T k ^^^ bit1 (T k)).getLsbD 0 := by
  unfold rowB
  rw [if_neg (by omega), if_pos (by omega), BitVec.getLsbD_xor, Nat.sub_self]
  have : (bit1 (T k)).getLsbD 0 = T k := by unfold bit1; cases T k <;> rfl
  rw [this]
theorem bit1_high (b : Bool) (j : Nat) : (bit1 b).getLsbD (j + 1) = false := by
  unfold bit1
  cases b
  · simp
  · rw [if_pos rfl, BitVec.getLsbD_one]; simp
/-- What a step makes of a bit. -/
theorem rowB_step (T : Nat → Bool) (k j : Nat) (hj : j ≤ 32) : b1 (rowB T (k + 1) (k + j)) = (b1 (rowB T k (k + j)) + b1 (rowB T k k) * polyL.getD j 0) % 2 := by
  cases j with
  | zero =>
    have e : rowB T (k + 1) (k + 0) = false := by unfold rowB; rw [if_pos (by omega)]
    rw [e, Nat.add_zero]
    cases rowB T k k <;> rfl
  | succ j =>
    have hp := poly_bit ⟨j, by omega⟩
    simp only at hp
    rw [← hp]
    have h1 : rowB T (k + 1) (k + (j + 1)) = ((rg T (k + 1)).getLsbD j != T (k + (j + 1))) := by
      unfold rowB; rw [if_neg (by omega), if_pos (by omega)]; congr 2; omega
    have h2 : rowB T k (k + (j + 1)) = ((rg T k).getLsbD (j + 1) != T (k + (j + 1))) := by
      unfold rowB
      rw [if_neg (by omega)]
      by_cases hj31 : j + 1 < 32
      · rw [if_pos (by omega)]; congr 2; omega
      · rw [if_neg (by omega), BitVec.getLsbD_of_ge _ _ (by omega)]; simp
    rw [h1, h2, rowB_test, rg]
    generalize hx : rg T k ^^^ bit1 (T k) = x
    have h3 : (rg T k).getLsbD (j + 1) = x.getLsbD (j + 1) := by rw [← hx, BitVec.getLsbD_xor, bit1_high]; simp
    rw [h3]
    unfold crc1
    cases x.getLsbD 0 with
    | false =>
      simp only [Bool.false_eq_true, if_false, BitVec.getLsbD_ushiftRight]
      rw [Nat.add_comm 1 j]
      cases x.getLsbD (j + 1) <;> cases T (k + (j + 1)) <;> simp [b1]
    | true =>
      simp only [if_true, BitVec.getLsbD_xor, BitVec.getLsbD_ushiftRight]
      rw [Nat.add_comm 1 j]
      cases x.getLsbD (j + 1) <;> cases T (k + (j + 1)) <;> cases (0xEDB88320#32).getLsbD j <;> simp [b1]
/-- A bit that a step doesn't reach. -/
theorem rowB_far (T : Nat → Bool) (k i : Nat) (h : i < k ∨ k + 32 < i) : rowB T (k + 1) i = rowB T k i := by
  unfold rowB
  rcases h with h | h
  · rw [if_pos (by omega), if_pos h]
  · rw [if_neg (by omega), if_neg (by omega), if_neg (by omega), if_neg (by omega)]
theorem rowB_stay (T : Nat → Bool) (k i : Nat) (h : rowB T k k = false) : rowB T (k + 1) i = rowB T k i := by
  by_cases hi : i < k ∨ k + 32 < i
  · exact rowB_far T k i hi
  · have e := rowB_step T k (i - k) (by omega)
    rw [show k + (i - k) = i by omega, h] at e
    cases ha : rowB T (k + 1) i <;> cases hb : rowB T k i <;> rw [ha, hb] at e <;> simp [b1] at e ⊢
/-- The sum, bit by bit. -/
def outN (x : BitVec 32) (j : Nat) : Nat := x.toNat % 2 ^ j
theorem outN_succ (x : BitVec 32) (j : Nat) : outN x (j + 1) = outN x j + b1 (x.getLsbD j) * 2 ^ j := by
  unfold outN b1
  rw [Nat.mod_pow_succ, Nat.mul_comm, BitVec.getLsbD, Nat.testBit_eq_decide_div_mod_eq]
  congr 2
  by_cases h : x.toNat / 2 ^ j % 2 = 1
  · rw [h]; simp
  · rw [show x.toNat / 2 ^ j % 2 = 0 by omega]; simp
theorem outN_full (x : BitVec 32) : outN x 32 = x.toNat := Nat.mod_eq_of_lt x.isLt
end Go.Proofs.YtnclibfhbngkjaaGreatDoor
