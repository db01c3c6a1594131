/- The sum of bytes, in plain Lean: a register of 32 bits; four bytes in a row that are turned never leave it as it was. No program in sight. -/
import Derived.Test.YtlpjmkkinlcbnaaGreatDoorM1
import Derived.KernelRfl
namespace Go.Proofs.YtlpjmkkinlcbnaaGreatDoor
/-- One step of the register. -/
def crc1 (x : BitVec 32) : BitVec 32 := if x.getLsbD 0 then (x >>> 1) ^^^ 0xEDB88320#32 else x >>> 1
def crcK : Nat → BitVec 32 → BitVec 32
  | 0, x => x
  | n + 1, x => crcK n (crc1 x)
def crc8 (x : BitVec 32) : BitVec 32 := crcK 8 x
def bv (b : UInt8) : BitVec 32 := BitVec.ofNat 32 b.toNat
def crcB (c : BitVec 32) (b : UInt8) : BitVec 32 := crc8 (c ^^^ bv b)
def crcF (c : BitVec 32) (l : List UInt8) : BitVec 32 := l.foldl crcB c
def crc0 : BitVec 32 := 0xFFFFFFFF#32
def crcL (l : List UInt8) : BitVec 32 := ~~~ (crcF crc0 l)
theorem xor_xor (a b c d : BitVec 32) : (a ^^^ b) ^^^ (c ^^^ d) = (a ^^^ c) ^^^ (b ^^^ d) := by
  rw [BitVec.xor_assoc, BitVec.xor_assoc, ← BitVec.xor_assoc b c d, BitVec.xor_comm b c, BitVec.xor_assoc c b d]
theorem crc1_xor (x y : BitVec 32) : crc1 (x ^^^ y) = crc1 x ^^^ crc1 y := by
  unfold crc1
  rw [BitVec.getLsbD_xor, BitVec.ushiftRight_xor_distrib]
  cases x.getLsbD 0 <;> cases y.getLsbD 0
  · simp
  · simp [BitVec.xor_assoc]
  · simp only [Bool.true_xor, Bool.not_false, if_true, Bool.false_eq_true, if_false]
    rw [BitVec.xor_assoc, BitVec.xor_comm (y >>> 1), ← BitVec.xor_assoc]
  · simp only [Bool.true_xor, Bool.not_true, if_true, Bool.false_eq_true, if_false]
    rw [xor_xor, BitVec.xor_self, BitVec.xor_zero]
theorem crc1_zero : crc1 0 = 0 := by decide
theorem crc1_inj {x : BitVec 32} (h : crc1 x = 0) : x = 0 := by
  unfold crc1 at h
  split at h
  · have h2 : (x >>> 1) = 0xEDB88320#32 := by
      have := congrArg (· ^^^ 0xEDB88320#32) h
      simpa [BitVec.xor_assoc] using this
    have h3 := congrArg (fun v : BitVec 32 => v.getLsbD 31) h2
    simp at h3
  · rename_i h0
    have h0 : x.getLsbD 0 = false := by simpa using h0
    apply BitVec.eq_of_getLsbD_eq
    intro i hi
    match i with
    | 0 => rw [h0]; simp
    | j + 1 =>
      have h3 := congrArg (fun v : BitVec 32 => v.getLsbD j) h
      simp only [BitVec.getLsbD_ushiftRight] at h3
      rw [Nat.add_comm, h3]; simp
theorem crcK_xor : ∀ (n : Nat) (x y : BitVec 32), crcK n (x ^^^ y) = crcK n x ^^^ crcK n y
  | 0, _, _ => rfl
  | n + 1, x, y => by rw [crcK, crcK, crcK, crc1_xor, crcK_xor n]
theorem crcK_zero : ∀ (n : Nat), crcK n 0 = 0
  | 0 => rfl
  | n + 1 => by rw [crcK, crc1_zero, crcK_zero n]
theorem crcK_inj : ∀ (n : Nat) {x : BitVec 32}, crcK n x = 0 → x = 0
  | 0, _, h => h
  | n + 1, _, h => crc1_inj (crcK_inj n h)
theorem crc8_xor (x y : BitVec 32) : crc8 (x ^^^ y) = crc8 x ^^^ crc8 y := crcK_xor 8 x y
theorem crc8_zero : crc8 0 = 0 := crcK_zero 8
theorem crc8_inj {x : BitVec 32} (h : crc8 x = 0) : x = 0 := crcK_inj 8 h
/-- Bytes that stand higher come down as they are. -/
theorem crc8_up1 : ∀ b : Fin 256, crc8 (BitVec.ofNat 32 (256 * b.val)) = BitVec.ofNat 32 b.val := by decide +kernel
theorem crc8_up2 : ∀ b : Fin 256, crc8 (BitVec.ofNat 32 (65536 * b.val)) = BitVec.ofNat 32 (256 * b.val) := by decide +kernel
theorem crc8_up3 : ∀ b : Fin 256, crc8 (BitVec.ofNat 32 (16777216 * b.val)) = BitVec.ofNat 32 (65536 * b.val) := by decide +kernel
/-- Four bytes as a number of 32 bits. -/
def bv4 (a b c d : UInt8) : BitVec 32 := bv a ^^^ (BitVec.ofNat 32 (256 * b.toNat) ^^^ (BitVec.ofNat 32 (65536 * c.toNat) ^^^ BitVec.ofNat 32 (16777216 * d.toNat)))
theorem up1 (b : UInt8) : crc8 (BitVec.ofNat 32 (256 * b.toNat)) = bv b := crc8_up1 ⟨b.toNat, b.toNat_lt⟩
theorem up2 (b : UInt8) : crc8 (BitVec.ofNat 32 (65536 * b.toNat)) = BitVec.ofNat 32 (256 * b.toNat) := crc8_up2 ⟨b.toNat, b.toNat_lt⟩
theorem up3 (b : UInt8) : crc8 (BitVec.ofNat 32 (16777216 * b.toNat)) = BitVec.ofNat 32 (65536 * b.toNat) := crc8_up3 ⟨b.toNat, b.toNat_lt⟩
theorem crcF_four (s : BitVec 32) (a b c d : UInt8) : crcF s [a, b, c, d] = crc8 (crc8 (crc8 (crc8 (s ^^^ bv4 a b c d)))) := by
  simp only [crcF, List.foldl, crcB, bv4]
  simp only [crc8_xor, up1, up2, up3]
  simp only [BitVec.xor_assoc]
theorem crcF_append (s : BitVec 32) (a b : List UInt8) : crcF s (a ++ b) = crcF (crcF s a) b := by simp [crcF]
theorem crc8_4_inj {x : BitVec 32} (h : crc8 (crc8 (crc8 (crc8 x))) = 0) : x = 0 := crc8_inj (crc8_inj (crc8_inj (crc8_inj h)))
/-- Bytes, turned by others. -/
def xorL : List UInt8 → List UInt8 → List UInt8
  | a :: l, b :: m => (a ^^^ b) :: xorL l m
  | _, _ => []
theorem bv_xor (a b : UInt8) : bv (a ^^^ b) = bv a ^^^ bv b := by
  apply BitVec.eq_of_toNat_eq
  have h1 := a.toNat_lt
  have h2 := b.toNat_lt
  have h3 := (a ^^^ b).toNat_lt
  rw [BitVec.toNat_xor]
  simp only [bv, BitVec.toNat_ofNat]
  rw [Nat.mod_eq_of_lt (by omega), Nat.mod_eq_of_lt (by omega), Nat.mod_eq_of_lt (by omega), UInt8.toNat_xor]
theorem crcF_xor : ∀ (l m : List UInt8) (s t : BitVec 32), l.length = m.length → crcF (s ^^^ t) (xorL l m) = crcF s l ^^^ crcF t m
  | [], [], s, t, _ => rfl
  | a :: l, b :: m, s, t, h => by
    have ih := crcF_xor l m (crcB s a) (crcB t b) (by simpa using h)
    simp only [crcF, xorL, List.foldl] at ih ⊢
    rw [← ih]
    congr 1
    unfold crcB
    rw [← crc8_xor, bv_xor, xor_xor]
theorem bv_zero : bv 0 = 0 := by decide
theorem crcF_zeros : ∀ (n : Nat) (s : BitVec 32), crcF s (List.replicate n 0) = crcK (8 * n) s
  | 0, s => rfl
  | n + 1, s => by
    have ih := crcF_zeros n (crcB s 0)
    rw [List.replicate_succ]
    simp only [crcF, List.foldl] at ih ⊢
    rw [ih]
    have e : crcB s 0 = crcK 8 s := by unfold crcB crc8; rw [bv_zero]; congr 1; exact BitVec.xor_zero
    rw [e]
    have : ∀ (k : Nat) (x : BitVec 32), crcK (8 * n) (crcK k x) = crcK (8 * n + k) x := by
      intro k
      induction k with
      | zero => intro x; rfl
      | succ k ih => intro x; rw [crcK, ih, ← Nat.add_assoc, crcK]
    rw [this 8 s, Nat.mul_succ]
/-- The four bytes of a sum. -/
def le4 (c : BitVec 32) : List UInt8 := [UInt8.ofNat c.toNat, UInt8.ofNat (c.toNat / 256), UInt8.ofNat (c.toNat / 65536), UInt8.ofNat (c.toNat / 16777216)]
/-- Bytes that bear their sum behind them. -/
def summed (l : List UInt8) : Prop := ∃ m, l = m ++ le4 (crcL m)
def crcKey : BitVec 32 := crc8 (crc8 (crc8 (crc8 crc0)))
theorem xor_add (i a b : Nat) (h : b < 2 ^ i) : b ^^^ (2 ^ i * a) = 2 ^ i * a + b := by
  apply Nat.eq_of_testBit_eq
  intro j
  rw [Nat.testBit_xor, Nat.testBit_two_pow_mul_add a h, Nat.testBit_two_pow_mul]
  by_cases hj : j < i
  · rw [if_pos hj, decide_eq_false (by omega)]; simp
  · rw [if_neg hj, decide_eq_true (by omega), Nat.testBit_lt_two_pow (Nat.lt_of_lt_of_le h (Nat.pow_le_pow_right (by decide) (by omega)))]; simp
theorem bv4_toNat (a b c d : UInt8) : (bv4 a b c d).toNat = a.toNat + 256 * b.toNat + 65536 * c.toNat + 16777216 * d.toNat := by
  have ha := a.toNat_lt
  have hb := b.toNat_lt
  have hc := c.toNat_lt
  have hd := d.toNat_lt
  unfold bv4 bv
  simp only [BitVec.toNat_xor, BitVec.toNat_ofNat]
  rw [Nat.mod_eq_of_lt (by omega), Nat.mod_eq_of_lt (by omega), Nat.mod_eq_of_lt (by omega), Nat.mod_eq_of_lt (by omega)]
  have e1 := xor_add 8 b.toNat a.toNat (by omega)
  have e2 := xor_add 16 c.toNat (2 ^ 8 * b.toNat + a.toNat) (by omega)
  have e3 := xor_add 24 d.toNat (2 ^ 16 * c.toNat + (2 ^ 8 * b.toNat + a.toNat)) (by omega)
  rw [← Nat.xor_assoc, ← Nat.xor_assoc, show 256 = 2 ^ 8 from rfl, show 65536 = 2 ^ 16 from rfl, show 16777216 = 2 ^ 24 from rfl, e1, e2, e3]
  omega
theorem crc8_4_xor (x y : BitVec 32) : crc8 (crc8 (crc8 (crc8 (x ^^^ y)))) = crc8 (crc8 (crc8 (crc8 x))) ^^^ crc8 (crc8 (crc8 (crc8 y))) := by rw [crc8_xor, crc8_xor, crc8_xor, crc8_xor]
theorem crc8_4_eq {x y : BitVec 32} (h : crc8 (crc8 (crc8 (crc8 x))) = crc8 (crc8 (crc8 (crc8 y)))) : x = y := by
  have : crc8 (crc8 (crc8 (crc8 (x ^^^ y)))) = 0 := by rw [crc8_4_xor, h, BitVec.xor_self]; rfl
  exact BitVec.xor_eq_zero_iff.1 (crc8_4_inj this)
/-- What bears its sum leaves the key. -/
theorem sum_key (m : List UInt8) (a b c d : UInt8) : crcF crc0 (m ++ [a, b, c, d]) = crcKey ↔ a.toNat + 256 * b.toNat + 65536 * c.toNat + 16777216 * d.toNat = (crcL m).toNat := by
  rw [crcF_append, crcF_four, ← bv4_toNat]
  unfold crcKey crcL
  generalize crcF crc0 m = F
  have hall : crc0 = BitVec.allOnes 32 := by decide
  constructor
  · intro h
    have h := crc8_4_eq h
    rw [hall] at h
    have : bv4 a b c d = ~~~ F := by
      have h2 := congrArg (F ^^^ ·) h
      simp only [← BitVec.xor_assoc, BitVec.xor_self, BitVec.zero_xor] at h2
      rw [h2, BitVec.xor_allOnes]
    rw [this]
  · intro h
    have h : bv4 a b c d = ~~~ F := BitVec.eq_of_toNat_eq h
    rw [h, hall, ← BitVec.xor_allOnes, ← BitVec.xor_assoc, BitVec.xor_self, BitVec.zero_xor]
/-- Four bytes in a row that are turned leave the key just if none was. -/
theorem spoil_key {l : List UInt8} {at_ n : Nat} (a b c d : UInt8) (hl : l.length = at_ + 4 + n) (h : crcF crc0 l = crcKey) :
    crcF crc0 (xorL l (List.replicate at_ 0 ++ ([a, b, c, d] ++ List.replicate n 0))) = crcKey ↔ a = 0 ∧ b = 0 ∧ c = 0 ∧ d = 0 := by
  have e := crcF_xor l (List.replicate at_ 0 ++ ([a, b, c, d] ++ List.replicate n 0)) crc0 0 (by simp [hl]; omega)
  have e0 : crc0 ^^^ (0 : BitVec 32) = crc0 := BitVec.xor_zero
  rw [e0, h, crcF_append, crcF_append, crcF_zeros n, crcF_zeros at_, crcK_zero, crcF_four] at e
  rw [e]
  have hz : (0 : BitVec 32) ^^^ bv4 a b c d = bv4 a b c d := BitVec.zero_xor
  rw [hz]
  constructor
  · intro hk
    have h1 : crcK (8 * n) (crc8 (crc8 (crc8 (crc8 (bv4 a b c d))))) = 0 := by
      have h2 := congrArg (crcKey ^^^ ·) hk
      simp only [← BitVec.xor_assoc, BitVec.xor_self, BitVec.zero_xor] at h2
      exact h2
    have h3 := crc8_4_inj (crcK_inj _ h1)
    have h4 := congrArg BitVec.toNat h3
    rw [bv4_toNat] at h4
    have h4 : a.toNat + 256 * b.toNat + 65536 * c.toNat + 16777216 * d.toNat = 0 := h4
    exact ⟨UInt8.toNat_inj.1 (show a.toNat = (0 : UInt8).toNat by show a.toNat = 0; omega), UInt8.toNat_inj.1 (show b.toNat = (0 : UInt8).toNat by show b.toNat = 0; omega), UInt8.toNat_inj.1 (show c.toNat = (0 : UInt8).toNat by show c.toNat = 0; omega), UInt8.toNat_inj.1 (show d.toNat = (0 : UInt8).toNat by show d.toNat = 0; omega)⟩
  · rintro ⟨rfl, rfl, rfl, rfl⟩
    have h0 : bv4 0 0 0 0 = 0 := by decide
    rw [h0, crc8_zero, crc8_zero, crc8_zero, crc8_zero, crcK_zero]
    exact BitVec.xor_zero
end Go.Proofs.YtlpjmkkinlcbnaaGreatDoor
