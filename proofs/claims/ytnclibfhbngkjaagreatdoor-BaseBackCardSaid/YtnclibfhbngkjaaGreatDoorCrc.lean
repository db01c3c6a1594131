/- crc.Of: the sum of a row of bytes. -/
import Derived.Test.YtnclibfhbngkjaaGreatDoorM1
import Derived.Test.YtnclibfhbngkjaaGreatDoorM2
import Derived.Outline
import Derived.IntWalk
import Derived.Deep.Cut
namespace Go.Proofs.YtnclibfhbngkjaaGreatDoor
open Go.RowKit
theorem crcK_succ : ∀ (n : Nat) (x : BitVec 32), crcK (n + 1) x = crc1 (crcK n x)
  | 0, _ => rfl
  | n + 1, x => by rw [crcK, crcK_succ n, ← crcK]
theorem crcF_take {l : List UInt8} {k : Nat} (s : BitVec 32) (h : k < l.length) : crcF s (l.take (k + 1)) = crc8 (crcF s (l.take k) ^^^ bv (l.getD k 0)) := by
  rw [List.take_succ_eq_append_getElem h, crcF_append]
  simp [crcF, crcB, List.getD_eq_getElem?_getD, h]
theorem of_toNat (y : BitVec 32) : BitVec.ofInt 32 (y.toNat : Int) = y := by rw [BitVec.ofInt_natCast, BitVec.ofNat_toNat, BitVec.setWidth_eq]
theorem u32_same (y : BitVec 32) : IntKind.u32.wrap (y.toNat : Int) = (y.toNat : Int) := IntWalk.u32_in _ ⟨by omega, by have := y.isLt; omega⟩
theorem bits_xor (y : BitVec 32) (b : UInt8) : bits BinOp.xor IntKind.u32 (y.toNat : Int) (b.toNat : Int) = ((y ^^^ bv b).toNat : Int) := by
  have e : BitVec.ofInt 32 (b.toNat : Int) = bv b := by rw [BitVec.ofInt_natCast]; rfl
  show IntKind.u32.wrap ((BitVec.ofInt 32 (y.toNat : Int) ^^^ BitVec.ofInt 32 (b.toNat : Int)).toNat : Int) = _
  rw [of_toNat, e]; exact u32_same _
theorem low_bit (z : BitVec 32) : z.getLsbD 0 = decide (z.toNat % 2 = 1) := by
  rw [BitVec.getLsbD, Nat.testBit_zero]
theorem bits_and1 (z : BitVec 32) : bits BinOp.and IntKind.u32 (z.toNat : Int) 1 = if z.getLsbD 0 then 1 else 0 := by
  show IntKind.u32.wrap ((BitVec.ofInt 32 (z.toNat : Int) &&& BitVec.ofInt 32 1).toNat : Int) = _
  rw [of_toNat, low_bit]
  have e : (z &&& BitVec.ofInt 32 1).toNat = z.toNat % 2 := by
    rw [BitVec.toNat_and]
    have : (BitVec.ofInt 32 1).toNat = 1 := by decide
    rw [this, Nat.and_one_is_mod]
  rw [u32_same, e]
  by_cases h : z.toNat % 2 = 1
  · rw [h]; rfl
  · have : z.toNat % 2 = 0 := by omega
    rw [this]; rfl
theorem shr1 (z : BitVec 32) : (z.toNat : Int) / (2 : Int) = ((z >>> 1).toNat : Int) := by
  rw [BitVec.toNat_ushiftRight, Nat.shiftRight_eq_div_pow]; omega
theorem bits_not (x : BitVec 32) : bits BinOp.xor IntKind.u32 IntKind.u32.max (x.toNat : Int) = ((~~~ x).toNat : Int) := by
  show IntKind.u32.wrap ((BitVec.ofInt 32 IntKind.u32.max ^^^ BitVec.ofInt 32 (x.toNat : Int)).toNat : Int) = _
  have e : BitVec.ofInt 32 IntKind.u32.max = BitVec.allOnes 32 := by decide
  rw [of_toNat, e, u32_same, BitVec.allOnes_xor]
theorem bits_step (z : BitVec 32) (h : z.getLsbD 0 = true) : bits BinOp.xor IntKind.u32 ((z.toNat : Int) / 2) 3988292384 = ((crc1 z).toNat : Int) := by
  rw [shr1]
  show IntKind.u32.wrap ((BitVec.ofInt 32 ((z >>> 1).toNat : Int) ^^^ BitVec.ofInt 32 3988292384).toNat : Int) = _
  have e : BitVec.ofInt 32 3988292384 = 0xEDB88320#32 := by decide
  rw [of_toNat, e, u32_same]
  unfold crc1
  rw [if_pos h]
theorem bits_no (z : BitVec 32) (h : z.getLsbD 0 = false) : (z.toNat : Int) / 2 = ((crc1 z).toNat : Int) := by
  rw [shr1]
  unfold crc1
  rw [if_neg (by rw [h]; decide)]
set_option maxHeartbeats 1600000 in
theorem crc_of (R off c : Nat) (a : Option Addr) (l : List UInt8) (w : World) (hR : w.cell? ⟨R, off, none⟩ = some (.slice a l.length c)) (hb : Bytes w a l) (hl : l.length ≤ 1099511627776) :
    Calls Tryz.prog 42 #[.slice (some ⟨R, off, none⟩) 1 1] w fun e w' => e = .returned (.int .u32 ((crcL l).toNat : Int)) ∧ w = w' := by
  have HB := Lib.hid hb; clear hb
  obtain ⟨Q, hQ⟩ : ∃ Q : Ending → World → Prop, Q = fun e w' => e = .returned (.int .u32 ((crcL l).toNat : Int)) ∧ w = w' := ⟨_, rfl⟩
  rw [← hQ]
  have HQ := Lib.hid hQ; clear hQ
  go_enter Tryz.func42, Tryz.ntmps42
  go_wp2_with fail
  go_loop [3, 10] (fun v i => ∃ (k : Nat) (x : BitVec 32), i = .int .i64 k ∧ v = .int .u32 (x.toNat : Int) ∧ Hid (k = 0 ∧ x = crc0 ∨ k = 1 ∧ x = crcF crc0 l) ∧ k ≤ 1) (fun _ i => 1 - (intOf i).toNat)
  case atStart => exact ⟨0, crc0, rfl, rfl, Lib.hid (Or.inl ⟨rfl, rfl⟩), by omega⟩
  case round =>
    obtain ⟨k, x, rfl, rfl, hx, hk⟩ := hrel
    by_cases hk0 : k < 1
    · have hx0 : x = crc0 := by rcases hx.out with h | h; exact h.2; omega
      have HX := Lib.hid hx0; clear hx0 hx
      obtain rfl : k = 0 := by omega
      go_wp2_with fail
      go_loop [3, 16] (fun v i => ∃ (m : Nat) (y : BitVec 32), i = .int .i64 m ∧ v = .int .u32 (y.toNat : Int) ∧ m ≤ l.length ∧ Hid (y = crcF crc0 (l.take m))) (fun _ i => l.length - (intOf i).toNat)
      case atStart => exact ⟨0, x, rfl, rfl, by omega, Lib.hid (by rw [HX.out]; rfl)⟩
      case round =>
        obtain ⟨m, y, rfl, rfl, hm, hy⟩ := hrel
        by_cases hlt : m < l.length
        · obtain ⟨g, o, rfl, _, hc⟩ := HB.out.at (by intro e; rw [e] at hlt; simp at hlt)
          have hcell := hc m hlt
          clear hc
          obtain ⟨b, hb⟩ : ∃ b, b = l.getD m 0 := ⟨_, rfl⟩
          have hbb : byteAt l m = b.toNat := by rw [hb]; rfl
          rw [hbb] at hcell
          have HBE := Lib.hid hb; clear hb hbb
          have hb8 := b.toNat_lt
          have ex : bits BinOp.xor IntKind.u32 (y.toNat : Int) (b.toNat : Int) = ((y ^^^ bv b).toNat : Int) := bits_xor y b
          go_wp2_with fail
          clear ex
          go_loop [3, 24] (fun v i => ∃ (n : Nat) (z : BitVec 32), i = .int .i64 n ∧ v = .int .u32 (z.toNat : Int) ∧ n ≤ 8 ∧ Hid (z = crcK n (y ^^^ bv b))) (fun _ i => 8 - (intOf i).toNat)
          case atStart => exact ⟨0, y ^^^ bv b, rfl, rfl, by omega, Lib.hid rfl⟩
          case round =>
            obtain ⟨n, z, rfl, rfl, hn, hz⟩ := hrel
            by_cases hn8 : n < 8
            · have hand := bits_and1 z
              cases hlow : z.getLsbD 0 with
              | true =>
                have hst := bits_step z hlow
                rw [hlow, if_pos rfl] at hand
                clear hlow
                go_wp2_with fail
                go_round
                case rel => exact ⟨n + 1, crc1 z, by go_num, rfl, by omega, Lib.hid (by rw [hz.out, crcK_succ])⟩
                case measure => simp [intOf]; omega
              | false =>
                have HNO := Lib.hid (bits_no z hlow)
                rw [hlow, if_neg (by decide)] at hand
                clear hlow
                go_wp2_with fail
                go_round
                case rel => exact ⟨n + 1, crc1 z, by go_num, by rw [HNO.out], by omega, Lib.hid (by rw [hz.out, crcK_succ])⟩
                case measure => simp [intOf]; omega
            · obtain rfl : n = 8 := by omega
              go_wp2_with fail
              go_round
              case rel => exact ⟨m + 1, z, by go_num, rfl, by omega, Lib.hid (by rw [crcF_take _ hlt, ← HBE.out, ← hy.out]; exact hz.out)⟩
              case measure => simp [intOf]; omega
        · have hml : m = l.length := by omega
          have hyy := hy.out
          rw [hml, List.take_length] at hyy
          have HY := Lib.hid hyy; clear hyy hml
          go_wp2_with fail
          go_round
          case rel => exact ⟨1, y, rfl, rfl, Lib.hid (Or.inr ⟨rfl, HY.out⟩), by omega⟩
          case measure => simp [intOf]
    · have hk1 : x = crcF crc0 l := by rcases hx.out with h | h; omega; exact h.2
      have HX := Lib.hid hk1; clear hk1 hx
      go_wp2_with fail
      rw [HQ.out, bits_not, HX.out]
      exact ⟨rfl, rfl⟩
end Go.Proofs.YtnclibfhbngkjaaGreatDoor
