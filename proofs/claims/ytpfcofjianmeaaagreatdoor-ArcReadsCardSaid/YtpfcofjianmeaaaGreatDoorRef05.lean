/- The document's answer for paths: farrierref05's Name, Split and Join give what the program's do. -/
import Derived.Test.YtpfcofjianmeaaaGreatDoorPathMore
import Derived.Test.YtpfcofjianmeaaaGreatDoorM1
namespace Go.Proofs.YtpfcofjianmeaaaGreatDoor
open Go.RowKit
theorem byte_sign (s : ByteArray) (k : Nat) (h : k < s.size) (hs : signB ((s[k]'h).toNat : Int) = false) : nameL s.data.toList = false := by
  have : signs s.data.toList = false := by
    rw [split_at s k h, signs_append, signs_cons, hs]; simp
  simp [nameL, this]
theorem okTo_byte (s : ByteArray) (k : Nat) (h : k < s.size) (ho : okTo s k) (hs : signB ((s[k]'h).toNat : Int) = true) : okTo s (k + 1) := by
  refine ⟨by omega, ?_⟩
  rw [take_snoc s k h, signs_append, ho.2, signs_cons, hs]; simp [signs]
theorem nameL_short (s : ByteArray) (h : s.size < 1) : nameL s.data.toList = false := by
  have : ¬ 1 ≤ s.size := by omega
  simp [nameL, this]
theorem ref_name (s : ByteArray) (w : World) :
    Calls Tryz.prog 30 #[.string s] w fun e w' => e = .returned (.bool (nameL s.data.toList)) ∧ w = w' := by
  go_enter Tryz.func30, Tryz.ntmps30
  go_wp2_with fail
  · go_ret; exact ⟨ret_bool (nameL_short s (by omega)).symm, rfl⟩
  · go_ret; exact ⟨ret_bool (nameL_long s (by omega)).symm, rfl⟩
  · go_ret; exact ⟨ret_bool (nameL_dot s ‹_›).symm, rfl⟩
  · go_ret; exact ⟨ret_bool (nameL_dots s ‹_›).symm, rfl⟩
  · have H3 := Lib.hid ‹¬s.toList = [46]›
    have H4 := Lib.hid ‹(s.toList == [46, 46]) = false›
    have h1 : 1 ≤ s.size := by omega
    have h2 : s.size ≤ 12 := by omega
    go_loop [3] (fun i => ∃ k : Nat, k ≤ s.size ∧ i = .int .i64 k ∧ Hid (okTo s k)) (fun i => s.size - (intOf i).toNat)
    case atStart => exact ⟨0, Nat.zero_le _, rfl, Lib.hid (okTo_zero s)⟩
    case round =>
      obtain ⟨k, hk, rfl, ho⟩ := hrel
      by_cases hlt : k < s.size
      · have h95 : (((s[k]'hlt).toNat : Int) == 95) = true ∧ ((s[k]'hlt).toNat : Int) ≤ 95 ∧ 95 ≤ ((s[k]'hlt).toNat : Int) ∨ (((s[k]'hlt).toNat : Int) == 95) = false ∧ (((s[k]'hlt).toNat : Int) < 95 ∨ 95 < ((s[k]'hlt).toNat : Int)) := by
          by_cases h : ((s[k]'hlt).toNat : Int) = 95
          · exact Or.inl ⟨by simpa using h, by omega, by omega⟩
          · exact Or.inr ⟨by simpa using h, by omega⟩
        rcases h95 with ⟨hb, hc1, hc2⟩ | ⟨hb, hc⟩
        all_goals go_wp2
        all_goals first
          | (go_ret; exact ⟨ret_bool (byte_sign s k hlt (signB_f (by omega))).symm, rfl⟩)
          | (go_round
             case rel => exact ⟨k + 1, by omega, by go_num, Lib.hid (okTo_byte s k hlt ho.out (signB_t (by omega)))⟩
             case measure => simp [intOf]; omega)
      · go_wp2
        go_ret
        exact ⟨ret_bool (nameL_good s k hlt ho.out h1 h2 H3.out (by simpa using H4.out)).symm, rfl⟩

end Go.Proofs.YtpfcofjianmeaaaGreatDoor
