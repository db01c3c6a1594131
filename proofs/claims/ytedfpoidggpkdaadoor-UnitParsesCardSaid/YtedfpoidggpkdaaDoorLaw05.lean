/- The parts of the statements of layer 5: the document's Join, and 'same'. -/
import Derived.Test.YtedfpoidggpkdaaDoorRef05Split
import Derived.Test.YtedfpoidggpkdaaDoorPathWithin
namespace Go.Proofs.YtedfpoidggpkdaaDoor
open Go.RowKit
theorem glue_take_succ {L : List (List UInt8)} {k : Nat} (hk : k < L.length) : glue 47 (L.take (k + 1)) = glue 47 (L.take k) ++ 47 :: L.getD k [] := by
  rw [List.take_succ_eq_append_getElem hk, glue_append]
  simp [glue, hk]
theorem str_three (t p : List UInt8) : Value.string (bs t ++ { data := #[47] } ++ bs p) = Value.string (bs (t ++ 47 :: p)) := by
  have h : (bs t ++ { data := #[47] } ++ bs p) = bs t ++ bs [47] ++ bs p := rfl
  rw [h, bs_append, bs_append]; simp
theorem ref_join (a : Option Addr) (L : List (List UInt8)) (c : Nat) (w : World) (hS : Strs w a L) (hN : L.length ≤ 1099511627776) (hlen : (glue 47 L).length ≤ 1099511627776) :
    Calls Tryd.prog 23 #[.slice a L.length c] w fun e w' => e = .returned (.string (bs (joinP L))) ∧ w = w' := by
  have HS := Lib.hid hS; clear hS
  go_enter Tryd.func23, Tryd.ntmps23
  go_wp2_with fail
  go_loop [3, 4] (fun v i => ∃ k : Nat, k ≤ L.length ∧ i = .int .i64 k ∧ v = .string (bs (glue 47 (L.take k)))) (fun _ i => L.length - (intOf i).toNat)
  case atStart => exact ⟨0, Nat.zero_le _, rfl, rfl⟩
  case round =>
    obtain ⟨k, hk, rfl, rfl⟩ := hrel
    by_cases hlt : k < L.length
    · obtain ⟨g, off, ha, -, hc⟩ := HS.out.at (by intro e; rw [e] at hlt; simp at hlt)
      subst ha
      have hcell := hc k hlt
      clear hc
      obtain ⟨p, hp⟩ : ∃ p, p = L.getD k [] := ⟨_, rfl⟩
      rw [← hp] at hcell
      have hg : (glue 47 (L.take (k + 1))).length ≤ 1099511627776 := Nat.le_trans (glue_take_len _ _ _) hlen
      rw [glue_take_succ hlt, ← hp] at hg
      have HG := Lib.hid (glue_take_succ hlt); 
      rw [← hp] at HG
      have HP := Lib.hid hp; clear hp
      obtain ⟨t, ht⟩ : ∃ t, t = glue 47 (L.take k) := ⟨_, rfl⟩
      rw [← ht] at hg HG ⊢
      have HT := Lib.hid ht; clear ht
      have hz1 : (bs t).size ≤ 1099511627776 := by rw [bs_size]; simp at hg; omega
      have hz2 : (bs p).size ≤ 1099511627776 := by rw [bs_size]; simp at hg; omega
      clear hg
      go_wp2_with fail
      go_round
      case rel =>
        refine ⟨k + 1, by omega, by go_num, ?_⟩
        rw [HG.out, str_three]
      case measure => simp [intOf]; omega
    · have hkk : L.take k = L := List.take_of_length_le (by omega)
      rw [hkk]
      clear hkk
      obtain ⟨t, ht⟩ : ∃ t, t = glue 47 L := ⟨_, rfl⟩
      rw [← ht]
      have HT := Lib.hid ht; clear ht
      clear hlen
      by_cases hL : L = []
      · have he : (bs t).toList.isEmpty = true := by rw [bs_toList, HT.out, hL]; rfl
        have HL := Lib.hid hL; clear hL
        go_wp2_with fail
        go_ret
        exact ⟨ret_str (by rw [HL.out, joinP_nil]; exact eq_bs rfl), rfl⟩
      · have he : (bs t).toList.isEmpty = false := by
          rw [bs_toList, HT.out]
          cases L with
          | nil => exact absurd rfl hL
          | cons q r => rw [glue_cons]; rfl
        have HL := Lib.hid hL; clear hL
        go_wp2_with fail
        go_ret
        exact ⟨ret_str (by rw [HT.out, joinP, if_neg HL.out]), rfl⟩

theorem list_same {A B : List (List UInt8)} (h1 : A.length = B.length) (h : A.take A.length = B.take A.length) : A = B := by
  rw [List.take_length, h1, List.take_length] at h; exact h
/-- 'same': are two lists of texts the same? -/
theorem same_any (a b : Option Addr) (A B : List (List UInt8)) (ca cb : Nat) (w : World) (hA : Strs w a A) (hB : Strs w b B) (hN : A.length ≤ 1099511627776) :
    Calls Tryd.prog 17 #[.slice a A.length ca, .slice b B.length cb] w fun e w' => e = .returned (.bool (decide (A = B))) ∧ w = w' := by
  have HA := Lib.hid hA; clear hA
  have HB := Lib.hid hB; clear hB
  go_enter Tryd.func17, Tryd.ntmps17
  by_cases hl : A.length = B.length
  · have hb : ((A.length : Int) != (B.length : Int)) = false := by rw [hl]; simp
    have HLL := Lib.hid hl; clear hl
    go_wp2_with fail
    go_loop [14] (fun i => ∃ k : Nat, k ≤ A.length ∧ i = .int .i64 k ∧ Hid (A.take k = B.take k)) (fun i => A.length - (intOf i).toNat)
    case atStart => exact ⟨0, Nat.zero_le _, rfl, Lib.hid (by simp)⟩
    case round =>
      obtain ⟨k, hk, rfl, heq⟩ := hrel
      by_cases hlt : k < A.length
      · have hlt2 : k < B.length := by have := HLL.out; omega
        obtain ⟨g, off, ha, -, hc1⟩ := HA.out.at (by intro e; rw [e] at hlt; simp at hlt)
        obtain ⟨g2, off2, hb2, -, hc2⟩ := HB.out.at (by intro e; rw [e] at hlt2; simp at hlt2)
        subst ha hb2
        have hcell1 := hc1 k hlt
        have hcell2 := hc2 k hlt2
        clear hc1 hc2
        obtain ⟨p, hp⟩ : ∃ p, p = A.getD k [] := ⟨_, rfl⟩
        obtain ⟨q, hq⟩ : ∃ q, q = B.getD k [] := ⟨_, rfl⟩
        rw [← hp] at hcell1
        rw [← hq] at hcell2
        have HPP := Lib.hid hp; clear hp
        have HQQ := Lib.hid hq; clear hq
        by_cases hpq : p = q
        · subst hpq
          go_wp2_with fail
          go_round
          case rel => exact ⟨k + 1, by omega, by go_num, Lib.hid (take_step_eq hlt hlt2 heq.out (by rw [← HPP.out, ← HQQ.out]))⟩
          case measure => simp [intOf]; omega
        · have hb1 := bs_beq_ne hpq
          have hb2 := bs_bne_ne hpq
          have HPQ := Lib.hid hpq; clear hpq
          go_wp2_with fail
          go_ret
          exact ⟨ret_bool (by
            have : A ≠ B := fun e => HPQ.out (by rw [HPP.out, HQQ.out, e])
            simp [this]), rfl⟩
      · have hkk : k = A.length := by omega
        go_wp2_with fail
        go_ret
        subst hkk
        exact ⟨ret_bool (by simp [list_same HLL.out heq.out]), rfl⟩
  · have hb : ((A.length : Int) != (B.length : Int)) = true := by simp; omega
    have HLL := Lib.hid hl; clear hl
    go_wp2_with fail
    go_ret
    exact ⟨ret_bool (by
      have : A ≠ B := fun e => HLL.out (by rw [e])
      simp [this]), rfl⟩
end Go.Proofs.YtedfpoidggpkdaaDoor
