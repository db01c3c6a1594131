/- path.Within: what it gives. -/
import Derived.Test.YtnclibfhbngkjaaGreatDoorPathMore
namespace Go.Proofs.YtnclibfhbngkjaaGreatDoor
open Go.RowKit
/-- Does a path stand within another one? -/
def withinL (s d : List UInt8) : Bool := match pathL s, pathL d with
  | some L, some U => decide (U.length < L.length) && decide (L.take U.length = U)
  | _, _ => false
theorem take_step_eq {A B : List (List UInt8)} {k : Nat} (ha : k < A.length) (hb : k < B.length) (h : A.take k = B.take k) (he : A.getD k [] = B.getD k []) : A.take (k + 1) = B.take (k + 1) := by
  rw [List.take_succ_eq_append_getElem ha, List.take_succ_eq_append_getElem hb, h]
  simp [ha, hb] at he
  rw [he]
theorem take_ne {A B : List (List UInt8)} {k : Nat} (_ha : k < A.length) (hb : k < B.length) (he : A.getD k [] ≠ B.getD k []) : A.take B.length ≠ B := by
  intro h
  apply he
  have h1 : (A.take B.length).getD k [] = B.getD k [] := by rw [h]
  rw [← h1]
  simp [List.getD, hb]
set_option maxHeartbeats 400000 in
theorem path_within (s d : ByteArray) (w : World) (hE : Env w) :
    Calls Tryz.prog 39 #[.string s, .string d] w fun e w' => e = .returned (.bool (withinL s.data.toList d.data.toList)) ∧ Ext w w' := by
  go_enter Tryz.func39, Tryz.ntmps39
  go_wp2_with fail
  cases hp : pathL s.data.toList with
  | none =>
    have HP := Lib.hid hp; clear hp
    refine (split_none _ hE HP.out).mono ?_
    rintro e w1 ⟨rfl, hx⟩
    go_wp2_with fail
    refine (path_split _ _ (hE.ext hx)).mono ?_
    intro e w2 hr
    cases hq : pathL d.data.toList with
    | none =>
      rw [hq] at hr; obtain ⟨rfl, hx2⟩ := hr; clear hq
      go_wp2_with fail
      go_ret; exact ⟨ret_bool (by simp [withinL, HP.out]), hx.trans hx2⟩
    | some U =>
      rw [hq] at hr; obtain ⟨a, cap, rfl, -, -, hx2⟩ := hr; clear hq
      go_wp2_with fail
      go_ret; exact ⟨ret_bool (by simp [withinL, HP.out]), hx.trans hx2⟩
  | some L =>
    have HP := Lib.hid hp; clear hp
    refine (split_some _ hE HP.out).mono ?_
    rintro e w1 ⟨a, cap, rfl, hcap, hS, hx⟩
    have HS := Lib.hid hS; clear hS
    go_wp2_with fail
    cases hq : pathL d.data.toList with
    | none =>
      have HQ := Lib.hid hq; clear hq
      refine (split_none _ (hE.ext hx) HQ.out).mono ?_
      rintro e w2 ⟨rfl, hx2⟩
      go_wp2_with fail
      go_ret; exact ⟨ret_bool (by simp [withinL, HP.out, HQ.out]), hx.trans hx2⟩
    | some U =>
      have HQ := Lib.hid hq; clear hq
      refine (split_some _ (hE.ext hx) HQ.out).mono ?_
      rintro e w2 ⟨b, cap2, rfl, hcap2, hT, hx2⟩
      have HT := Lib.hid hT; clear hT
      have hu := (pathL_facts HQ.out).1
      have hl := (pathL_facts HP.out).1
      have hxx := hx.trans hx2
      by_cases hle : L.length ≤ U.length
      · go_wp2_with fail
        go_ret; exact ⟨ret_bool (by simp [withinL, HP.out, HQ.out]; omega), hxx⟩
      · have hlt : U.length < L.length := by omega
        go_wp2_with fail
        go_loopw [36] (fun i wr => ∃ k : Nat, k ≤ U.length ∧ i = .int .i64 k ∧ Hid (L.take k = U.take k) ∧ Ext w2 wr) (fun i _ => U.length - (intOf i).toNat)
        case atStart => exact ⟨0, Nat.zero_le _, rfl, Lib.hid (by simp), Ext.refl _⟩
        case round =>
          obtain ⟨k, hk, rfl, heq, hext⟩ := hrel
          by_cases hkl : k < U.length
          · obtain ⟨g, off, ha, -, hc1⟩ := HS.out.at (by intro e; rw [e] at hlt; simp at hlt)
            obtain ⟨g2, off2, hb, -, hc2⟩ := HT.out.at (by intro e; rw [e] at hkl; simp at hkl)
            subst ha hb
            have hcell1 := hext.cell (hx2.cell (hc1 k (by omega)))
            have hcell2 := hext.cell (hc2 k hkl)
            clear hc1 hc2
            obtain ⟨p, hp⟩ : ∃ p, p = L.getD k [] := ⟨_, rfl⟩
            obtain ⟨q, hq⟩ : ∃ q, q = U.getD k [] := ⟨_, rfl⟩
            rw [← hp] at hcell1
            rw [← hq] at hcell2
            have HPP := Lib.hid hp; clear hp
            have HQQ := Lib.hid hq; clear hq
            have hkl2 : k < L.length := by omega
            by_cases hpq : p = q
            · subst hpq
              go_wp2_with fail
              go_roundw
              case rel => exact ⟨k + 1, by omega, by go_num, Lib.hid (take_step_eq (by omega) hkl heq.out (by rw [← HPP.out, ← HQQ.out])), hext⟩
              case measure => simp [intOf]; omega
            · have hb1 := bs_beq_ne hpq
              have hb2 := bs_bne_ne hpq
              have HPQ := Lib.hid hpq; clear hpq
              go_wp2_with fail
              go_ret
              exact ⟨ret_bool (by
                have := take_ne (A := L) (B := U) (by omega) hkl (by rw [← HPP.out, ← HQQ.out]; exact HPQ.out)
                simp [withinL, HP.out, HQ.out, this]), hxx.trans hext⟩
          · have hkk : k = U.length := by omega
            go_wp2_with fail
            go_ret
            subst hkk
            have h2 := heq.out
            rw [List.take_length] at h2
            exact ⟨ret_bool (by simp [withinL, HP.out, HQ.out, h2, hlt]), hxx.trans hext⟩
end Go.Proofs.YtnclibfhbngkjaaGreatDoor
