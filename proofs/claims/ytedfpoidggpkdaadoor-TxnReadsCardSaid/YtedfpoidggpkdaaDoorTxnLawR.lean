/- The document's own test, may an upgrade be: farrierlaw18.right. -/
import Derived.Test.YtedfpoidggpkdaaDoorTxnRight
import Derived.Test.YtedfpoidggpkdaaDoorRef05Split
namespace Go.Proofs.YtedfpoidggpkdaaDoor
open Go.RowKit
set_option maxRecDepth 100000 in
set_option maxHeartbeats 3200000 in
theorem law_right (t : TxnD) (am ac ag : Option Addr) (cm cc cg : Nat) (w : World) (hM : Moves w am t.moves) (hC : Strs w ac t.come) (hG : Strs w ag t.gone) (hml : t.moves.length ≤ 8388608) (hcl : t.come.length ≤ 8388608) (hgl : t.gone.length ≤ 8388608) :
    Calls Tryd.prog 28 #[txnV t am ac ag cm cc cg] w fun e w' => e = .returned (.bool (rightT t)) ∧ Ext w w' := by
  have HR := fun h => Lib.hid (rightT_head (t := t) h)
  have HMV := fun k hk h => Lib.hid (rightT_move (t := t) (k := k) hk h)
  obtain ⟨r, hr⟩ : ∃ r, r = rightT t := ⟨_, rfl⟩
  rw [← hr] at HR HMV ⊢
  have HRR := Lib.hid hr; clear hr
  obtain ⟨ph, dn, ms, cs, gs⟩ := t
  unfold txnV
  simp only at HR HMV hml hcl hgl hM hC hG
  have HRH := Lib.hid HR; clear HR
  have HMVH := Lib.hid HMV; clear HMV
  have HM := Lib.hid hM; clear hM
  have HC := Lib.hid hC; clear hC
  have HG := Lib.hid hG; clear hG
  go_enter Tryd.func28, Tryd.ntmps28
  go_wp2_with fail
  all_goals first | (go_ret; exact ⟨ret_bool (HRH.out (by omega)).out.symm, Ext.alloc _ _⟩) | skip
  have hhead : headR ⟨ph, dn, ms, cs, gs⟩ = true := decide_eq_true (by simp only; omega)
  have HH := Lib.hid hhead; clear hhead
  go_loopw [51] (fun i wr => ∃ k : Nat, i = .int .i64 k ∧ k ≤ ms.length ∧ Hid ((ms.take k).all moveR = true) ∧ Ext (w.alloc (.cells #[.int .i64 ph, .int .i64 dn, .slice am ms.length cm, .slice ac cs.length cc, .slice ag gs.length cg] 38)) wr) (fun i _ => ms.length - (intOf i).toNat)
  case atStart => exact ⟨0, rfl, Nat.zero_le _, Lib.hid rfl, Ext.refl _⟩
  case round =>
    obtain ⟨k, rfl, hk, hall, hext⟩ := hrel
    by_cases hlt : k < ms.length
    · have hmx := (HM.out.ext (Ext.alloc w _)).ext hext
      rcases hmx with h0 | ⟨g, off, rfl, _, hc⟩
      · rw [h0] at hlt; simp at hlt
      obtain ⟨h1, h2⟩ := hc k hlt
      clear hc
      have hmv := HMVH.out k hlt
      obtain ⟨m, hm⟩ : ∃ m, m = ms.getD k (0, []) := ⟨_, rfl⟩
      rw [← hm] at h1 h2 hmv
      obtain ⟨mk, mp⟩ := m
      simp only at h1 h2
      have HMM := Lib.hid hm; clear hm
      have HMV := Lib.hid hmv; clear hmv
      have hpr := fun W => ref_split (bs mp) W
      rw [bs_data] at hpr
      cases hpl : pathL mp with
      | none =>
        rw [hpl] at hpr
        have HPR := Lib.hid hpr; clear hpr
        have HF := Lib.hid (HMV.out (by simp [moveR, rightL_none hpl])).out; clear hpl
        go_wp2_with (go_at_call 16; refine (HPR.out _).mono ?_; rintro e w2 ⟨rfl, hx2⟩; have q0 := hx2.cell (cell_new wr _ _ 0 _ rfl); have q1 := hx2.cell (cell_new wr _ _ 1 _ rfl))
        all_goals go_ret
        all_goals exact ⟨ret_bool HF.out.symm, (Ext.alloc w _).trans (hext.trans ((Ext.alloc wr _).trans hx2))⟩
      | some L =>
        rw [hpl] at hpr
        have HPR := Lib.hid hpr; clear hpr
        by_cases hL0 : L.length = 0
        · have HF := Lib.hid (HMV.out (by simp [moveR, rightL_some hpl, hL0])).out; clear hpl
          obtain rfl : L = [] := List.eq_nil_of_length_eq_zero hL0
          clear hL0
          go_wp2_with (go_at_call 16; refine (HPR.out _).mono ?_; rintro e w2 ⟨a2, c2, rfl, hc2, hs2, hx2⟩; have q0 := hx2.cell (cell_new wr _ _ 0 _ rfl); have q1 := hx2.cell (cell_new wr _ _ 1 _ rfl); clear hs2)
          all_goals go_ret
          all_goals exact ⟨ret_bool HF.out.symm, (Ext.alloc w _).trans (hext.trans ((Ext.alloc wr _).trans hx2))⟩
        · have HRL : Hid (rightL mp = true) := Lib.hid (by rw [rightL_some hpl]; exact decide_eq_true (by omega))
          have hLb : ((L.length : Int) == 0) = false := by rw [beq_eq_false_iff_ne]; omega
          clear hL0 hpl
          by_cases hmk : 0 ≤ mk ∧ mk ≤ 2
          · obtain ⟨hm0, hm2⟩ := hmk
            go_wp2_with (go_at_call 16; refine (HPR.out _).mono ?_; rintro e w2 ⟨a2, c2, rfl, hc2, hs2, hx2⟩; have q0 := hx2.cell (cell_new wr _ _ 0 _ rfl); have q1 := hx2.cell (cell_new wr _ _ 1 _ rfl); clear hs2)
            go_roundw
            case rel => exact ⟨k + 1, by go_num, by omega, Lib.hid (by rw [List.take_succ_eq_append_getElem hlt, List.all_append, hall.out]; have := HMM.out; simp [List.getD_eq_getElem?_getD, List.getElem?_eq_getElem hlt] at this; simp [← this, moveR, HRL.out]; omega), hext.trans ((Ext.alloc wr _).trans hx2)⟩
            case measure => simp [intOf]; omega
          · have HF := Lib.hid (HMV.out (by unfold moveR; rw [decide_eq_false hmk]; rfl)).out
            go_wp2_with (go_at_call 16; refine (HPR.out _).mono ?_; rintro e w2 ⟨a2, c2, rfl, hc2, hs2, hx2⟩; have q0 := hx2.cell (cell_new wr _ _ 0 _ rfl); have q1 := hx2.cell (cell_new wr _ _ 1 _ rfl); clear hs2)
            all_goals first | (exfalso; omega) | skip
            all_goals go_ret
            all_goals exact ⟨ret_bool HF.out.symm, (Ext.alloc w _).trans (hext.trans ((Ext.alloc wr _).trans hx2))⟩
    · have hkk : k = ms.length := by omega
      have hall2 := hall.out
      rw [hkk, List.take_length] at hall2
      have HALL := Lib.hid hall2; clear hall2 hkk hall
      have c3 := hext.cell (cell_new w _ _ 3 _ rfl)
      have C4 := Lib.hid (hext.cell (cell_new w _ _ 4 _ rfl))
      have HC2 := Lib.hid ((HC.out.ext (Ext.alloc w _)).ext hext)
      have HG2 := Lib.hid ((HG.out.ext (Ext.alloc w _)).ext hext)
      have HX := Lib.hid ((Ext.alloc w _).trans hext)
      obtain ⟨wo, rfl⟩ : ∃ wo : World, wo = wr := ⟨_, rfl⟩
      go_wp2_with fail
      clear hk hlt
      go_loopw [82] (fun i wr => ∃ k : Nat, i = .int .i64 k ∧ k ≤ cs.length ∧ Hid ((cs.take k).all nameL = true) ∧ Ext wo wr) (fun i _ => cs.length - (intOf i).toNat)
      case atStart => exact ⟨0, rfl, Nat.zero_le _, Lib.hid rfl, Ext.refl _⟩
      case round =>
        obtain ⟨k, rfl, hk, hall, hext2⟩ := hrel
        by_cases hlt : k < cs.length
        · have hcx := HC2.out.ext hext2
          obtain ⟨g, off, rfl, _, hc⟩ := hcx.at (by intro e; rw [e] at hlt; simp at hlt)
          have h1 := hc k hlt
          clear hc hcx
          obtain ⟨p, hp⟩ : ∃ p, p = cs.getD k [] := ⟨_, rfl⟩
          rw [← hp] at h1
          have HP := Lib.hid hp; clear hp
          have hnm := fun W => ref_name (bs p) W
          rw [bs_data] at hnm
          cases hn : nameL p with
          | false =>
            rw [hn] at hnm
            have HNM := Lib.hid hnm; clear hnm
            have hr : r = false := by
              rw [HRR.out]
              have : cs.all nameL = false := by rw [List.all_eq_false]; exact ⟨p, by rw [HP.out]; exact getD_mem' hlt, by rw [hn]; simp⟩
              simp [rightT, this]
            have HF := Lib.hid hr; clear hr hn
            go_wp2_with (go_at_call 20; refine (HNM.out _).mono ?_; rintro e w3 ⟨rfl, rfl⟩)
            go_ret
            exact ⟨ret_bool HF.out.symm, HX.out.trans hext2⟩
          | true =>
            rw [hn] at hnm
            have HNM := Lib.hid hnm; clear hnm
            have HN := Lib.hid hn; clear hn
            go_wp2_with (go_at_call 20; refine (HNM.out _).mono ?_; rintro e w3 ⟨rfl, rfl⟩)
            go_roundw
            case rel => exact ⟨k + 1, by go_num, by omega, Lib.hid (all_take_step hlt hall.out (by rw [← HP.out]; exact HN.out)), hext2⟩
            case measure => simp [intOf]; omega
        · have hkk : k = cs.length := by omega
          have hall2 := hall.out
          rw [hkk, List.take_length] at hall2
          have HALLwo := Lib.hid hall2; clear hall2 hkk hall
          have c4p := hext2.cell C4.out
          have HGp := Lib.hid (HG2.out.ext hext2)
          have HXp := Lib.hid (HX.out.trans hext2)
          obtain ⟨wp, rfl⟩ : ∃ wp : World, wp = wr := ⟨_, rfl⟩
          go_wp2_with fail
          clear hk hlt
          go_loopw [93] (fun i wr => ∃ k : Nat, i = .int .i64 k ∧ k ≤ gs.length ∧ Hid ((gs.take k).all nameL = true) ∧ Ext wp wr) (fun i _ => gs.length - (intOf i).toNat)
          case atStart => exact ⟨0, rfl, Nat.zero_le _, Lib.hid rfl, Ext.refl _⟩
          case round =>
            obtain ⟨k, rfl, hk, hall, hext2⟩ := hrel
            by_cases hlt : k < gs.length
            · have hcx := HGp.out.ext hext2
              obtain ⟨g, off, rfl, _, hc⟩ := hcx.at (by intro e; rw [e] at hlt; simp at hlt)
              have h1 := hc k hlt
              clear hc hcx
              obtain ⟨p, hp⟩ : ∃ p, p = gs.getD k [] := ⟨_, rfl⟩
              rw [← hp] at h1
              have HP := Lib.hid hp; clear hp
              have hnm := fun W => ref_name (bs p) W
              rw [bs_data] at hnm
              cases hn : nameL p with
              | false =>
                rw [hn] at hnm
                have HNM := Lib.hid hnm; clear hnm
                have hr : r = false := by
                  rw [HRR.out]
                  have : gs.all nameL = false := by rw [List.all_eq_false]; exact ⟨p, by rw [HP.out]; exact getD_mem' hlt, by rw [hn]; simp⟩
                  simp [rightT, this]
                have HF := Lib.hid hr; clear hr hn
                go_wp2_with (go_at_call 20; refine (HNM.out _).mono ?_; rintro e w3 ⟨rfl, rfl⟩)
                go_ret
                exact ⟨ret_bool HF.out.symm, HXp.out.trans hext2⟩
              | true =>
                rw [hn] at hnm
                have HNM := Lib.hid hnm; clear hnm
                have HN := Lib.hid hn; clear hn
                go_wp2_with (go_at_call 20; refine (HNM.out _).mono ?_; rintro e w3 ⟨rfl, rfl⟩)
                go_roundw
                case rel => exact ⟨k + 1, by go_num, by omega, Lib.hid (all_take_step hlt hall.out (by rw [← HP.out]; exact HN.out)), hext2⟩
                case measure => simp [intOf]; omega
            · have hkk : k = gs.length := by omega
              have hall2 := hall.out
              rw [hkk, List.take_length] at hall2
              have HALLwp := Lib.hid hall2; clear hall2 hkk hall
              have hr : r = true := by
                rw [HRR.out]
                simp [rightT, HH.out, HALL.out, HALLwo.out, HALLwp.out]
              have HT := Lib.hid hr; clear hr
              go_wp2
              go_ret
              exact ⟨ret_bool HT.out.symm, HXp.out.trans hext2⟩
end Go.Proofs.YtedfpoidggpkdaaDoor
