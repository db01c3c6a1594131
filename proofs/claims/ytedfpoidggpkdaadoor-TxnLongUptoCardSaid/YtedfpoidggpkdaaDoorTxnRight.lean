/- (txn.Txn).Right: may an upgrade be? -/
import Derived.Test.YtedfpoidggpkdaaDoorTxnPack
import Derived.Test.YtedfpoidggpkdaaDoorRowApp
namespace Go.Proofs.YtedfpoidggpkdaaDoor
open Go.RowKit
theorem rightT_head {t : TxnD} (h : ¬ (0 ≤ t.phase ∧ t.phase ≤ 4 ∧ 0 ≤ t.done ∧ t.done ≤ t.moves.length ∧ t.moves.length ≤ 40 ∧ t.come.length + t.gone.length ≤ 24)) : rightT t = false := by
  unfold rightT headR; rw [decide_eq_false h]; rfl
theorem rightT_move {t : TxnD} {k : Nat} (hk : k < t.moves.length) (h : moveR (t.moves.getD k (0, [])) = false) : rightT t = false := by
  have : t.moves.all moveR = false := by rw [List.all_eq_false]; exact ⟨_, getD_mem' hk, by rw [h]; simp⟩
  unfold rightT; rw [this]; simp
theorem rightT_all (t : TxnD) : rightT t = (headR t && (t.moves.all moveR && (t.come ++ t.gone).all nameL)) := by
  unfold rightT; rw [List.all_append]
set_option maxRecDepth 100000 in
set_option maxHeartbeats 3200000 in
theorem txn_right (t : TxnD) (am ac ag : Option Addr) (cm cc cg : Nat) (w : World) (hE : Env w) (hM : Moves w am t.moves) (hC : Strs w ac t.come) (hG : Strs w ag t.gone) (hml : t.moves.length ≤ 8388608) (hcl : t.come.length ≤ 8388608) (hgl : t.gone.length ≤ 8388608) :
    Calls Tryd.prog 48 #[txnV t am ac ag cm cc cg] w fun e w' => e = .returned (.bool (rightT t)) ∧ Ext w w' := by
  have HR := fun h => Lib.hid (rightT_head (t := t) h)
  have HMV := fun k hk h => Lib.hid (rightT_move (t := t) (k := k) hk h)
  obtain ⟨r, hr⟩ : ∃ r, r = rightT t := ⟨_, rfl⟩
  rw [← hr] at HR HMV ⊢
  have HRR := Lib.hid hr; clear hr
  obtain ⟨ph, dn, ms, cs, gs⟩ := t
  unfold txnV
  simp only at HR HMV hml hcl hgl hM hC hG
  have HRH := Lib.hid HR; clear HR
  have HMVH := Lib.hid HMV; clear HMV
  have HM := Lib.hid hM; clear hM
  have HC := Lib.hid hC; clear hC
  have HG := Lib.hid hG; clear hG
  go_enter Tryd.func48, Tryd.ntmps48
  go_wp2_with fail
  all_goals first | (go_ret; exact ⟨ret_bool (HRH.out (by omega)).out.symm, Ext.alloc _ _⟩) | skip
  have hhead : headR ⟨ph, dn, ms, cs, gs⟩ = true := decide_eq_true (by simp only; omega)
  have HH := Lib.hid hhead; clear hhead
  go_loopw [47] (fun i wr => ∃ k : Nat, i = .int .i64 k ∧ k ≤ ms.length ∧ Hid ((ms.take k).all moveR = true) ∧ Ext (w.alloc (.cells #[.int .i64 ph, .int .i64 dn, .slice am ms.length cm, .slice ac cs.length cc, .slice ag gs.length cg] 38)) wr) (fun i _ => ms.length - (intOf i).toNat)
  case atStart => exact ⟨0, rfl, Nat.zero_le _, Lib.hid rfl, Ext.refl _⟩
  case round =>
    obtain ⟨k, rfl, hk, hall, hext⟩ := hrel
    by_cases hlt : k < ms.length
    · have hmx := (HM.out.ext (Ext.alloc w _)).ext hext
      rcases hmx with h0 | ⟨g, off, rfl, _, hc⟩
      · rw [h0] at hlt; simp at hlt
      obtain ⟨h1, h2⟩ := hc k hlt
      clear hc
      have hmv := HMVH.out k hlt
      obtain ⟨m, hm⟩ : ∃ m, m = ms.getD k (0, []) := ⟨_, rfl⟩
      rw [← hm] at h1 h2 hmv
      obtain ⟨mk, mp⟩ := m
      simp only at h1 h2
      have HMM := Lib.hid hm; clear hm
      have HMV := Lib.hid hmv; clear hmv
      have hpr := fun W (hW : Ext wr W) => path_right (bs mp) W (((hE.ext (Ext.alloc w _)).ext hext).ext hW)
      rw [bs_data] at hpr
      cases hrl : rightL mp with
      | false =>
        rw [hrl] at hpr
        have HPR := Lib.hid hpr; clear hpr
        have HF := Lib.hid (HMV.out (by simp [moveR, hrl])).out; clear hrl
        go_wp2_with (go_at_call 18; refine (HPR.out _ (Ext.alloc _ _)).mono ?_; rintro e w2 ⟨rfl, hx2⟩)
        all_goals go_ret
        all_goals first | exact ⟨ret_bool HF.out.symm, (Ext.alloc w _).trans (hext.trans (Ext.alloc wr _))⟩ | exact ⟨ret_bool HF.out.symm, (Ext.alloc w _).trans (hext.trans ((Ext.alloc wr _).trans hx2))⟩
      | true =>
        rw [hrl] at hpr
        have HPR := Lib.hid hpr; clear hpr
        have HRL := Lib.hid hrl; clear hrl
        by_cases hmk : 0 ≤ mk ∧ mk ≤ 2
        · obtain ⟨hm0, hm2⟩ := hmk
          go_wp2_with (go_at_call 18; refine (HPR.out _ (Ext.alloc _ _)).mono ?_; rintro e w2 ⟨rfl, hx2⟩)
          go_roundw
          case rel => exact ⟨k + 1, by go_num, by omega, Lib.hid (by rw [List.take_succ_eq_append_getElem hlt, List.all_append, hall.out]; have := HMM.out; simp [List.getD_eq_getElem?_getD, List.getElem?_eq_getElem hlt] at this; simp [← this, moveR, HRL.out]; omega), hext.trans ((Ext.alloc wr _).trans hx2)⟩
          case measure => simp [intOf]; omega
        · have HF := Lib.hid (HMV.out (by unfold moveR; rw [decide_eq_false hmk]; rfl)).out
          go_wp2_with fail
          all_goals first | (exfalso; omega) | skip
          all_goals go_ret
          all_goals exact ⟨ret_bool HF.out.symm, (Ext.alloc w _).trans (hext.trans (Ext.alloc wr _))⟩
    · have hkk : k = ms.length := by omega
      have hall2 := hall.out
      rw [hkk, List.take_length] at hall2
      have HALL := Lib.hid hall2; clear hall2 hkk hall
      have c3 := hext.cell (cell_new w _ _ 3 _ rfl)
      have c4 := hext.cell (cell_new w _ _ 4 _ rfl)
      have HC2 := Lib.hid ((HC.out.ext (Ext.alloc w _)).ext hext).row
      have HG2 := Lib.hid ((HG.out.ext (Ext.alloc w _)).ext hext).row
      have HX := Lib.hid ((Ext.alloc w _).trans hext)
      have hbw := hext.size
      rw [World.size_alloc] at hbw
      have hsum24 : cs.length + gs.length ≤ 24 := by omega
      obtain ⟨n, hn1, hn2⟩ : ∃ n, n ≤ cs.length + gs.length ∧ cs.length + gs.length ≤ n := ⟨_, Nat.le_refl _, Nat.le_refl _⟩
      obtain ⟨wo, rfl⟩ : ∃ wo : World, wo = wr := ⟨_, rfl⟩
      go_wp2_with fail
      clear hk hlt
      go_region_held3 (fun w' => w'.cell? ⟨w.heap.size, 3, none⟩ = some (.slice ac cs.length cc) ∧ w'.cell? ⟨w.heap.size, 4, none⟩ = some (.slice ag gs.length cg))
        (first | go_keep | exact K1.out | exact K2.out)
        (first
          | (refine step_append_row (by rfl) _ _ 23 9 (.string ⟨#[]⟩) 16 (by rfl) Tryd.underlying23 info_string rfl wo.heap.size (some ⟨wo.heap.size, 0, none⟩) 0 0 [] (by rfl) ((ownsRow_empty wo _).drew) ac cs.length cc (textV cs) (by rfl) (textV_len _) (HC2.out.keep (Keep.of_ext (Ext.alloc _ _).drew)) (textV_one _) (by omega) (by decide) (by simp) cs.length (by omega) ?_; intro ad1 cap1 w1 o1 k1 b1; have x1 : Ext wo w1 := ext_below rfl (Ext.refl wo) (Ext.alloc wo _).drew b1; have O1 := Lib.hid o1; clear o1; have K1 := Lib.hid (And.intro (x1.cell c3) (x1.cell c4)))
          | (refine step_append_row (by rfl) _ _ 23 9 (.string ⟨#[]⟩) 16 (by rfl) Tryd.underlying23 info_string rfl wo.heap.size ad1 cs.length cap1 _ (by rfl) O1.out ag gs.length cg (textV gs) (by rfl) (textV_len _) (HG2.out.keep (Keep.of_ext x1)) (textV_one _) (by omega) (by decide) x1.size n (by omega) ?_; intro ad2 cap2 w2 o2 k2 b2; have x2 : Ext wo w2 := ext_below rfl x1 (Ext.refl _) b2; have O2 := Lib.hid o2; clear o2; have K2 := Lib.hid (And.intro (x2.cell c3) (x2.cell c4))))
      go_wp2_with fail
      have hLn : (cs ++ gs).length = n := by rw [List.length_append]; omega
      have hrow : Strs w2 ad2 (cs ++ gs) := by
        have h := ownsRow_row (by simpa [textV] using O2.out : w2.ownsRow wo.heap.size 9 1 (.slice ad2 n cap2) n (textV (cs ++ gs)))
        exact h.strs
      have HROW := Lib.hid hrow; clear hrow
      obtain ⟨L, hL⟩ : ∃ L, L = cs ++ gs := ⟨_, rfl⟩
      rw [← hL] at HROW hLn
      have HL := Lib.hid hL; clear hL
      have HLN := Lib.hid hLn; clear hLn
      have HX2 := Lib.hid (HX.out.trans x2)
      obtain ⟨wp, rfl⟩ : ∃ wp : World, wp = w2 := ⟨_, rfl⟩
      have HE2 := Lib.hid (hE.ext HX2.out)
      go_loopw [74] (fun i wr => ∃ k : Nat, i = .int .i64 k ∧ k ≤ n ∧ Hid ((L.take k).all nameL = true) ∧ Ext wp wr) (fun i _ => n - (intOf i).toNat)
      case atStart => exact ⟨0, rfl, Nat.zero_le _, Lib.hid rfl, Ext.refl _⟩
      case round =>
        obtain ⟨k, rfl, hk, hall, hext2⟩ := hrel
        by_cases hlt : k < n
        · have hcx := HROW.out.ext hext2
          obtain ⟨g, off, rfl, _, hc⟩ := hcx.at (by intro e; have := HLN.out; rw [e] at this; simp at this; omega)
          have hltL : k < L.length := by rw [HLN.out]; exact hlt
          have h1 := hc k hltL
          have HLT := Lib.hid hltL; clear hltL
          clear hc hcx
          obtain ⟨p, hp⟩ : ∃ p, p = L.getD k [] := ⟨_, rfl⟩
          rw [← hp] at h1
          have HP := Lib.hid hp; clear hp
          have hnm := fun W => name_any (bs p) W
          rw [bs_data] at hnm
          cases hn : nameL p with
          | false =>
            rw [hn] at hnm
            have HNM := Lib.hid hnm; clear hnm
            have hr : r = false := by
              rw [HRR.out, rightT_all]
              have : (cs ++ gs).all nameL = false := by rw [← HL.out, List.all_eq_false]; exact ⟨p, by rw [HP.out]; exact getD_mem' HLT.out, by rw [hn]; simp⟩
              simp [this]
            have HF := Lib.hid hr; clear hr hn
            go_wp2_with (go_at_call 19; refine (HNM.out _).mono ?_; rintro e w3 ⟨rfl, hx3⟩)
            go_ret
            exact ⟨ret_bool HF.out.symm, HX2.out.trans (hext2.trans hx3)⟩
          | true =>
            rw [hn] at hnm
            have HNM := Lib.hid hnm; clear hnm
            have HN := Lib.hid hn; clear hn
            go_wp2_with (go_at_call 19; refine (HNM.out _).mono ?_; rintro e w3 ⟨rfl, hx3⟩)
            go_roundw
            case rel => exact ⟨k + 1, by go_num, by omega, Lib.hid (all_take_step HLT.out hall.out (by rw [← HP.out]; exact HN.out)), Ext.trans hext2 hx3⟩
            case measure => simp [intOf]; omega
        · have hkk : k = L.length := by rw [HLN.out]; omega
          have hall2 := hall.out
          rw [hkk, List.take_length] at hall2
          have hr : r = true := by
            rw [HRR.out, rightT_all, HH.out, HALL.out]
            simp only [Bool.true_and]
            rw [← HL.out]; exact hall2
          have HT := Lib.hid hr; clear hr hall2 hkk
          go_wp2
          go_ret
          exact ⟨ret_bool HT.out.symm, HX2.out.trans hext2⟩
end Go.Proofs.YtedfpoidggpkdaaDoor
