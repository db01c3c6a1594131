/- ProcPlays: whatever runs, has files, and ends: all is as the document says. -/
import Derived.Test.YtefpllpichhojaaGreatDoorPlaysQ
import Derived.Test.YtefpllpichhojaaGreatDoorM10
import Derived.Test.YtefpllpichhojaaGreatDoorM2
import Derived.Deep.CutBlock
import Derived.Deep.DrawnRows
namespace Go.Proofs.YtefpllpichhojaaGreatDoor
open Go.RowKit
attribute [local go_sem ↓] Go.wp_at_zero Go.wp_at_succ
variable [Low]
section
set_option maxRecDepth 100000 in
set_option maxHeartbeats 12800000 in
theorem proc_playsW (a : Option Addr) (c : Nat) (L0 : List ActD) (w : World) (hlw : Low.low = w.heap.size) (hE : EnvL w) (hA : ActsL w a L0) :
 Calls Tryz.prog 3 #[.slice a L0.length c] w fun e w' => e = .returned (.bool true) ∧ Ext w w' := by
 obtain ⟨R, hR⟩ : ∃ R : Ending → World → Prop, R = fun e w' => e = .returned (.bool true) ∧ Ext w w' := ⟨_, rfl⟩
 rw [← hR]
 have hfin : ∀ w', Ext w w' → R (.returned (.bool true)) w' := fun w' hk => by rw [hR]; exact ⟨rfl, hk⟩
 have HFIN := Lib.hid hfin; clear hfin hR
 have HLW := Lib.hid hlw
 have HAL := Lib.hid (alive08 (X := fun _ => False) w hE (by omega) (fun _ h => h.elim))
 have HE := Lib.hid hE; have HA := Lib.hid hA
 obtain ⟨m, hm⟩ : ∃ m, m = L0.length := ⟨_, rfl⟩
 rw [← hm]
 have HM := Lib.hid hm
 clear hlw hE hA hm
 by_cases h100 : 100 < m
 · have hd : decide ((100 : Int) < (m : Int)) = true := by simp; omega
   go_enter Tryz.func3, Tryz.ntmps3
   go_wp2_with (go_at_call 10; refine HAL.out.mono ?_; rintro e w1 ⟨rfl, hk⟩; have HK1 := Lib.hid hk; clear hk)
   exact HFIN.out _ (HK1.out.low HLW.out)
 have hd : decide ((100 : Int) < (m : Int)) = false := by simp; omega
 go_enter Tryz.func3, Tryz.ntmps3
 go_upto_region 6 with (first
  | (go_at_call 10; refine HAL.out.mono ?_; rintro e w1 ⟨rfl, hk⟩; have HK1 := Lib.hid hk; clear hk)
  | (go_at_call 11; refine (open08 (X := fun _ => False) w1 (HE.out.keepP HK1.out) (by have := HLW.out; have := HK1.out.size; omega) (fun _ h => h.elim)).mono ?_; rintro e w2 ⟨vb, db, kb, rfl, hv, hy⟩; have HV := Lib.hid hv; have HK2 := Lib.hid (HK1.out.trans (KeepP.of_Y hy)); clear hv hy))
 go_upto_region 7 with (go_at_call 12; refine (proc_New HV.out (fun _ => rfl) (fun _ h => h.elim) (by have := HLW.out; have := HK2.out.size; omega) (by decide)).mono ?_; rintro e w3 ⟨tb, rfl, hs, hx⟩; have HS := Lib.hid hs; have HK3 := Lib.hid ((HK2.out.trans (KeepP.of_ext hx)).low HLW.out); clear hs hx)
 clear HV HK1 HK2 HAL
 go_wp2_with fail
 have hp0 : PlaysQ w (w3.alloc (.cells #[] 36)) tb vb 200010 2 file08 noneP [] (some ⟨w3.heap.size, 0, none⟩) := by
  have hx := Ext.alloc w3 (.cells #[] 36)
  have hb := heap_alloc_new w3 (.cells #[] 36)
  refine ⟨fun g => g = w3.heap.size, db, kb, HS.out.more hx fun g hg => Or.inr ⟨by omega, by rw [hg]; simp⟩, ⟨Or.inl rfl, fun x hx => ?_, fun x hx => absurd hx List.not_mem_nil⟩, HK3.out.trans hx⟩
  cases hx
  exact ⟨rfl, _, _, _, hb, by decide⟩
 have HP0 := Lib.hid hp0
 clear hp0 HS HK3
 generalize w3.heap.size = B3 at HP0 ⊢
 generalize w3.alloc (.cells #[] 36) = w4 at HP0 ⊢
 go_loopw [39, 3, 5, 6] (fun i v l nx wr => ∃ (k N off vb : Nat) (F : FileS) (P : TabD) (L : List PlayD) (pa : Option Addr) (pc : Nat), i = .int .i64 k ∧ v = .pointer (some ⟨vb, 0, none⟩) ∧ l = .slice pa L.length pc ∧ nx = .int .i64 P.next ∧ k ≤ m ∧ 200010 ≤ N ∧ N ≤ 210000 + 30 * k ∧ off ≤ 2 + 2 * k ∧ L.length ≤ pc ∧ Hid (PlaysQ w wr tb vb N off F P L pa) ∧ Hid (P.list = L.map Prod.fst)) (fun i _ _ _ _ => m - (RowKit.intOf i).toNat)
 case atStart => exact ⟨0, 200010, 2, vb, file08, noneP, [], _, 0, rfl, rfl, rfl, rfl, Nat.zero_le _, by omega, by omega, by omega, Nat.le_refl _, HP0, Lib.hid rfl⟩
 case round =>
  clear HP0
  obtain ⟨k, N, off, vb, F, P, L, pa, pc, rfl, rfl, rfl, rfl, hk, hNl, hN, hof, hpc, HS, HPL⟩ := hrel
  by_cases hlt : k < m
  · have hkL : k < L0.length := by have := HM.out; omega
    have hx := HS.out.from
    obtain ⟨g, o, rfl, hgs, hcs, hst, ⟨hik, hpid, hif⟩, hpl8⟩ := (HA.out.ext hx).at hkL
    obtain ⟨c0, c1, c2, c3⟩ := hcs
    have hst0 : Strs w L0[k].pa L0[k].paths := by
     obtain ⟨g', o', he', _, hact⟩ := HA.out.at hkL
     exact hact.2.1
    generalize L0[k] = act at *
    obtain ⟨kd, pid, fl, qa, ps, qc⟩ := act
    dsimp only at c0 c1 c2 c3 hik hpid hif hpl8 hst0
    have h32 : L.length ≤ 32 := by
     have := HS.out.good.1.few
     rw [HPL.out, List.length_map] at this
     exact this
    have HST := Lib.hid hst0; have HIK := Lib.hid hik; have HPI := Lib.hid hpid; have HIF := Lib.hid hif
    clear hx hst0 hst hik hpid hif hkL hgs
    by_cases h12 : 12 < ps.length
    · have hd12 : decide ((12 : Int) < (ps.length : Int)) = true := by simp; omega
      go_wp2_with fail
      go_roundw
      case rel => exact ⟨k + 1, N, off, vb, F, P, L, pa, pc, by go_num, rfl, rfl, rfl, by omega, by omega, by omega, by omega, hpc, Lib.hid (HS.out.ext (Ext.alloc _ _)), HPL⟩
      case measure => simp [RowKit.intOf]; omega
    have hd12 : decide ((12 : Int) < (ps.length : Int)) = false := by simp; omega
    go_upto_region 13 with fail
    have hx5 := Ext.alloc wr (.cells #[.int .i64 kd, .int .i64 pid, .int .i64 fl, .slice qa ps.length qc] 31)
    have hb8 := heap_alloc_new wr (.cells #[.int .i64 kd, .int .i64 pid, .int .i64 fl, .slice qa ps.length qc] 31)
    generalize wr.alloc (.cells #[.int .i64 kd, .int .i64 pid, .int .i64 fl, .slice qa ps.length qc] 31) = w5 at hx5 hb8 ⊢
    generalize wr.heap.size = B8 at hb8 ⊢
    have hs5 := HS.out.ext hx5
    have HS0 := Lib.hid hs5
    have d0 := blk_cell hb8 0 (.int .i64 kd) rfl
    have d1 := blk_cell hb8 1 (.int .i64 pid) rfl
    obtain ⟨n, hn⟩ : ∃ n, n = L.length := ⟨_, rfl⟩
    have hfi := hs5.good.1.find8 HPL.out pc pid hs5.plr hn
    have HFI := Lib.hid hfi
    rw [← hn] at hpc h32 ⊢
    obtain ⟨np, hnp⟩ : ∃ n, n = ps.length := ⟨_, rfl⟩
    rw [← hnp] at hpl8 h12 hd12 hb8 ⊢
    have HN := Lib.hid hn; have HNP := Lib.hid hnp; have HB8 := Lib.hid hb8
    clear hx5 hs5 hfi hn hnp hb8 c0 c1 c2 c3 HS
    go_upto_block 2 with (go_at_call 13; refine HFI.out.mono ?_; rintro e w6 ⟨rfl, r, rfl, hr⟩; have HAT := Lib.hid hr; clear hr)
    clear HFI d0 d1
    go_cut [3, 5, 6, 10, 11] from 53 to 280 (fun v l nx wt e wx => ∃ (N2 off2 vb2 : Nat) (F2 : FileS) (P2 : TabD) (L2 : List PlayD) (pa2 : Option Addr) (pc2 : Nat) (z : Int), v = .pointer (some ⟨vb2, 0, none⟩) ∧ l = .slice pa2 L2.length pc2 ∧ nx = .int .i64 P2.next ∧ wt = .int .i64 z ∧ e = .int .i64 z ∧ 200010 ≤ N2 ∧ N2 ≤ 210000 + 30 * k + 30 ∧ off2 ≤ 2 + 2 * k + 2 ∧ L2.length ≤ pc2 ∧ Hid (PlaysQ w wx tb vb2 N2 off2 F2 P2 L2 pa2) ∧ Hid (P2.list = L2.map Prod.fst))
    case first =>
     by_cases h3 : kd = 3
     · as_aux_lemma =>
        subst h3
        have d0 := blk_cell HB8.out 0 (.int .i64 3) rfl
        have d1 := blk_cell HB8.out 1 (.int .i64 pid) rfl
        have hki := HS0.out.kill HLW.out pid HPI.out
        rcases HAT.out with ⟨rfl, hg⟩ | ⟨k', hk', rfl, hg, hp⟩
        · have e : killF P pid = (P, 8) := by unfold killF; rw [hg]
          rw [e] at hki
          have HKI := Lib.hid hki
          clear hki e hg
          go_wp2_with (go_at_call 20; refine HKI.out.mono ?_; rintro e w7 ⟨rfl, hs, _⟩; have HS7 := Lib.hid hs; clear hs)
          go_meet
          exact ⟨N, off, vb, _, _, L, _, pc, 8, rfl, by rw [HN.out], rfl, rfl, rfl, by omega, by omega, by omega, by rw [← HN.out]; exact hpc, Lib.hid (HS7.out), Lib.hid (HPL.out)⟩
        · have e : killF P pid = (setP P pid { L[k'].1 with ending := true }, 0) := by unfold killF; rw [hg]
          rw [e] at hki
          have HKI := Lib.hid hki
          have hset := HS0.out.good.1.set_L HPL.out hk' ({ L[k'].1 with ending := true }, L[k'].2)
          rw [hp] at hset
          have HSE := Lib.hid hset
          have hkn : (k' : Int) < (n : Int) := by have := HN.out; omega
          have hk0 : (0 : Int) ≤ (k' : Int) := by omega
          have hkl : decide ((k' : Int) < 0) = false := by simp
          clear hki e hg hset hp
          go_upto_region 72 with (go_at_call 20; refine HKI.out.mono ?_; rintro e w7 ⟨rfl, hs, _⟩; have HS7 := Lib.hid hs; clear hs)
          obtain ⟨g7, o7, rfl, hcl⟩ := HS7.out.plr.at hk'
          obtain ⟨y, hy⟩ : ∃ y, y = L[k'] := ⟨_, rfl⟩
          rw [← hy] at hcl HSE HS7
          have HY : Hid (y ∈ L) := Lib.hid (by rw [hy]; exact List.getElem_mem hk')
          have HKL := Lib.hid hk'
          have q0 := hcl.2.1
          have q1 := hcl.2.2.1
          have q2 := hcl.2.2.2.1
          have q3 := hcl.2.2.2.2
          clear hcl hy d0 d1 HS0
          go_upto_region 73 with fail
          have hx8 := Ext.alloc w7 (.cells #[.int .i64 y.1.pid, .string (bs y.1.unit), .slice y.2.1 y.1.maps.length y.2.2, .bool y.1.ending] 36)
          have hb9 := heap_alloc_new w7 (.cells #[.int .i64 y.1.pid, .string (bs y.1.unit), .slice y.2.1 y.1.maps.length y.2.2, .bool y.1.ending] 36)
          generalize w7.alloc (.cells #[.int .i64 y.1.pid, .string (bs y.1.unit), .slice y.2.1 y.1.maps.length y.2.2, .bool y.1.ending] 36) = w8 at hx8 hb9 ⊢
          obtain ⟨B9, hB9⟩ : ∃ B, B = w7.heap.size := ⟨_, rfl⟩
          rw [← hB9] at hb9 ⊢
          have HB9Q := Lib.hid hB9; clear hB9
          have f3 := blk_free hb9 3
          have e3 := blk_cell hb9 3 (.bool y.1.ending) rfl
          clear q0 q1 q2 q3
          go_upto_region 74 with fail
          have hb10 : (w8.setCell ⟨B9, 3, none⟩ (.bool true)).heap[B9]? = some (.cells #[.int .i64 y.1.pid, .string (bs y.1.unit), .slice y.2.1 y.1.maps.length y.2.2, .bool true] 36 (0, 0)) := setCell_row hb9 _
          have hx10 := But.ext hx8 ((But.refl B9 w8).setCell 3 (.bool true)) (by have := HB9Q.out; omega)
          generalize w8.setCell ⟨B9, 3, none⟩ (.bool true) = w9 at hb10 hx10 ⊢
          have u0 := blk_cell hb10 0 (.int .i64 y.1.pid) rfl
          have u1 := blk_cell hb10 1 (.string (bs y.1.unit)) rfl
          have u2 := blk_cell hb10 2 (.slice y.2.1 y.1.maps.length y.2.2) rfl
          have u3 := blk_cell hb10 3 (.bool true) rfl
          have htu := ref_Turn8 L (some ⟨g7, o7, none⟩) pc k' ({ y.1 with ending := true }, y.2) w9 (RunM.ext HS7.out.plr hx10) HKL.out (by have := HN.out; omega)
          rw [← HN.out] at htu
          dsimp only at htu
          have HTU := Lib.hid htu
          have HX10 := Lib.hid hx10
          clear hx8 hb9 f3 e3 hb10 hx10 htu
          go_wp2_with (go_at_call 17; refine HTU.out.mono ?_; rintro e w10 ⟨a10, c10, rfl, hcc, hown, hx11⟩; have HO := Lib.hid hown; have HC := Lib.hid hcc; have HX11 := Lib.hid hx11; clear hown hcc hx11)
          go_meet
          exact ⟨N, off, vb, _, setP P pid { y.1 with ending := true }, L.set k' ({ y.1 with ending := true }, y.2), _, c10, 0, rfl, by rw [List.length_set], rfl, rfl, rfl, by omega, by omega, by omega, HC.out, Lib.hid (HS7.out.anew (HX10.out.trans HX11.out) HX10.out.size HO.out fun x hx => Or.inl (by rcases List.mem_or_eq_of_mem_set hx with h | rfl <;> first | exact ⟨x, h, rfl, rfl⟩ | exact ⟨y, HY.out, rfl, rfl⟩)), Lib.hid (HSE.out)⟩
     by_cases h4 : kd = 4
     · as_aux_lemma =>
        subst h4
        have d0 := blk_cell HB8.out 0 (.int .i64 4) rfl
        have d1 := blk_cell HB8.out 1 (.int .i64 pid) rfl
        have hki := HS0.out.pick HLW.out pid HPI.out (by omega)
        rcases HAT.out with ⟨rfl, hg⟩ | ⟨k', hk', rfl, hg, hp⟩
        · have e : pickF F P pid = ((F, P), (false, 8)) := by unfold pickF; rw [hg]
          rw [e] at hki
          have HKI := Lib.hid hki
          clear hki e hg
          go_wp2_with (go_at_call 21; refine HKI.out.mono ?_; rintro e w7 ⟨rfl, hs, _⟩; have HS7 := Lib.hid hs; clear hs)
          go_meet
          exact ⟨N + 8, off, vb, _, _, L, _, pc, 8, rfl, by rw [HN.out], rfl, rfl, rfl, by omega, by omega, by omega, by rw [← HN.out]; exact hpc, Lib.hid (HS7.out), Lib.hid (HPL.out)⟩
        · have hkn : (k' : Int) < (n : Int) := by have := HN.out; omega
          have hk0 : (0 : Int) ≤ (k' : Int) := by omega
          have hkl : decide ((k' : Int) < 0) = false := by simp
          by_cases hen : L[k'].1.ending = true
          · have e : pickF F P pid = ((letsF F L[k'].1.maps, delP P pid), (true, 0)) := by unfold pickF; rw [hg]; dsimp only; rw [if_pos hen]
            rw [e] at hki
            have HKI := Lib.hid hki
            have hdel := HS0.out.good.1.del_L HPL.out hk'
            rw [hp] at hdel
            have HDE := Lib.hid hdel
            clear hki e hg hdel hp
            go_upto_region 77 with (go_at_call 21; refine HKI.out.mono ?_; rintro e w7 ⟨rfl, hs, _⟩; have HS7 := Lib.hid hs; clear hs)
            obtain ⟨g7, o7, rfl, hcl⟩ := HS7.out.plr.at hk'
            have q3 := hcl.2.2.2.2
            rw [hen] at q3
            have hex := ref_Exit8 L _ pc k' w7 HS7.out.plr (by rw [← HN.out]; exact hpc) hk' (by have := HN.out; omega)
            rw [← HN.out] at hex
            have HEX := Lib.hid hex
            clear hcl d0 d1 HS0 hen hex
            go_wp2_with (go_at_call 23; refine HEX.out.mono ?_; rintro e w10 ⟨a10, c10, rfl, hcc, hown, hx11⟩; have HO := Lib.hid hown; have HC := Lib.hid hcc; have HX11 := Lib.hid hx11; clear hown hcc hx11)
            go_meet
            exact ⟨N + 8, off, vb, _, delP P pid, L.take k' ++ L.drop (k' + 1), _, c10, 0, rfl, by rw [List.length_append, List.length_take, List.length_drop], rfl, rfl, rfl, by omega, by omega, by omega, HC.out, Lib.hid (HS7.out.anew HX11.out (Nat.le_refl _) HO.out fun x hx => Or.inl ⟨x, (List.mem_append.1 hx).elim List.mem_of_mem_take List.mem_of_mem_drop, rfl, rfl⟩), Lib.hid (HDE.out)⟩
          · have hef : L[k'].1.ending = false := by simpa using hen
            have e : pickF F P pid = ((F, P), (false, 0)) := by unfold pickF; rw [hg]; dsimp only; rw [if_neg hen]
            rw [e] at hki
            have HKI := Lib.hid hki
            clear hki e hg hen hp
            go_upto_region 77 with (go_at_call 21; refine HKI.out.mono ?_; rintro e w7 ⟨rfl, hs, _⟩; have HS7 := Lib.hid hs; clear hs)
            obtain ⟨g7, o7, rfl, hcl⟩ := HS7.out.plr.at hk'
            have q3 := hcl.2.2.2.2
            rw [hef] at q3
            clear hcl d0 d1 HS0 hef
            go_wp2_with fail
            go_meet
            exact ⟨N + 8, off, vb, _, _, L, _, pc, 0, rfl, by rw [HN.out], rfl, rfl, rfl, by omega, by omega, by omega, by rw [← HN.out]; exact hpc, Lib.hid (HS7.out), Lib.hid (HPL.out)⟩
     by_cases h5 : kd = 5
     · as_aux_lemma =>
        subst h5
        have d0 := blk_cell HB8.out 0 (.int .i64 5) rfl
        have d1 := blk_cell HB8.out 1 (.int .i64 pid) rfl
        have hki := HS0.out.exit HLW.out pid HPI.out (by omega)
        rcases HAT.out with ⟨rfl, hg⟩ | ⟨k', hk', rfl, hg, hp⟩
        · have e : exitF F P pid = ((F, P), 8) := by unfold exitF; rw [hg]
          rw [e] at hki
          have HKI := Lib.hid hki
          clear hki e hg
          go_wp2_with (go_at_call 22; refine HKI.out.mono ?_; rintro e w7 ⟨rfl, hs, _⟩; have HS7 := Lib.hid hs; clear hs)
          go_meet
          exact ⟨N + 8, off, vb, _, _, L, _, pc, 8, rfl, by rw [HN.out], rfl, rfl, rfl, by omega, by omega, by omega, by rw [← HN.out]; exact hpc, Lib.hid (HS7.out), Lib.hid (HPL.out)⟩
        · have hkl : decide ((k' : Int) < 0) = false := by simp
          have hk0 : (0 : Int) ≤ (k' : Int) := by omega
          have e : exitF F P pid = ((letsF F L[k'].1.maps, delP P pid), 0) := by unfold exitF; rw [hg]
          rw [e] at hki
          have HKI := Lib.hid hki
          have hdel := HS0.out.good.1.del_L HPL.out hk'
          rw [hp] at hdel
          have HDE := Lib.hid hdel
          have HKL := Lib.hid hk'
          have hpc2 : L.length ≤ pc := by rw [← HN.out]; exact hpc
          have hex := fun w7 (h : PlR w7 pa L) => ref_Exit8 L pa pc k' w7 h hpc2 HKL.out (by have := HN.out; omega)
          rw [← HN.out] at hex
          have HEX := Lib.hid hex
          clear hki e hg hdel hp hpc2 hex
          go_wp2_with (first
           | (go_at_call 22; refine HKI.out.mono ?_; rintro e w7 ⟨rfl, hs, _⟩; have HS7 := Lib.hid hs; clear hs)
           | (go_at_call 23; refine (HEX.out _ HS7.out.plr).mono ?_; rintro e w10 ⟨a10, c10, rfl, hcc, hown, hx11⟩; have HO := Lib.hid hown; have HC := Lib.hid hcc; have HX11 := Lib.hid hx11; clear hown hcc hx11))
          go_meet
          exact ⟨N + 8, off, vb, _, delP P pid, L.take k' ++ L.drop (k' + 1), _, c10, 0, rfl, by rw [List.length_append, List.length_take, List.length_drop], rfl, rfl, rfl, by omega, by omega, by omega, HC.out, Lib.hid (HS7.out.anew HX11.out (Nat.le_refl _) HO.out fun x hx => Or.inl ⟨x, (List.mem_append.1 hx).elim List.mem_of_mem_take List.mem_of_mem_drop, rfl, rfl⟩), Lib.hid (HDE.out)⟩
     by_cases h1 : kd = 1
     · as_aux_lemma =>
        subst h1
        have d1 := blk_cell HB8.out 1 (.int .i64 pid) rfl
        have d3 := blk_cell HB8.out 3 (.slice qa np qc) rfl
        obtain ⟨bq, hbq⟩ : ∃ b, b = decide (0 < np) := ⟨_, rfl⟩
        have HBQ := Lib.hid hbq; clear hbq
        go_upto_if 124 with fail
        first
         | rw [← HBQ.out]
         | rw [show decide ((0 : Int) < (np : Int)) = bq by rw [HBQ.out]; exact decide_eq_decide.2 (by omega)]
        go_cut [19] from 125 to 128 (fun s wx => ∃ s0, s = .string (bs s0) ∧ Hid (wx = w5))
        case first =>
         cases bq with
         | true =>
           have hl0 : 0 < ps.length := by have h := of_decide_eq_true HBQ.out.symm; have := HNP.out; omega
           rcases HST.out.ext HS0.out.from with h | ⟨gs, os, rfl, _, hc⟩
           · rw [h] at hl0; simp at hl0
           have s0 := hc 0 hl0
           rw [Nat.add_zero] at s0
           have b0 : (0 : Int) < (np : Int) := by have := HNP.out; omega
           generalize ps.getD 0 [] = s1 at s0
           clear hc hl0
           go_wp2_with fail
           go_meet
           exact ⟨s1, rfl, Lib.hid rfl⟩
         | false =>
           go_wp2_with fail
           go_meet
           exact ⟨[47, 97], rfl, Lib.hid rfl⟩
        case rest =>
         obtain ⟨s0, rfl, hw⟩ := hcut
         rw [hw.out]
         clear hw
         have hidc := HS0.out.id HLW.out HE.out (by omega) s0
         have hcur := fun W (k : Ext w5 W) => (HS0.out.ext k).map HLW.out HE.out pid HPI.out s0 (by omega)
         obtain ⟨hi, hhi⟩ : ∃ x, x = (holdF F.m s0).1 := ⟨_, rfl⟩
         obtain ⟨hz, hhz⟩ : ∃ x, x = (holdF F.m s0).2 := ⟨_, rfl⟩
         rw [← hhi, ← hhz] at hidc
         have HID := Lib.hid hidc
         clear hidc d1 d3
         rcases HAT.out with ⟨rfl, hg⟩ | ⟨k', hk', rfl, hg, hp⟩
         · have e : mapF F P pid s0 = ((F, P), 8) := by unfold mapF; rw [hg]
           rw [e] at hcur
           have HCUR := Lib.hid hcur
           clear hcur e hg hhi hhz
           go_wp2_with (first
            | (go_at_call 14; refine HID.out.mono ?_; rintro e w6 ⟨rfl, hx⟩; have d1 := blk_cell (hx.heap HB8.out) 1 (.int .i64 pid) rfl; have HX6 := Lib.hid hx; clear hx)
            | (go_at_call 16; refine (HCUR.out _ HX6.out).mono ?_; rintro e w7 ⟨rfl, hs, _⟩; have HS7 := Lib.hid hs; clear hs))
           go_meet
           exact ⟨N + 1, off, vb, _, _, L, _, pc, 8, rfl, by rw [HN.out], rfl, rfl, rfl, by omega, by omega, by omega, by rw [← HN.out]; exact hpc, Lib.hid (HS7.out), Lib.hid (HPL.out)⟩
         · have hkn : (k' : Int) < (n : Int) := by have := HN.out; omega
           have hk0 : (0 : Int) ≤ (k' : Int) := by omega
           have hkl : decide ((k' : Int) < 0) = false := by simp
           obtain ⟨g7, o7, rfl, hcl⟩ := HS0.out.plr.at hk'
           obtain ⟨y, hy⟩ : ∃ y, y = L[k'] := ⟨_, rfl⟩
           rw [← hy] at hcl hg hp
           have HY : Hid (y = L[k']) := Lib.hid hy
           have hym : y ∈ L := by rw [hy]; exact List.getElem_mem hk'
           have h8 : y.1.maps.length ≤ 8 := HS0.out.good.1.maps _ (getP_some hg).1
           have HYM := Lib.hid hym; have HP := Lib.hid hp; have HKL := Lib.hid hk'
           have q2 := hcl.2.2.2.1
           obtain ⟨z1, hz1⟩ : ∃ z, z = y.1.maps.length := ⟨_, rfl⟩
           rw [← hz1] at q2 h8
           have HZ1 := Lib.hid hz1
           by_cases h8e : 8 ≤ z1
           · have hd8 : decide ((8 : Int) ≤ (z1 : Int)) = true := by simp; omega
             have e : mapF F P pid s0 = ((F, P), 22) := by unfold mapF; rw [hg]; dsimp only; rw [if_pos (by omega)]
             rw [e] at hcur
             have HCUR := Lib.hid hcur
             clear hcur e hg hhi hhz hcl hy hym hp hz1
             go_wp2_with (first
              | (go_at_call 14; refine HID.out.mono ?_; rintro e w6 ⟨rfl, hx⟩; have d1 := blk_cell (hx.heap HB8.out) 1 (.int .i64 pid) rfl; have q2 := hx.cell q2; have HX6 := Lib.hid hx; clear hx)
              | (go_at_call 16; refine (HCUR.out _ HX6.out).mono ?_; rintro e w7 ⟨rfl, hs, _⟩; have HS7 := Lib.hid hs; clear hs))
             go_meet
             exact ⟨N + 1, off, vb, _, _, L, _, pc, 22, rfl, by rw [HN.out], rfl, rfl, rfl, by omega, by omega, by omega, by rw [← HN.out]; exact hpc, Lib.hid (HS7.out), Lib.hid (HPL.out)⟩
           have hd8 : decide ((8 : Int) ≤ (z1 : Int)) = false := by simp; omega
           by_cases hz0 : hz = 0
           · have e : mapF F P pid s0 = ((heldF F s0, setP P pid { y.1 with maps := y.1.maps ++ [hi] }), 0) := by
                    unfold mapF; rw [hg]; dsimp only; rw [if_neg (by omega), ← hhz, hz0, if_pos rfl]
                    unfold gotM; rw [← hhz, hz0, if_pos rfl, ← hhi]
             rw [e] at hcur
             have HCUR := Lib.hid hcur
             have hset2 : ∀ v : Option Addr × Nat, (setP P pid { y.1 with maps := y.1.maps ++ [hi] }).list = (L.set k' ({ y.1 with maps := y.1.maps ++ [hi] }, v)).map Prod.fst := fun v => by
              have := HS0.out.good.1.set_L HPL.out HKL.out ({ y.1 with maps := y.1.maps ++ [hi] }, v)
              rw [← HY.out, HP.out] at this
              exact this
             have HSE := Lib.hid hset2
             subst hz0
             clear hcur e hg hhi hhz hcl hy hym hp hset2 hz1
             go_upto_region 49 with (first
              | (go_at_call 14; refine HID.out.mono ?_; rintro e w6 ⟨rfl, hx⟩; have d1 := blk_cell (hx.heap HB8.out) 1 (.int .i64 pid) rfl; have q2 := hx.cell q2; have HX6 := Lib.hid hx; clear hx)
              | (go_at_call 16; refine (HCUR.out _ HX6.out).mono ?_; rintro e w7 ⟨rfl, hs, _⟩; have HS7 := Lib.hid hs; clear hs))
             clear d1 q2
             obtain ⟨g8, o8, he8, hcl⟩ := HS7.out.plr.at HKL.out
             cases he8
             rw [← HY.out, ← HZ1.out] at hcl
             have q0 := hcl.2.1
             have q1 := hcl.2.2.1
             have q2 := hcl.2.2.2.1
             have q3 := hcl.2.2.2.2
             clear hcl
             go_upto_region 50 with fail
             have hx8 := Ext.alloc w7 (.cells #[.int .i64 y.1.pid, .string (bs y.1.unit), .slice y.2.1 z1 y.2.2, .bool y.1.ending] 36)
             have hb9 := heap_alloc_new w7 (.cells #[.int .i64 y.1.pid, .string (bs y.1.unit), .slice y.2.1 z1 y.2.2, .bool y.1.ending] 36)
             generalize w7.alloc (.cells #[.int .i64 y.1.pid, .string (bs y.1.unit), .slice y.2.1 z1 y.2.2, .bool y.1.ending] 36) = w8 at hx8 hb9 ⊢
             obtain ⟨B9, hB9⟩ : ∃ B, B = w7.heap.size := ⟨_, rfl⟩
             rw [← hB9] at hb9 ⊢
             have HB9Q := Lib.hid hB9
             have e2 := blk_cell hb9 2 (.slice y.2.1 z1 y.2.2) rfl
             have hlt9 : B9 < w8.heap.size := (Array.getElem?_eq_some_iff.1 hb9).1
             clear q0 q1 q2 q3 hB9
             go_wp2_with (at_builtin; refine Hid.out ?_)
             refine Lib.hid ?_
             have hxa := Ext.alloc w8 (.cells #[] 3)
             have hba := heap_alloc_new w8 (.cells #[] 3)
             generalize w8.alloc (.cells #[] 3) = wa at hxa hba ⊢
             obtain ⟨Ba, hBa⟩ : ∃ B, B = w8.heap.size := ⟨_, rfl⟩
             rw [← hBa] at hba hlt9 ⊢
             have hsa : Ba ≤ wa.heap.size := by have := hxa.size; omega
             have hroy : RunM w7 y.2.1 (intV y.1.maps) := HS7.out.row y HYM.out
             refine wpList_append_any rfl _ _ 34 3 (.int .i64 0) 1 8 rfl Tryz.underlying34 info_intL rfl (by decide) Ba (some ⟨Ba, 0, none⟩) 0 0 [] rfl (row_zero hba (Nat.le_refl _)) y.2.1 z1 y.2.2 (intV y.1.maps) rfl (by rw [ints_len, HZ1.out]) (RunM.ext hroy (hx8.trans hxa)) (intV_one _) (by omega) (by decide) hsa z1 (by omega) ?_
             intro a3 c3 w9 hown hkp hbl
             rw [List.nil_append] at hown
             have hk9 : Keep (fun j => j < Ba) w8 w9 := (Keep.of_ext hxa).andThen (Keep.of_below hbl) (fun _ _ h => h)
             have hb9 := hk9.heap hlt9 hb9
             have hs9 : Ba ≤ w9.heap.size := Nat.le_trans (by omega) hk9.size
             have HO9 := Lib.hid hown; have HK9 := Lib.hid hk9; have HB9R := Lib.hid hb9; have HS9 := Lib.hid hs9; have HX8 := Lib.hid hx8; have HBA := Lib.hid hBa; have HLT9 := Lib.hid hlt9
             clear hown hkp hbl hk9 hs9 hx8 hxa hba hsa hBa hroy hb9 hlt9 e2
             go_wp2_with (at_builtin; refine Hid.out ?_)
             refine Lib.hid ?_
             have hxb := Ext.alloc w9 (.cells #[.int .i64 hi] 3)
             have hbb := heap_alloc_new w9 (.cells #[.int .i64 hi] 3)
             generalize w9.alloc (.cells #[.int .i64 hi] 3) = wb at hxb hbb ⊢
             generalize w9.heap.size = Bb at hbb ⊢
             refine wpList_append_any rfl _ _ 34 3 (.int .i64 0) 1 8 rfl Tryz.underlying34 info_intL rfl (by decide) Ba a3 z1 c3 (intV y.1.maps) rfl (ownsRow_ext HO9.out hxb) (some ⟨Bb, 0, none⟩) 1 1 [.int .i64 hi] rfl rfl (run_blk hbb) (intV_one [hi]) (by omega) (by decide) (Nat.le_trans HS9.out hxb.size) (z1 + 1) (by omega) ?_
             intro a4 c4 w10 hown hkp hbl
             have hk10 : Keep (fun j => j < Ba) w8 w10 := HK9.out.andThen ((Keep.of_ext (S := fun j => j < Ba) hxb).andThen (Keep.of_below hbl) (fun _ _ h => h)) (fun _ _ h => h)
             have ho10 : OwnIs w10 Ba a4 c4 (y.1.maps ++ [hi]) := by
              unfold OwnIs
              rw [List.length_append, ← HZ1.out]
              unfold intV at hown ⊢
              rw [List.map_append]
              exact hown
             have hb9 := ((Keep.of_ext (S := fun j => j < Ba) hxb).andThen (Keep.of_below hbl) (fun _ _ h => h)).heap HLT9.out HB9R.out
             have f2 := blk_free hb9 2
             have e2 := blk_cell hb9 2 (.slice y.2.1 z1 y.2.2) rfl
             have HO10 := Lib.hid ho10; have HK10 := Lib.hid hk10; have HB10 := Lib.hid hb9
             clear hown hkp hbl hk10 ho10 hb9 hxb hbb
             go_upto_region 51 with fail
             have hb11 : (w10.setCell ⟨B9, 2, none⟩ (.slice a4 (z1 + 1) c4)).heap[B9]? = some (.cells #[.int .i64 y.1.pid, .string (bs y.1.unit), .slice a4 (z1 + 1) c4, .bool y.1.ending] 36 (0, 0)) := setCell_row HB10.out _
             have hbut := (But.refl B9 w10).setCell 2 (.slice a4 (z1 + 1) c4)
             have hx10 : Ext w7 w10 := ((Keep.of_ext (S := fun j => j < w7.heap.size) HX8.out).andThen HK10.out (fun j hj _ => by have := HX8.out.size; have := HBA.out; show j < Ba; omega)).ext_lt
             have hx11 := But.ext hx10 hbut (by have := HB9Q.out; omega)
             have ho11 : OwnIs (w10.setCell ⟨B9, 2, none⟩ (.slice a4 (z1 + 1) c4)) Ba a4 c4 (y.1.maps ++ [hi]) := ownsRow_keep HO10.out (Keep.of_but hbut) fun g cs hg hgc hlt => by
              have := HLT9.out
              omega
             generalize w10.setCell ⟨B9, 2, none⟩ (.slice a4 (z1 + 1) c4) = w11 at hb11 hx11 ho11 ⊢
             have u0 := blk_cell hb11 0 (.int .i64 y.1.pid) rfl
             have u1 := blk_cell hb11 1 (.string (bs y.1.unit)) rfl
             have u2 := blk_cell hb11 2 (.slice a4 (z1 + 1) c4) rfl
             have u3 := blk_cell hb11 3 (.bool y.1.ending) rfl
             have htu := ref_Turn8 L (some ⟨g7, o7, none⟩) pc k' ({ y.1 with maps := y.1.maps ++ [hi] }, (a4, c4)) w11 (RunM.ext HS7.out.plr hx11) HKL.out (by have := HN.out; omega)
             rw [← HN.out] at htu
             dsimp only at htu
             rw [List.length_append, ← HZ1.out] at htu
             have HTU := Lib.hid htu
             have HX11 := Lib.hid hx11; have HO11 := Lib.hid ho11
             clear htu hx11 ho11 hx10 hbut hb11 f2 e2
             go_wp2_with (go_at_call 17; refine HTU.out.mono ?_; rintro e w12 ⟨a12, c12, rfl, hcc, hown, hx12⟩; have HO := Lib.hid hown; have HC := Lib.hid hcc; have HX12 := Lib.hid hx12; clear hown hcc hx12)
             go_meet
             exact ⟨N + 1, off, vb, _, setP P pid { y.1 with maps := y.1.maps ++ [hi] }, L.set k' ({ y.1 with maps := y.1.maps ++ [hi] }, (a4, c4)), _, c12, 0, rfl, by rw [List.length_set], rfl, rfl, rfl, by omega, by omega, by omega, HC.out, Lib.hid (HS7.out.anew (HX11.out.trans HX12.out) HX11.out.size HO.out fun x hx => (by rcases List.mem_or_eq_of_mem_set hx with h | rfl <;> first | exact Or.inl ⟨x, h, rfl, rfl⟩ | exact Or.inr ⟨Ba, (by have := HX8.out.size; have := HBA.out; omega), ownsRow_ext HO11.out HX12.out⟩)), Lib.hid (HSE.out _)⟩
           · have e : mapF F P pid s0 = ((heldF F s0, P), hz) := by
                    unfold mapF; rw [hg]; dsimp only; rw [if_neg (by omega), ← hhz, if_neg hz0]
             rw [e] at hcur
             have HCUR := Lib.hid hcur
             have hzb : (hz == 0) = false := by simpa using hz0
             clear hcur e hg hhi hhz hcl hy hym hp hz1 hz0
             go_wp2_with (first
              | (go_at_call 14; refine HID.out.mono ?_; rintro e w6 ⟨rfl, hx⟩; have d1 := blk_cell (hx.heap HB8.out) 1 (.int .i64 pid) rfl; have q2 := hx.cell q2; have HX6 := Lib.hid hx; clear hx)
              | (go_at_call 16; refine (HCUR.out _ HX6.out).mono ?_; rintro e w7 ⟨rfl, hs, _⟩; have HS7 := Lib.hid hs; clear hs))
             go_meet
             exact ⟨N + 1, off, vb, _, _, L, _, pc, hz, rfl, by rw [HN.out], rfl, rfl, rfl, by omega, by omega, by omega, by rw [← HN.out]; exact hpc, Lib.hid (HS7.out), Lib.hid (HPL.out)⟩
     by_cases h2 : kd = 2
     · as_aux_lemma =>
        subst h2
        have d1 := blk_cell HB8.out 1 (.int .i64 pid) rfl
        have d2 := blk_cell HB8.out 2 (.int .i64 fl) rfl
        rcases HAT.out with ⟨rfl, hg⟩ | ⟨k', hk', rfl, hg, hp⟩
        · have hki := HS0.out.unmap HLW.out pid fl HPI.out (by omega)
          have e : unmapF F P pid fl = ((F, P), 8) := by unfold unmapF; rw [hg]
          rw [e] at hki
          have HKI := Lib.hid hki
          clear hki e hg
          go_wp2_with (go_at_call 19; refine HKI.out.mono ?_; rintro e w7 ⟨rfl, hs, _⟩; have HS7 := Lib.hid hs; clear hs)
          go_meet
          exact ⟨N + 1, off, vb, _, _, L, _, pc, 8, rfl, by rw [HN.out], rfl, rfl, rfl, by omega, by omega, by omega, by rw [← HN.out]; exact hpc, Lib.hid (HS7.out), Lib.hid (HPL.out)⟩
        · have hkn : (k' : Int) < (n : Int) := by have := HN.out; omega
          have hk0 : (0 : Int) ≤ (k' : Int) := by omega
          obtain ⟨g7, o7, rfl, hcl⟩ := HS0.out.plr.at hk'
          obtain ⟨y, hy⟩ : ∃ y, y = L[k'] := ⟨_, rfl⟩
          rw [← hy] at hcl hg hp
          have HY : Hid (y = L[k']) := Lib.hid hy
          have hym : y ∈ L := by rw [hy]; exact List.getElem_mem hk'
          have HYM := Lib.hid hym
          have h8 : y.1.maps.length ≤ 8 := HS0.out.good.1.maps _ (getP_some hg).1
          have hcap := HS0.out.cap y hym
          have hrow := HS0.out.row y hym
          have q0 := hcl.2.1
          have q1 := hcl.2.2.1
          have q2 := hcl.2.2.2.1
          have q3 := hcl.2.2.2.2
          have HG := Lib.hid hg; have HP := Lib.hid hp; have HKL := Lib.hid hk'; have H8 := Lib.hid h8; have HCAP := Lib.hid hcap; have HROW := Lib.hid hrow
          clear hcl hy d1 d2 hym h8 hcap hrow hg hp
          go_upto_region 56 with fail
          have hx8 := Ext.alloc w5 (.cells #[.int .i64 y.1.pid, .string (bs y.1.unit), .slice y.2.1 y.1.maps.length y.2.2, .bool y.1.ending] 36)
          have hb9 := heap_alloc_new w5 (.cells #[.int .i64 y.1.pid, .string (bs y.1.unit), .slice y.2.1 y.1.maps.length y.2.2, .bool y.1.ending] 36)
          generalize w5.alloc (.cells #[.int .i64 y.1.pid, .string (bs y.1.unit), .slice y.2.1 y.1.maps.length y.2.2, .bool y.1.ending] 36) = w8 at hx8 hb9 ⊢
          obtain ⟨B9, hB9⟩ : ∃ B, B = w5.heap.size := ⟨_, rfl⟩
          rw [← hB9] at hb9 ⊢
          have HB9Q := Lib.hid hB9; clear hB9
          have hb8 := hx8.heap HB8.out
          have e2 := blk_cell hb9 2 (.slice y.2.1 y.1.maps.length y.2.2) rfl
          have d2 := blk_cell hb8 2 (.int .i64 fl) rfl
          have HX8 := Lib.hid hx8; have HB9R := Lib.hid hb9
          clear q0 q1 q2 q3
          by_cases hin : fl ∈ y.1.maps
          · obtain ⟨k2, hk2, hx2, hne2, her⟩ := first_at hin
            have hel : (y.1.maps.erase fl).length = y.1.maps.length - 1 := List.length_erase_of_mem hin
            have hpos : 0 < y.1.maps.length := List.length_pos_of_mem hin
            have hwi := ref_Without8 y.1.maps y.2.1 y.2.2 k2 fl w8 (HROW.out.ext hx8) HCAP.out hk2 (by have := H8.out; omega) hx2 hne2
            rw [← her] at hwi
            have hum : unmapF F P pid fl = ((letF F fl, setP P pid { y.1 with maps := y.1.maps.erase fl }), 0) := by unfold unmapF; rw [HG.out]; dsimp only; rw [if_pos hin]
            have HUM := Lib.hid hum
            generalize y.1.maps.erase fl = Z at *
            have hset2 : ∀ v : Option Addr × Nat, (setP P pid { y.1 with maps := Z }).list = (L.set k' ({ y.1 with maps := Z }, v)).map Prod.fst := fun v => by
             have := HS0.out.good.1.set_L HPL.out HKL.out ({ y.1 with maps := Z }, v)
             rw [← HY.out, HP.out] at this
             exact this
            have HSE := Lib.hid hset2
            obtain ⟨z2, hz2⟩ : ∃ z, z = Z.length := ⟨_, rfl⟩
            obtain ⟨z1, hz1⟩ : ∃ z, z = y.1.maps.length := ⟨_, rfl⟩
            unfold NewInts at hwi
            rw [← hz1, ← hz2] at hel
            rw [← hz1] at hpos
            rw [← hz1, ← hz2] at hwi
            have HWI := Lib.hid hwi
            have hlt2 : (z2 : Int) < (z1 : Int) := by omega
            have HZ2 := Lib.hid hz2
            rw [← hz1] at e2 hb9 ⊢
            clear hset2 hum hwi her hne2 hx2 hk2 hin hel hpos hz1 hz2
            go_upto_region 57 with (go_at_call 18; refine HWI.out.mono ?_; rintro e w7 ⟨a6, c6, rfl, ho6, hx6⟩; have e2 := hx6.cell e2; have HO6 := Lib.hid ho6; have HX6 := Lib.hid hx6; clear ho6 hx6)
            have hb9 := HX6.out.heap hb9
            have hb8 := HX6.out.heap hb8
            have f2 := blk_free hb9 2
            have hBs : w5.heap.size ≤ B9 := by have := HB9Q.out; omega
            clear d2
            go_upto_region 60 with fail
            have hb10 : (w7.setCell ⟨B9, 2, none⟩ (.slice a6 z2 c6)).heap[B9]? = some (.cells #[.int .i64 y.1.pid, .string (bs y.1.unit), .slice a6 z2 c6, .bool y.1.ending] 36 (0, 0)) := setCell_row hb9 _
            have hbut := (But.refl B9 w7).setCell 2 (.slice a6 z2 c6)
            have hx10 := But.ext (hx8.trans HX6.out) hbut hBs
            have hb8 := Keep.heap (Keep.of_but hbut) (by have := (Array.getElem?_eq_some_iff.1 HB8.out).1; omega) hb8
            have ho10 : OwnIs (w7.setCell ⟨B9, 2, none⟩ (.slice a6 z2 c6)) w8.heap.size a6 c6 Z := ownsRow_keep HO6.out (Keep.of_but hbut) fun g cs hg hgc hlt => by
             have := (Array.getElem?_eq_some_iff.1 (hb9)).1
             have h9 : B9 < w8.heap.size := (Array.getElem?_eq_some_iff.1 HB9R.out).1
             omega
            generalize w7.setCell ⟨B9, 2, none⟩ (.slice a6 z2 c6) = w9 at hb10 hx10 hb8 ho10 ⊢
            have u0 := blk_cell hb10 0 (.int .i64 y.1.pid) rfl
            have u1 := blk_cell hb10 1 (.string (bs y.1.unit)) rfl
            have u2 := blk_cell hb10 2 (.slice a6 z2 c6) rfl
            have u3 := blk_cell hb10 3 (.bool y.1.ending) rfl
            have htu := ref_Turn8 L (some ⟨g7, o7, none⟩) pc k' ({ y.1 with maps := Z }, (a6, c6)) w9 (RunM.ext HS0.out.plr hx10) HKL.out (by have := HN.out; omega)
            rw [← HN.out] at htu
            dsimp only at htu
            rw [← HZ2.out] at htu
            have HTU := Lib.hid htu
            have HX10 := Lib.hid hx10; have HB9 := Lib.hid hb8; have HO9 := Lib.hid ho10
            have HBS : Hid (w5.heap.size ≤ w8.heap.size) := Lib.hid hx8.size
            clear hx8 hb9 f2 e2 hb10 hx10 htu hb8 hbut ho10 hBs
            go_upto_region 61 with (go_at_call 17; refine HTU.out.mono ?_; rintro e w10 ⟨a10, c10, rfl, hcc, hown, hx11⟩; have HO := Lib.hid hown; have HC := Lib.hid hcc; have HX11 := Lib.hid hx11; clear hown hcc hx11)
            have hs10 := HS0.out.anew (HX10.out.trans HX11.out) HX10.out.size HO.out (fun x hx => by
             rcases List.mem_or_eq_of_mem_set hx with h | rfl
             · exact Or.inl ⟨x, h, rfl, rfl⟩
             · exact Or.inr ⟨w8.heap.size, HBS.out, ownsRow_ext HO9.out HX11.out⟩)
            have hki := hs10.unmap HLW.out pid fl HPI.out (by omega)
            rw [HUM.out] at hki
            have HKI := Lib.hid hki
            have d1 := blk_cell (HX11.out.heap HB9.out) 1 (.int .i64 pid) rfl
            have d2 := blk_cell (HX11.out.heap HB9.out) 2 (.int .i64 fl) rfl
            clear hs10 hki u0 u1 u2 u3
            go_wp2_with (go_at_call 19; refine HKI.out.mono ?_; rintro e w12 ⟨rfl, hs, _⟩; have HS7 := Lib.hid hs; clear hs)
            go_meet
            exact ⟨N + 1, off, vb, _, setP P pid { y.1 with maps := Z }, L.set k' ({ y.1 with maps := Z }, (a6, c6)), _, c10, 0, rfl, by rw [List.length_set], rfl, rfl, rfl, by omega, by omega, by omega, HC.out, Lib.hid (HS7.out), Lib.hid (HSE.out _)⟩
          · have hwi := ref_Without8_none y.1.maps y.2.1 y.2.2 fl w8 (HROW.out.ext hx8) (by have := H8.out; omega) hin
            have hum : unmapF F P pid fl = ((F, P), 8) := by unfold unmapF; rw [HG.out]; dsimp only; rw [if_neg hin]
            have hki := (HS0.out.ext hx8).unmap HLW.out pid fl HPI.out (by omega)
            rw [hum] at hki
            have HKI := Lib.hid hki; have HWI := Lib.hid hwi
            have hltz : decide ((y.1.maps.length : Int) < (y.1.maps.length : Int)) = false := by simp
            have d1 := blk_cell hb8 1 (.int .i64 pid) rfl
            clear hwi hum hki hin
            go_wp2_with (first
             | (go_at_call 18; refine HWI.out.mono ?_; rintro e w7 ⟨rfl, rfl⟩)
             | (go_at_call 19; refine HKI.out.mono ?_; rintro e w12 ⟨rfl, hs, _⟩; have HS7 := Lib.hid hs; clear hs))
            go_meet
            exact ⟨N + 1, off, vb, _, _, L, _, pc, 8, rfl, by rw [HN.out], rfl, rfl, rfl, by omega, by omega, by omega, by rw [← HN.out]; exact hpc, Lib.hid (HS7.out), Lib.hid (HPL.out)⟩
     by_cases h6 : kd = 6
     · as_aux_lemma =>
        subst h6
        have d3 := blk_cell HB8.out 3 (.slice qa np qc) rfl
        by_cases h1np : 1 < np
        · have hd1 : decide ((1 : Int) < (np : Int)) = true := by simp; omega
          have hl1 : 1 < ps.length := by have := HNP.out; omega
          rcases HST.out with h | ⟨ga, oa, rfl, _, hc⟩
          · rw [h] at hl1; simp at hl1
          have s0 := hc 0 (by omega)
          have s1 := hc 1 hl1
          rw [Nat.add_zero] at s0
          generalize ps.getD 0 [] = p0 at s0
          generalize ps.getD 1 [] = p1 at s1
          have HSW0 := Lib.hid s0; have HSW1 := Lib.hid s1
          have s0 := HS0.out.from.cell s0
          have s1 := HS0.out.from.cell s1
          go_upto_region 86 with fail
          have HCS : Hid (∀ W, Ext w5 W → (W.cell? ⟨B8, 3, none⟩ = some (.slice (some ⟨ga, oa, none⟩) np qc)) ∧ W.cell? ⟨ga, oa, none⟩ = some (.string (bs p0)) ∧ W.cell? ⟨ga, oa + 1, none⟩ = some (.string (bs p1))) := Lib.hid fun W k => ⟨k.cell d3, k.cell s0, k.cell s1⟩
          have HK := Lib.hid (Ext.refl w5).drew
          have b1 : 0 < np := by omega
          have b2 : (1 : Int) < (np : Int) := by omega
          clear hc hl1 d3 s0 s1 hd1 h1np
          refine wp_region_noPanic ?_
          refine wp_region_held_drew (S := (fun wq => (wq.cell? ⟨B8, 3, none⟩ = some (.slice (some ⟨ga, oa, none⟩) np qc)) ∧ wq.cell? ⟨ga, oa, none⟩ = some (.string (bs p0)) ∧ wq.cell? ⟨ga, oa + 1, none⟩ = some (.string (bs p1)))) (by kernel_rfl) (HCS.out _ HK.out) (fun hHeld => ?_)
          clear hHeld
          generalize w5.drew = wc at HK ⊢
          refine wpAnyH_take (i := 0) (v := ?_) rfl (by kernel_rfl) (by kernel_rfl) (by kernel_rfl) (fun _ _ _ h => h) (Or.inl ⟨by kernel_rfl, ?_⟩) (HCS.out _ HK.out) ?_
          rotate_left
          · (intro wq _; first | (go_simp; done) | (go_simp; with_reducible rfl))
          try simp only [List.getElem_toArray, List.getElem_cons_zero, Act.put, List.setIfInBounds_toArray, List.set_cons_zero, List.set_cons_succ]
          refine wpAnyH_take (i := 1) (v := ?_) rfl (by kernel_rfl) (by kernel_rfl) (by kernel_rfl) (fun _ _ _ h => h) (Or.inl ⟨by kernel_rfl, ?_⟩) (HCS.out _ HK.out) ?_
          rotate_left
          · (intro wq _; first | (go_simp; done) | (go_simp; with_reducible rfl))
          try simp only [List.getElem_toArray, List.getElem_cons_zero, List.getElem_cons_succ, Act.put, List.setIfInBounds_toArray, List.set_cons_zero, List.set_cons_succ]
          refine wpAnyH_take (i := 2) (v := ?_) rfl (by kernel_rfl) (by kernel_rfl) (by kernel_rfl) (fun _ _ _ h => h) (Or.inl ⟨by kernel_rfl, ?_⟩) (HCS.out _ HK.out) ?_
          rotate_left
          · (intro wq hSw; (try dsimp only at hSw); first | (go_simp; done) | (go_simp; with_reducible rfl))
          try simp only [List.getElem_toArray, List.getElem_cons_zero, List.getElem_cons_succ, Act.put, List.setIfInBounds_toArray, List.set_cons_zero, List.set_cons_succ]
          refine wpAnyH_take (i := 3) (v := ?_) rfl (by kernel_rfl) (by kernel_rfl) (by kernel_rfl) (fun _ _ _ h => h) (Or.inl ⟨by kernel_rfl, ?_⟩) (HCS.out _ HK.out) ?_
          rotate_left
          · (intro wq _; first | (go_simp; done) | (go_simp; with_reducible rfl))
          try simp only [List.getElem_toArray, List.getElem_cons_zero, List.getElem_cons_succ, Act.put, List.setIfInBounds_toArray, List.set_cons_zero, List.set_cons_succ]
          refine wpAnyH_take (i := 4) (v := ?_) rfl (by kernel_rfl) (by kernel_rfl) (by kernel_rfl) (fun _ _ _ h => h) (Or.inl ⟨by kernel_rfl, ?_⟩) (HCS.out _ HK.out) ?_
          rotate_left
          · (intro wq hSw; (try dsimp only at hSw); first | (go_simp; done) | (go_simp; with_reducible rfl))
          try simp only [List.getElem_toArray, List.getElem_cons_zero, List.getElem_cons_succ, Act.put, List.setIfInBounds_toArray, List.set_cons_zero, List.set_cons_succ]
          refine wpAnyH_take (i := 5) (v := ?_) rfl (by kernel_rfl) (by kernel_rfl) (by kernel_rfl) (fun _ _ _ h => h) (Or.inl ⟨by kernel_rfl, ?_⟩) (HCS.out _ HK.out) ?_
          rotate_left
          · (intro wq _; first | (go_simp; done) | (go_simp; with_reducible rfl))
          try simp only [List.getElem_toArray, List.getElem_cons_zero, List.getElem_cons_succ, Act.put, List.setIfInBounds_toArray, List.set_cons_zero, List.set_cons_succ]
          refine wpAnyH_take (i := 6) (v := ?_) rfl (by kernel_rfl) (by kernel_rfl) (by kernel_rfl) (fun _ _ _ h => h) (Or.inl ⟨by kernel_rfl, ?_⟩) (HCS.out _ HK.out) ?_
          rotate_left
          · (intro wq hSw; (try dsimp only at hSw); first | (go_simp; done) | (go_simp; with_reducible rfl))
          try simp only [List.getElem_toArray, List.getElem_cons_zero, List.getElem_cons_succ, Act.put, List.setIfInBounds_toArray, List.set_cons_zero, List.set_cons_succ]
          refine wpAnyH_take (i := 7) (v := ?_) rfl (by kernel_rfl) (by kernel_rfl) (by kernel_rfl) (fun _ _ _ h => h) (Or.inl ⟨by kernel_rfl, ?_⟩) (HCS.out _ HK.out) ?_
          rotate_left
          · (intro wq _; first | (go_simp; done) | (go_simp; with_reducible rfl))
          try simp only [List.getElem_toArray, List.getElem_cons_zero, List.getElem_cons_succ, Act.put, List.setIfInBounds_toArray, List.set_cons_zero, List.set_cons_succ]
          refine wpAnyH_take (i := 8) (v := ?_) rfl (by kernel_rfl) (by kernel_rfl) (by kernel_rfl) (fun _ _ _ h => h) (Or.inl ⟨by kernel_rfl, ?_⟩) (HCS.out _ HK.out) ?_
          rotate_left
          · (intro wq hSw; (try dsimp only at hSw); first | (go_simp; done) | (go_simp; with_reducible rfl))
          try simp only [List.getElem_toArray, List.getElem_cons_zero, List.getElem_cons_succ, Act.put, List.setIfInBounds_toArray, List.set_cons_zero, List.set_cons_succ]
          refine wpAnyH_take (i := 9) (v := ?_) rfl (by kernel_rfl) (by kernel_rfl) (by kernel_rfl) (fun _ _ _ h => h) (Or.inl ⟨by kernel_rfl, ?_⟩) (HCS.out _ HK.out) ?_
          rotate_left
          · (intro wq _; first | (go_simp; done) | (go_simp; with_reducible rfl))
          try simp only [List.getElem_toArray, List.getElem_cons_zero, List.getElem_cons_succ, Act.put, List.setIfInBounds_toArray, List.set_cons_zero, List.set_cons_succ]
          all_goals (
           first
            | refine wpAnyH_ready (rs := [10]) (by decide +kernel) (by simp) ?_
           repeat' (first | exact AllReadyH.nil | (refine AllReadyH.cons rfl (fun K hK => ?_) ?_)))
          all_goals (
           first
            | (go_simp
               first
                | (have hx := Ext.alloc wc (.cells #[.int .i64 5, .string (bs p0), .string (bs p1), .slice none 0 0] 52)
                   have hbn := heap_alloc_new wc (.cells #[.int .i64 5, .string (bs p0), .string (bs p1), .slice none 0 0] 52)
                   refine hK.out _ (wc.alloc (.cells #[.int .i64 5, .string (bs p0), .string (bs p1), .slice none 0 0] 52)) (HCS.out _ (HK.out.trans hx)) (fun _ => ?_)
                   clear hK K
                   replace HK := Lib.hid (HK.out.trans hx)
                   obtain ⟨G0, hB⟩ : ∃ x, x = wc.heap.size := ⟨_, rfl⟩
                   rw [← hB] at hbn ⊢
                   have hops : OpsL (wc.alloc (.cells #[.int .i64 5, .string (bs p0), .string (bs p1), .slice none 0 0] 52)) (some ⟨G0, 0, none⟩) [(⟨5, p0, p1, []⟩, ⟨none, 0⟩)] := ops_blk hbn (by
                    intro z hz
                    rw [List.mem_singleton.1 hz]
                    exact Or.inl rfl)
                   have HOP := Lib.hid hops
                   clear hbn hB hx hops
                   generalize wc.alloc (.cells #[.int .i64 5, .string (bs p0), .string (bs p1), .slice none 0 0] 52) = wc at *
                   try simp only [List.getElem_toArray, List.getElem_cons_zero, List.getElem_cons_succ, Act.put, List.setIfInBounds_toArray, List.set_cons_zero, List.set_cons_succ])))
          all_goals (
           first
            | refine wpAnyH_ready (rs := [11]) (by decide +kernel) (by simp) ?_
           repeat' (first | exact AllReadyH.nil | (refine AllReadyH.cons rfl (fun K hK => ?_) ?_)))
          all_goals (
           first
            | (go_simp
               first
                | (go_at_call 24
                   refine ((HS0.out.ext HK.out).ren HLW.out HE.out HOP.out (by omega) (by omega)).mono ?_
                   rintro E wn ⟨z, F', off', rfl, ho', hs, X7, hk7⟩
                   have hsn : (wn.cell? ⟨B8, 3, none⟩ = some (.slice (some ⟨ga, oa, none⟩) np qc)) ∧ wn.cell? ⟨ga, oa, none⟩ = some (.string (bs p0)) ∧ wn.cell? ⟨ga, oa + 1, none⟩ = some (.string (bs p1)) := ⟨blk_cell (keepP_act hk7 (HK.out.heap HB8.out)) 3 _ rfl, hs.from.cell HSW0.out, hs.from.cell HSW1.out⟩
                   have HS7 := Lib.hid hs; have HOF := Lib.hid ho'
                   clear hs ho' hk7
                   go_wp2_with fail
                   refine hK.out _ _ hsn (fun _ => ?_)
                   clear hK K hsn
                   obtain ⟨wc, rfl⟩ : ∃ x : World, x = wn := ⟨_, rfl⟩
                   try simp only [List.getElem_toArray, List.getElem_cons_zero, List.getElem_cons_succ, Act.put, List.setIfInBounds_toArray, List.set_cons_zero, List.set_cons_succ])))
          all_goals (
           refine wpAnyH_done (by kernel_rfl) ?_ _
           refine NoPanic.normal ?_
           go_wp2_with fail
           have hof7 := HOF.out
           go_meet
           exact ⟨N + 2, _, vb, _, _, L, _, pc, 0, rfl, by rw [HN.out], rfl, rfl, rfl, by omega, by omega, by omega, by rw [← HN.out]; exact hpc, Lib.hid (HS7.out), Lib.hid (HPL.out)⟩)
        · have hd1 : decide ((1 : Int) < (np : Int)) = false := by simp; omega
          go_wp2_with fail
          go_meet
          exact ⟨N, off, vb, _, _, L, _, pc, 0, rfl, by rw [HN.out], rfl, rfl, rfl, by omega, by omega, by omega, by rw [← HN.out]; exact hpc, Lib.hid (HS0.out), Lib.hid (HPL.out)⟩
     by_cases h7 : kd = 7
     · as_aux_lemma =>
        subst h7
        have hop := HS0.out.open HLW.out HE.out
        have HOP := Lib.hid hop; clear hop
        go_wp2_with (first
         | (go_at_call 11; refine HOP.out.mono ?_; rintro e w7 ⟨vb', rfl, hs, _⟩; have HS6 := Lib.hid hs; clear hs)
         | (go_at_call 25; refine (HS6.out.reset HLW.out hNl).mono ?_; rintro e w8 ⟨rfl, hs⟩; have HS7 := Lib.hid hs; clear hs))
        go_meet
        exact ⟨N, 2, _, file08, ⟨[], P.next⟩, [], none, 0, 0, rfl, rfl, rfl, rfl, rfl, by omega, by omega, by omega, Nat.le_refl _, Lib.hid (HS7.out), Lib.hid (rfl)⟩
     by_cases h0 : kd = 0
     · as_aux_lemma =>
        subst h0
        have d3 := blk_cell HB8.out 3 (.slice qa np qc) rfl
        go_upto_block 3 with fail
        have hx6 := Ext.alloc w5 (.cells #[.int .i64 P.next, .string ⟨#[117]⟩, .slice none 0 0, .bool false] 36)
        have hb6 := heap_alloc_new w5 (.cells #[.int .i64 P.next, .string ⟨#[117]⟩, .slice none 0 0, .bool false] 36)
        generalize w5.alloc (.cells #[.int .i64 P.next, .string ⟨#[117]⟩, .slice none 0 0, .bool false] 36) = w6 at hx6 hb6 ⊢
        obtain ⟨BP, hBP⟩ : ∃ B, B = w5.heap.size := ⟨_, rfl⟩
        rw [← hBP] at hb6 ⊢
        have d3 := hx6.cell d3
        have HBP := Lib.hid hBP
        obtain ⟨z0, hz0⟩ : ∃ z : Int, z = if 8 < np then 22 else if 32 ≤ n then 7 else 0 := ⟨_, rfl⟩
        have HZ0 := Lib.hid hz0; have HX6 := Lib.hid hx6; have HB6 := Lib.hid hb6
        clear hx6 hb6 hz0 hBP
        go_cut [10] from 57 to 65 (fun z wx => z = .int .i64 z0 ∧ Hid (wx = w6))
        case first =>
         by_cases hc1 : 8 < np
         · have e1 : decide ((8 : Int) < (np : Int)) = true := by simp; omega
           have HZ := Lib.hid (HZ0.out.trans (if_pos hc1))
           clear hc1
           go_wp2_with fail
           go_meet
           exact ⟨by rw [HZ.out], Lib.hid rfl⟩
         have e1 : decide ((8 : Int) < (np : Int)) = false := by simp; omega
         by_cases hc2 : 32 ≤ n
         · have e2 : decide ((32 : Int) ≤ (n : Int)) = true := by simp; omega
           have HZ := Lib.hid (HZ0.out.trans ((if_neg hc1).trans (if_pos hc2)))
           clear hc1 hc2
           go_wp2_with fail
           go_meet
           exact ⟨by rw [HZ.out], Lib.hid rfl⟩
         · have e2 : decide ((32 : Int) ≤ (n : Int)) = false := by simp; omega
           have HZ := Lib.hid (HZ0.out.trans ((if_neg hc1).trans (if_neg hc2)))
           clear hc1 hc2
           go_wp2_with fail
           go_meet
           exact ⟨by rw [HZ.out], Lib.hid rfl⟩
        case rest =>
         obtain ⟨rfl, hw⟩ := hcut
         rw [hw.out]
         clear hw
         obtain ⟨B6, hB6⟩ : ∃ B, B = w6.heap.size := ⟨_, rfl⟩
         have HLT : Hid (BP < B6) := Lib.hid (by rw [hB6]; exact (Array.getElem?_eq_some_iff.1 HB6.out).1)
         have HQB := Lib.hid hB6
         clear hB6
         go_wp2_with fail
         go_loopw [69, 10] (fun i wt wr => ∃ (j : Nat) (z : Int) (M : List Int) (ra : Option Addr) (ml rc : Nat), i = .int .i64 j ∧ wt = .int .i64 z ∧ j ≤ np ∧ ml ≤ j ∧ Hid (ml = M.length) ∧ Hid (HoldZ F ps z0 j z M) ∧ Hid (wr.heap[BP]? = some (.cells #[.int .i64 P.next, .string ⟨#[117]⟩, .slice ra ml rc, .bool false] 36 (0, 0))) ∧ Hid (OwnIs wr B6 ra rc M) ∧ Hid (Ext w5 wr) ∧ Hid (B6 ≤ wr.heap.size)) (fun i _ _ => np - (RowKit.intOf i).toNat)
         case atStart => exact ⟨0, z0, [], none, 0, 0, rfl, rfl, Nat.zero_le _, Nat.le_refl _, Lib.hid rfl, Lib.hid (by by_cases h : z0 = 0; exact Or.inr ⟨h, h, fun _ => rfl⟩; exact Or.inl ⟨h, rfl⟩), HB6, Lib.hid (World.ownsRow_nil _ _ _ _), HX6, Lib.hid (Nat.le_of_eq HQB.out)⟩
         case round =>
          clear HB6 HX6 d3
          obtain ⟨j, z, M, ra, ml, rc, rfl, rfl, hj, hml, HML, HZ, HB, HO, HXW, HSZ⟩ := hrel
          by_cases hjn : j < np
          · have hjL : j < ps.length := by have := HNP.out; omega
            have HJL := Lib.hid hjL
            have hstr := HST.out.ext (HS0.out.from.trans HXW.out)
            rcases hstr with h | ⟨gs, os, rfl, _, hc⟩
            · rw [h] at hjL; simp at hjL
            have s0 := hc j hjL
            have hid := (HS0.out.ext HXW.out).id HLW.out HE.out (by omega) (ps.getD j [])
            obtain ⟨hi, hhi⟩ : ∃ x, x = (holdF F.m (ps.getD j [])).1 := ⟨_, rfl⟩
            obtain ⟨hz, hhz⟩ : ∃ x, x = (holdF F.m (ps.getD j [])).2 := ⟨_, rfl⟩
            rw [← hhi, ← hhz] at hid
            have HID := Lib.hid hid; have HHI := Lib.hid hhi; have HHZ := Lib.hid hhz
            have HGZ : Hid (z = 0 → HoldZ F ps z0 (j + 1) hz (M ++ [hi])) := Lib.hid fun h0 => by rw [hhi, hhz]; exact HZ.out.go h0 hjL
            clear hid hhi hhz hc hjL
            generalize ps.getD j [] = s at s0 HID HHI HHZ
            by_cases hz0 : z = 0
            · have HG2 := Lib.hid (HGZ.out hz0)
              subst hz0
              go_upto_region 28 with (go_at_call 14; refine HID.out.mono ?_; rintro e w7 ⟨rfl, hx⟩; have HX7 := Lib.hid hx; clear hx)
              have hb7 := HX7.out.heap HB.out
              have e2 := blk_cell hb7 2 (.slice ra ml rc) rfl
              clear s0 hb7
              go_wp2_with (at_builtin; refine Hid.out ?_)
              refine Lib.hid ?_
              have hxb := Ext.alloc w7 (.cells #[.int .i64 hi] 3)
              have hbb := heap_alloc_new w7 (.cells #[.int .i64 hi] 3)
              generalize w7.alloc (.cells #[.int .i64 hi] 3) = wb at hxb hbb ⊢
              generalize w7.heap.size = Bb at hbb ⊢
              have hxb2 := HX7.out.trans hxb
              have ho1 : wb.ownsRow B6 3 1 (.slice ra ml rc) ml (intV M) := by rw [HML.out]; exact ownsRow_ext HO.out hxb2
              have hbB := hxb2.heap HB.out
              refine wpList_append_any rfl _ _ 34 3 (.int .i64 0) 1 8 rfl Tryz.underlying34 info_intL rfl (by decide) B6 ra ml rc (intV M) rfl ho1 (some ⟨Bb, 0, none⟩) 1 1 [.int .i64 hi] rfl rfl (run_blk hbb) (intV_one [hi]) (by omega) (by decide) (Nat.le_trans HSZ.out hxb2.size) (ml + 1) (by omega) ?_
              intro a8 c8 w8 hown hkp hbl
              have ho8 : OwnIs w8 B6 a8 c8 (M ++ [hi]) := by
               unfold OwnIs
               rw [List.length_append, ← HML.out]
               unfold intV at hown ⊢
               rw [List.map_append]
               exact hown
              have hb8 := (Keep.of_below hbl).heap HLT.out hbB
              have f2 := blk_free hb8 2
              have e2 := blk_cell hb8 2 (.slice ra ml rc) rfl
              have hx8 : Ext w5 w8 := ((Keep.of_ext (S := fun g => g < w5.heap.size) (HXW.out.trans hxb2)).andThen (Keep.of_below hbl) (fun g hg _ => by have := HBP.out; have := HLT.out; show g < B6; omega)).ext_lt
              have hs8 : B6 ≤ w8.heap.size := Nat.le_trans (Nat.le_trans HSZ.out hxb2.size) (Keep.of_below hbl).size
              have hb9 : (w8.setCell ⟨BP, 2, none⟩ (.slice a8 (ml + 1) c8)).heap[BP]? = some (.cells #[.int .i64 P.next, .string ⟨#[117]⟩, .slice a8 (ml + 1) c8, .bool false] 36 (0, 0)) := setCell_row hb8 _
              have hbut := (But.refl BP w8).setCell 2 (.slice a8 (ml + 1) c8)
              have hx9 := But.ext hx8 hbut (by have := HBP.out; omega)
              have ho9 : OwnIs (w8.setCell ⟨BP, 2, none⟩ (.slice a8 (ml + 1) c8)) B6 a8 c8 (M ++ [hi]) := ownsRow_keep ho8 (Keep.of_but hbut) fun g cs hg hgc hlt => by
               have := HLT.out
               omega
              have HB9 := Lib.hid hb9; have HX9 := Lib.hid hx9; have HO9 := Lib.hid ho9; have HS9 := Lib.hid (Nat.le_trans hs8 hbut.size)
              clear hown hkp hbl ho8 hb8 hx8 hs8 hb9 hbut hx9 ho9 hxb hbb hxb2 ho1 hbB
              go_wp2_with fail
              go_roundw
              case rel => exact ⟨j + 1, hz, M ++ [hi], a8, ml + 1, c8, by go_num, rfl, by omega, by omega, Lib.hid (by rw [List.length_append, HML.out]; rfl), HG2, HB9, HO9, HX9, HS9⟩
              case measure => simp [RowKit.intOf]; omega
            · have hzb : (z == 0) = false := by simpa using hz0
              have HSP : Hid (HoldZ F ps z0 (j + 1) z M) := Lib.hid (HZ.out.stop hz0 HJL.out)
              clear hz0
              go_wp2_with (go_at_call 14; refine HID.out.mono ?_; rintro e w7 ⟨rfl, hx⟩; have HX7 := Lib.hid hx; clear hx)
              go_roundw
              case rel => exact ⟨j + 1, z, M, ra, ml, rc, by go_num, rfl, by omega, by omega, HML, HSP, Lib.hid (HX7.out.heap HB.out), Lib.hid (ownsRow_ext HO.out HX7.out), Lib.hid (HXW.out.trans HX7.out), Lib.hid (Nat.le_trans HSZ.out HX7.out.size)⟩
              case measure => simp [RowKit.intOf]; omega
          · obtain rfl : j = np := by omega
            have hzz := HZ.out
            rw [HNP.out] at hzz
            have hpl : P.list.length = n := by rw [HPL.out, List.length_map, HN.out]
            have hdn := hzz.done (P := P) (by rw [HZ0.out, hpl, HNP.out])
            have hsp := HS0.out.spawn HLW.out HE.out HXW.out (by have := HBP.out; have := HLT.out; omega) HO.out ps qc HST.out (by have := HNP.out; omega) (by omega) ⟨P.next, [117], M, false⟩ rfl
            rw [← HNP.out] at hsp
            have d3 := blk_cell (HXW.out.heap HB8.out) 3 (.slice qa j qc) rfl
            clear hzz hpl hjn
            by_cases hz0 : z = 0
            · obtain ⟨hd1, hd2⟩ := hdn.2 hz0
              rw [hd1, hd2] at hsp
              have HSP := Lib.hid hsp
              have hnx := HS0.out.good.1.next
              have hn1 : (P.next != 0) = true := by simp; omega
              have hn2 : (P.next != P.next) = false := by simp
              have hn3 := HS0.out.good.2
              have HN3 := Lib.hid hn3; have HN1 := Lib.hid hnx
              subst hz0
              clear hdn hd1 hd2 hsp hnx hn3
              go_upto_region 33 with (go_at_call 15; refine HSP.out.mono ?_; rintro e w7 ⟨rfl, hs, X7, hk7⟩; have HS7 := Lib.hid hs; have hb7 := Keep.heap hk7 (Or.inr (Or.inr ⟨_, _, _, HB.out, by decide⟩)) HB.out; have HB7 := Lib.hid hb7; clear hs hk7 hb7)
              have HCS : Hid (∀ W, Ext w7 W → (W.cell? ⟨BP, 0, none⟩ = some (.int .i64 P.next)) ∧ W.cell? ⟨BP, 1, none⟩ = some (.string ⟨#[117]⟩) ∧ W.cell? ⟨BP, 2, none⟩ = some (.slice ra ml rc) ∧ W.cell? ⟨BP, 3, none⟩ = some (.bool false)) := Lib.hid fun W k => ⟨blk_cell (k.heap HB7.out) 0 _ rfl, blk_cell (k.heap HB7.out) 1 _ rfl, blk_cell (k.heap HB7.out) 2 _ rfl, blk_cell (k.heap HB7.out) 3 _ rfl⟩
              have HK := Lib.hid (Ext.refl w7).drew
              have HRU := Lib.hid HS7.out.toQ.plr
              clear d3
              refine wp_region_noPanic ?_
              refine wp_region_held_drew (S := (fun W => (W.cell? ⟨BP, 0, none⟩ = some (.int .i64 P.next)) ∧ W.cell? ⟨BP, 1, none⟩ = some (.string ⟨#[117]⟩) ∧ W.cell? ⟨BP, 2, none⟩ = some (.slice ra ml rc) ∧ W.cell? ⟨BP, 3, none⟩ = some (.bool false))) (by kernel_rfl) (HCS.out _ HK.out) (fun hHeld => ?_)
              clear hHeld
              generalize w7.drew = wc at HK ⊢
              refine wpAnyH_take (i := 1) (v := ?_) rfl (by kernel_rfl) (by kernel_rfl) (by kernel_rfl) (fun _ _ _ h => h) (Or.inl ⟨by kernel_rfl, ?_⟩) (HCS.out _ HK.out) ?_
              rotate_left
              · (intro wq _; first | (go_simp; done) | (go_simp; with_reducible rfl))
              try simp only [List.getElem_toArray, List.getElem_cons_zero, List.getElem_cons_succ, Act.put, List.setIfInBounds_toArray, List.set_cons_zero, List.set_cons_succ]
              refine wpAnyH_take (i := 3) (v := ?_) rfl (by kernel_rfl) (by kernel_rfl) (by kernel_rfl) (fun _ _ _ h => h) (Or.inl ⟨by kernel_rfl, ?_⟩) (HCS.out _ HK.out) ?_
              rotate_left
              · (intro wq hSw; (try dsimp only at hSw); first | (go_simp; done) | (go_simp; with_reducible rfl))
              try simp only [List.getElem_toArray, List.getElem_cons_zero, List.getElem_cons_succ, Act.put, List.setIfInBounds_toArray, List.set_cons_zero, List.set_cons_succ]
              all_goals (
               first
                | refine wpAnyH_ready (rs := [0, 4]) (by decide +kernel) (by simp) ?_
               repeat' (first | exact AllReadyH.nil | (refine AllReadyH.cons rfl (fun K hK => ?_) ?_)))
              all_goals (
               first
                | (go_simp
                   first
                    | (have hx := Ext.alloc wc (.cells #[] 36)
                       have hbn := heap_alloc_new wc (.cells #[] 36)
                       have hle := HK.out.size
                       refine hK.out _ (wc.alloc (.cells #[] 36)) (HCS.out _ (HK.out.trans hx)) (fun _ => ?_)
                       clear hK K
                       try replace HG0 := Lib.hid (hx.heap HG0.out)
                       try replace HG := Lib.hid (hx.heap HG.out)
                       try replace HO := Lib.hid (ownsRow_ext HO.out hx)
                       replace HK := Lib.hid (HK.out.trans hx)
                       obtain ⟨G0, hB⟩ : ∃ x, x = wc.heap.size := ⟨_, rfl⟩
                       rw [← hB] at hbn hle ⊢
                       have HG0 := Lib.hid hbn
                       have LHG0 := Lib.hid hle
                       clear hbn hB hle hx
                       generalize wc.alloc (.cells #[] 36) = wc at *
                       try simp only [List.getElem_toArray, List.getElem_cons_zero, List.getElem_cons_succ, Act.put, List.setIfInBounds_toArray, List.set_cons_zero, List.set_cons_succ])
                    | (have hx := Ext.alloc wc (.cells #[.int .i64 P.next, .string ⟨#[117]⟩, .slice ra ml rc, .bool false] 36)
                       have hbn := heap_alloc_new wc (.cells #[.int .i64 P.next, .string ⟨#[117]⟩, .slice ra ml rc, .bool false] 36)
                       have hle := HK.out.size
                       refine hK.out _ (wc.alloc (.cells #[.int .i64 P.next, .string ⟨#[117]⟩, .slice ra ml rc, .bool false] 36)) (HCS.out _ (HK.out.trans hx)) (fun _ => ?_)
                       clear hK K
                       try replace HG0 := Lib.hid (hx.heap HG0.out)
                       try replace HG := Lib.hid (hx.heap HG.out)
                       try replace HO := Lib.hid (ownsRow_ext HO.out hx)
                       replace HK := Lib.hid (HK.out.trans hx)
                       obtain ⟨G, hB⟩ : ∃ x, x = wc.heap.size := ⟨_, rfl⟩
                       rw [← hB] at hbn hle ⊢
                       have HG := Lib.hid hbn
                       have LHG := Lib.hid hle
                       clear hbn hB hle hx
                       generalize wc.alloc (.cells #[.int .i64 P.next, .string ⟨#[117]⟩, .slice ra ml rc, .bool false] 36) = wc at *
                       try simp only [List.getElem_toArray, List.getElem_cons_zero, List.getElem_cons_succ, Act.put, List.setIfInBounds_toArray, List.set_cons_zero, List.set_cons_succ])))
              all_goals (
               first
                | refine wpAnyH_ready (rs := [2, 4]) (by decide +kernel) (by simp) ?_
                | refine wpAnyH_ready (rs := [0]) (by decide +kernel) (by simp) ?_
               repeat' (first | exact AllReadyH.nil | (refine AllReadyH.cons rfl (fun K hK => ?_) ?_)))
              all_goals (
               first
                | (refine step_append_any (by rfl) _ _ 28 36 (.agg #[.int .i64 0, .string ⟨#[]⟩, .slice none 0 0, .bool false]) 4 56 (by rfl) Tryz.underlying28 info_pl08 rfl (by decide) w7.heap.size (some ⟨G0, 0, none⟩) 0 0 [] (by simp [Act.eval]) (row_zero HG0.out LHG0.out) pa n pc (L.flatMap plV) (by simp [Act.eval]) (by rw [pls_len, HN.out]) (RunM.ext HRU.out HK.out) (plV_one L) (by omega) (by decide) HK.out.size n (by omega) ?_
                   intro ad1 cap1 wn hown hkp hbl
                   try have hgn : wn.heap[G]? = some (.cells #[.int .i64 P.next, .string ⟨#[117]⟩, .slice ra ml rc, .bool false] 36 (0, 0)) := hkp.heap (by intro e; have e := Option.some.inj e; subst e; have h := HG.out; rw [HG0.out] at h; cases h) HG.out
                   try replace HG := Lib.hid hgn
                   replace HK := Lib.hid (ext_below8 HK.out hbl)
                   have HO := Lib.hid hown
                   try clear hgn
                   clear hown hkp hbl HG0 LHG0
                   refine hK.out _ _ (HCS.out _ HK.out) (fun _ => ?_)
                   clear hK K
                   rename_i wo
                   try clear wo
                   obtain ⟨wc, rfl⟩ : ∃ x : World, x = wn := ⟨_, rfl⟩
                   try simp only [List.getElem_toArray, List.getElem_cons_zero, List.getElem_cons_succ, Act.put, List.setIfInBounds_toArray, List.set_cons_zero, List.set_cons_succ])
                | (go_simp
                   first
                    | (have hx := Ext.alloc wc (.cells #[] 36)
                       have hbn := heap_alloc_new wc (.cells #[] 36)
                       have hle := HK.out.size
                       refine hK.out _ (wc.alloc (.cells #[] 36)) (HCS.out _ (HK.out.trans hx)) (fun _ => ?_)
                       clear hK K
                       try replace HG0 := Lib.hid (hx.heap HG0.out)
                       try replace HG := Lib.hid (hx.heap HG.out)
                       try replace HO := Lib.hid (ownsRow_ext HO.out hx)
                       replace HK := Lib.hid (HK.out.trans hx)
                       obtain ⟨G0, hB⟩ : ∃ x, x = wc.heap.size := ⟨_, rfl⟩
                       rw [← hB] at hbn hle ⊢
                       have HG0 := Lib.hid hbn
                       have LHG0 := Lib.hid hle
                       clear hbn hB hle hx
                       generalize wc.alloc (.cells #[] 36) = wc at *
                       try simp only [List.getElem_toArray, List.getElem_cons_zero, List.getElem_cons_succ, Act.put, List.setIfInBounds_toArray, List.set_cons_zero, List.set_cons_succ])
                    | (have hx := Ext.alloc wc (.cells #[.int .i64 P.next, .string ⟨#[117]⟩, .slice ra ml rc, .bool false] 36)
                       have hbn := heap_alloc_new wc (.cells #[.int .i64 P.next, .string ⟨#[117]⟩, .slice ra ml rc, .bool false] 36)
                       have hle := HK.out.size
                       refine hK.out _ (wc.alloc (.cells #[.int .i64 P.next, .string ⟨#[117]⟩, .slice ra ml rc, .bool false] 36)) (HCS.out _ (HK.out.trans hx)) (fun _ => ?_)
                       clear hK K
                       try replace HG0 := Lib.hid (hx.heap HG0.out)
                       try replace HG := Lib.hid (hx.heap HG.out)
                       try replace HO := Lib.hid (ownsRow_ext HO.out hx)
                       replace HK := Lib.hid (HK.out.trans hx)
                       obtain ⟨G, hB⟩ : ∃ x, x = wc.heap.size := ⟨_, rfl⟩
                       rw [← hB] at hbn hle ⊢
                       have HG := Lib.hid hbn
                       have LHG := Lib.hid hle
                       clear hbn hB hle hx
                       generalize wc.alloc (.cells #[.int .i64 P.next, .string ⟨#[117]⟩, .slice ra ml rc, .bool false] 36) = wc at *
                       try simp only [List.getElem_toArray, List.getElem_cons_zero, List.getElem_cons_succ, Act.put, List.setIfInBounds_toArray, List.set_cons_zero, List.set_cons_succ])))
              all_goals (
               first
                | refine wpAnyH_ready (rs := [4]) (by decide +kernel) (by simp) ?_
                | refine wpAnyH_ready (rs := [2]) (by decide +kernel) (by simp) ?_
               repeat' (first | exact AllReadyH.nil | (refine AllReadyH.cons rfl (fun K hK => ?_) ?_)))
              all_goals (
               first
                | (refine step_append_any (by rfl) _ _ 28 36 (.agg #[.int .i64 0, .string ⟨#[]⟩, .slice none 0 0, .bool false]) 4 56 (by rfl) Tryz.underlying28 info_pl08 rfl (by decide) w7.heap.size (some ⟨G0, 0, none⟩) 0 0 [] (by simp [Act.eval]) (row_zero HG0.out LHG0.out) pa n pc (L.flatMap plV) (by simp [Act.eval]) (by rw [pls_len, HN.out]) (RunM.ext HRU.out HK.out) (plV_one L) (by omega) (by decide) HK.out.size n (by omega) ?_
                   intro ad1 cap1 wn hown hkp hbl
                   try have hgn : wn.heap[G]? = some (.cells #[.int .i64 P.next, .string ⟨#[117]⟩, .slice ra ml rc, .bool false] 36 (0, 0)) := hkp.heap (by intro e; have e := Option.some.inj e; subst e; have h := HG.out; rw [HG0.out] at h; cases h) HG.out
                   try replace HG := Lib.hid hgn
                   replace HK := Lib.hid (ext_below8 HK.out hbl)
                   have HO := Lib.hid hown
                   try clear hgn
                   clear hown hkp hbl HG0 LHG0
                   refine hK.out _ _ (HCS.out _ HK.out) (fun _ => ?_)
                   clear hK K
                   rename_i wo
                   try clear wo
                   obtain ⟨wc, rfl⟩ : ∃ x : World, x = wn := ⟨_, rfl⟩
                   try simp only [List.getElem_toArray, List.getElem_cons_zero, List.getElem_cons_succ, Act.put, List.setIfInBounds_toArray, List.set_cons_zero, List.set_cons_succ])
                | (go_simp
                   first
                    | (have hx := Ext.alloc wc (.cells #[.int .i64 P.next, .string ⟨#[117]⟩, .slice ra ml rc, .bool false] 36)
                       have hbn := heap_alloc_new wc (.cells #[.int .i64 P.next, .string ⟨#[117]⟩, .slice ra ml rc, .bool false] 36)
                       have hle := HK.out.size
                       refine hK.out _ (wc.alloc (.cells #[.int .i64 P.next, .string ⟨#[117]⟩, .slice ra ml rc, .bool false] 36)) (HCS.out _ (HK.out.trans hx)) (fun _ => ?_)
                       clear hK K
                       try replace HG0 := Lib.hid (hx.heap HG0.out)
                       try replace HG := Lib.hid (hx.heap HG.out)
                       try replace HO := Lib.hid (ownsRow_ext HO.out hx)
                       replace HK := Lib.hid (HK.out.trans hx)
                       obtain ⟨G, hB⟩ : ∃ x, x = wc.heap.size := ⟨_, rfl⟩
                       rw [← hB] at hbn hle ⊢
                       have HG := Lib.hid hbn
                       have LHG := Lib.hid hle
                       clear hbn hB hle hx
                       generalize wc.alloc (.cells #[.int .i64 P.next, .string ⟨#[117]⟩, .slice ra ml rc, .bool false] 36) = wc at *
                       try simp only [List.getElem_toArray, List.getElem_cons_zero, List.getElem_cons_succ, Act.put, List.setIfInBounds_toArray, List.set_cons_zero, List.set_cons_succ])))
              all_goals (
               first
                | refine wpAnyH_ready (rs := [5]) (by decide +kernel) (by simp) ?_
               repeat' (first | exact AllReadyH.nil | (refine AllReadyH.cons rfl (fun K hK => ?_) ?_)))
              all_goals (
               first
                | (refine step_append_any (by rfl) _ _ 28 36 (.agg #[.int .i64 0, .string ⟨#[]⟩, .slice none 0 0, .bool false]) 4 56 (by rfl) Tryz.underlying28 info_pl08 rfl (by decide) w7.heap.size ad1 n cap1 ([] ++ L.flatMap plV) (by simp [Act.eval]) HO.out (some ⟨G, 0, none⟩) 1 1 [.int .i64 P.next, .string ⟨#[117]⟩, .slice ra ml rc, .bool false] (by simp [Act.eval]) (by rfl) (run_blk HG.out) (by intro u hu; simp only [List.mem_cons, List.not_mem_nil, or_false] at hu; rcases hu with rfl | rfl | rfl | rfl <;> rfl) (by omega) (by decide) HK.out.size (n + 1) rfl ?_
                   intro ad2 cap2 wn hown hkp hbl
                   replace HK := Lib.hid (ext_below8 HK.out hbl)
                   have HO2 := Lib.hid hown
                   clear hown hkp hbl
                   refine hK.out _ _ (HCS.out _ HK.out) (fun _ => ?_)
                   clear hK K
                   obtain ⟨wc, rfl⟩ : ∃ x : World, x = wn := ⟨_, rfl⟩
                   try simp only [List.getElem_toArray, List.getElem_cons_zero, List.getElem_cons_succ, Act.put, List.setIfInBounds_toArray, List.set_cons_zero, List.set_cons_succ]
                   refine wpAnyH_take (i := 6) (v := ?_) rfl (by kernel_rfl) (by kernel_rfl) (by kernel_rfl) (fun _ _ _ h => h) (Or.inl ⟨by kernel_rfl, ?_⟩) (HCS.out _ HK.out) ?_
                   rotate_left
                   · (intro wq _; first | (go_simp; done) | (go_simp; with_reducible rfl))
                   try simp only [List.getElem_toArray, List.getElem_cons_zero, List.getElem_cons_succ, Act.put, List.setIfInBounds_toArray, List.set_cons_zero, List.set_cons_succ]))
              all_goals (
               refine wpAnyH_done (by kernel_rfl) ?_ _
               refine NoPanic.normal ?_
               have hq : ∃ L2, L2 = L ++ [((⟨P.next, [117], M, false⟩, (ra, rc)) : PlayD)] := ⟨_, rfl⟩
               have ho2 : _ ∧ _ := ⟨HO2.out, HK.out⟩
               have hll : (L ++ [((⟨P.next, [117], M, false⟩, (ra, rc)) : PlayD)]).length = n + 1 := by rw [List.length_append, HN.out]; rfl
               have hcc : (L ++ [((⟨P.next, [117], M, false⟩, (ra, rc)) : PlayD)]).length ≤ cap2 := by
                rw [hll]
                obtain ⟨a', c', hv, hc, _, _⟩ := run_of_row HO2.out
                cases hv
                exact hc
               have hqq := HS7.out.snoc (c' := cap2) HK.out (Nat.le_refl _) rfl (by
                have h := HO2.out
                rw [List.nil_append] at h
                have e : [((⟨P.next, [117], M, false⟩, (ra, rc)) : PlayD)].flatMap plV = [.int .i64 P.next, .string ⟨#[117]⟩, .slice ra ml rc, .bool false] := by rw [HML.out]; rfl
                rw [hll, List.flatMap_append, e]
                exact h)
               have HQ := Lib.hid hqq; have HCC := Lib.hid hcc
               clear hq ho2 hll hcc hqq
               go_wp2_with fail
               go_meet
               exact ⟨N + 20, off, vb, _, addP P ⟨P.next, [117], M, false⟩, L ++ [(⟨P.next, [117], M, false⟩, (ra, rc))], _, cap2, 0, rfl, by rw [List.length_append, HN.out]; rfl, by rw [IntWalk.wrap64_in _ (by have := HN3.out; have := HN1.out; constructor <;> omega)]; rfl, rfl, rfl, by omega, by omega, by omega, HCC.out, Lib.hid (HQ.out), Lib.hid (by show P.list ++ [_] = _; rw [HPL.out, List.map_append]; rfl)⟩)
            · obtain ⟨hd1, hd2⟩ := hdn.1 hz0
              rw [hd1, hd2] at hsp
              have HSP := Lib.hid hsp
              have hzb : (z == 0) = false := by simpa using hz0
              clear hdn hd1 hd2 hsp hz0
              go_wp2_with (go_at_call 15; refine HSP.out.mono ?_; rintro e w7 ⟨rfl, hs, X7, hk7⟩; have HS7 := Lib.hid hs.toQ; clear hs hk7)
              go_meet
              exact ⟨N + 20, off, vb, _, _, L, _, pc, z, rfl, by rw [HN.out], rfl, rfl, rfl, by omega, by omega, by omega, by rw [← HN.out]; exact hpc, Lib.hid (HS7.out), Lib.hid (HPL.out)⟩
     as_aux_lemma =>
      have hb0 : (kd == 0) = false := by simpa using h0
      have hb1 : (kd == 1) = false := by simpa using h1
      have hb2 : (kd == 2) = false := by simpa using h2
      have hb3 : (kd == 3) = false := by simpa using h3
      have hb4 : (kd == 4) = false := by simpa using h4
      have hb5 : (kd == 5) = false := by simpa using h5
      have hb6 : (kd == 6) = false := by simpa using h6
      have hb7 : (kd == 7) = false := by simpa using h7
      clear h0 h1 h2 h3 h4 h5 h6 h7
      go_wp2_with fail
      go_meet
      exact ⟨N, off, vb, _, _, L, _, pc, 0, rfl, by rw [HN.out], rfl, rfl, rfl, by omega, by omega, by omega, by rw [← HN.out]; exact hpc, Lib.hid (HS0.out), Lib.hid (HPL.out)⟩
    case rest =>
     as_aux_lemma =>
      obtain ⟨N2, off2, vb2, F2, P2, L2, pa2, pc2, z, rfl, rfl, rfl, rfl, rfl, hNl2, hN2, hof2, hpc2, HS2, HPL2⟩ := hcut
      have hag := HS2.out.agree HPL2.out pc2 (by omega)
      have HAG := Lib.hid hag; clear hag
      have hzz : (z != z) = false := by simp
      go_wp2_with (go_at_call 26; refine HAG.out.mono ?_; rintro e w12 ⟨rfl, hs⟩; have HS3 := Lib.hid hs; clear hs)
      go_roundw
      case rel => exact ⟨k + 1, N2, off2, vb2, F2, P2, L2, pa2, pc2, by go_num, rfl, rfl, rfl, by omega, by omega, by omega, by omega, hpc2, HS3, HPL2⟩
      case measure => simp [RowKit.intOf]; omega
  · go_wp2_with fail
    exact HFIN.out _ HS.out.from
end
omit [Low] in
theorem proc_plays (a : Option Addr) (c : Nat) (L : List ActD) (w : World) (hE : Env w) (hA : ActsL w a L) :
 Calls Tryz.prog 3 #[.slice a L.length c] w fun e w' => e = .returned (.bool true) ∧ Ext w w' :=
 @proc_playsW ⟨w.heap.size⟩ a c L w rfl (@EnvL.mk ⟨w.heap.size⟩ w hE (by obtain ⟨m, cs, hh, _⟩ := hE.word; exact (Array.getElem?_eq_some_iff.1 hh).1)) hA
end Go.Proofs.YtefpllpichhojaaGreatDoor
