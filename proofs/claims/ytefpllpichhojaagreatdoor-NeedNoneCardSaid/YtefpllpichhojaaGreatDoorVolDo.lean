/- vol's Do, where there is room. -/
import Derived.Test.YtefpllpichhojaaGreatDoorM1
import Derived.Test.YtefpllpichhojaaGreatDoorLogApp
import Derived.Test.YtefpllpichhojaaGreatDoorTreePack
namespace Go.Proofs.YtefpllpichhojaaGreatDoor
open Go.RowKit
variable [Low]
def doneB (l : List OpD) : By := 2 :: packOps l
noncomputable def putV (n : Nat) (V : VolD) (l : List OpD) : VolD := { V with T := (doT V.T l).1, L := appL V.L (doneB l), img := putI V.img (baseN n V.L.half + V.L.off) V.L.list.length V.L.epoch (doneB l) }
noncomputable def doV (n : Nat) (V : VolD) (l : List OpD) : VolD := sweptV (putV n V l)
omit [Low] in
theorem own_two (w : World) : OwnB (w.alloc (.cells #[.int .u8 2] 5)) w.heap.size (some ⟨w.heap.size, 0, none⟩) 1 [2] :=
 ⟨rfl, Or.inr ⟨w.heap.size, 1, #[.int .u8 2], rfl, Nat.le_refl _, heap_alloc_new w _, Nat.le_refl _, by decide, rfl, rfl⟩⟩
omit [Low] in
theorem volT_off : ∀ t ∈ logT, t ∉ [124] := by decide
section
variable {X : Nat → Prop} {w w' : World} {vb db kb n N tb lb hb mb : Nat} {A : Int → NodeA} {V : VolD}
theorem VolB.put {wc wn : World} {ub um M : Nat} {UA : Int → NodeA} {U : TreeD} {L' : LogD} {img' : Img} (h : VolB X w vb db kb n N tb lb hb mb A V) (hx : Ext w wc) (hk : KeepT logT wc wn) (hl : LogM wn lb db kb n img' L') (hM : N ≤ M)
 (hu : TreeM wc w.heap.size ub um M U UA) (hg : GoodT U) (hf : FitT U M) (hgl : GoodLog n img' L') :
 VolM X (wn.setCell ⟨vb, 0, none⟩ (.pointer (some ⟨ub, 0, none⟩))) vb db kb n M { V with T := U, L := L', img := img' } ∧ KeepY X w (wn.setCell ⟨vb, 0, none⟩ (.pointer (some ⟨ub, 0, none⟩))) := by
 have htop := hk.heap (hx.heap h.top) (by decide)
 have hks : KeepT [124] wn (wn.setCell ⟨vb, 0, none⟩ (.pointer (some ⟨ub, 0, none⟩))) := (KeepT.refl _ wn).set htop (by decide) 0 _ h.lows.1
 obtain ⟨es2, cl2, hmh⟩ := h.held.block
 have hhl := (Array.getElem?_eq_some_iff.1 hmh).1
 have hls : Low.low ≤ w.heap.size := by have := (Array.getElem?_eq_some_iff.1 h.top).1; have := h.lows.1; omega
 have hu' : TreeM wc Low.low ub um M U UA := ⟨hu.top, hu.map, hu.node, hu.blk, hu.kid, hu.mkb, hu.kbd, ⟨Nat.le_trans hls hu.low.1, Nat.le_trans hls hu.low.2.1, fun i hi => ⟨Nat.le_trans hls (hu.low.2.2 i hi).1, fun b hb => Nat.le_trans hls ((hu.low.2.2 i hi).2 b hb)⟩⟩⟩
 refine ⟨⟨ub, lb, hb, um, UA, ?_⟩, (KeepY.of_ext hx).trans ((KeepY.of_keepT hk (by decide)).trans (KeepY.of_keepT hks (by decide)))⟩
 refine ⟨?_, (hu'.keepT hk (by decide) (by decide) (by decide)).keepT hks (by decide) (by decide) (by decide), LogC.keepT hl hks volT_off (by decide), ?_, ⟨?_, fun i hi e => ?_⟩, hg, hf, hgl, ⟨h.out.1, fun e => ?_, fun g hg => Nat.lt_of_lt_of_le (h.out.2.2 g hg) (Nat.le_trans hx.size (Nat.le_trans hk.size hks.size))⟩, h.lows, fun i hi b hb e => ?_⟩
 · have := setCell_row htop (i := 0) (.pointer (some ⟨ub, 0, none⟩))
   exact this
 · exact (((h.held.ext hx).mono hM).keep hk (notTy_map (hx.heap hmh))).keep hks (notTy_map (Keep.heap hk (notTy_map (hx.heap hmh)) (hx.heap hmh)))
 · have := hu.low.2.1; omega
 · have := (hu.low.2.2 i hi).2 hb e; omega
 · have := h.out.2.2 _ e; have := hu.low.2.1; omega
 · have := h.out.2.2 _ e; have := (hu.low.2.2 i hi).2 b hb; omega
set_option maxRecDepth 100000 in
set_option maxHeartbeats 12800000 in
theorem vol_Do (hE : Env w) (h : VolM X w vb db kb n N V) {a : Option Addr} {c : Nat} {L : List (OpD × OpA)} (hL : OpsL w a L) (hok : (doT V.T (L.map Prod.fst)).2 = 0) (hpk : (packOps (L.map Prod.fst)).length ≤ 4095) (hroom : V.L.off + secN (doneB (L.map Prod.fst)).length ≤ halfN n) (htop : V.L.top ≤ 2147483000) (hN : N + 2 * L.length ≤ 1000000000) (hg : GoodT (doV n V (L.map Prod.fst)).T) :
 Calls Tryz.prog 24 #[.pointer (some ⟨vb, 0, none⟩), .slice a L.length c] w fun e w' => e = .returned (.int .i64 0) ∧ VolM X w' vb db kb n (N + 2 * L.length) (doV n V (L.map Prod.fst)) ∧ KeepY X w w' := by
 obtain ⟨R, hR⟩ : ∃ R : Ending → World → Prop, R = fun e w' => e = .returned (.int .i64 0) ∧ VolM X w' vb db kb n (N + 2 * L.length) (doV n V (L.map Prod.fst)) ∧ KeepY X w w' := ⟨_, rfl⟩
 rw [← hR]
 have HR := Lib.hid hR; clear hR
 obtain ⟨tb, lb, hb, mb, A, h⟩ := h
 have HV := Lib.hid h
 have c0 := blk_cell h.top 0 (.pointer (some ⟨tb, 0, none⟩)) rfl
 have c4 := blk_cell h.top 4 (.bool false) rfl
 have HT := Lib.hid h.tree; have HG := Lib.hid h.good; have HF := Lib.hid h.fit
 have HTOP := Lib.hid h.top
 have HE := Lib.hid hE; have HOL0 := Lib.hid hL; have HOK := Lib.hid hok; have HGG := Lib.hid hg
 have HPL : Hid ((packOps (L.map Prod.fst)).length ≤ 4095) := Lib.hid hpk
 have HRM := Lib.hid hroom; have HTT := Lib.hid htop
 obtain ⟨m, hm⟩ : ∃ m, m = L.length := ⟨_, rfl⟩
 have HM := Lib.hid hm
 have hdo := fun W (ub um : Nat) UA (k : Ext w W) (hU : TreeM W w.heap.size ub um N V.T UA) => tree_Do a c L W (HE.out.ext k) hU HG.out HF.out (Nat.le_refl _) hN (HOL0.out.ext k)
 rw [← hm] at hN hdo ⊢
 rw [← hm] at HR
 have HDO := Lib.hid hdo
 have hpc := fun W (k : Ext w W) => tree_Pack a c L W (HOL0.out.ext k) (by omega)
 rw [← hm] at hpc
 obtain ⟨bt, hbt⟩ : ∃ t, t = (doneB (L.map Prod.fst)).length := ⟨_, rfl⟩
 have hla := fun W ad cap (k : Ext w W) (hd : DataM W ad (doneB (L.map Prod.fst))) (hc : (doneB (L.map Prod.fst)).length ≤ cap) => log_Append (h.log.ext k) hd hc (by unfold doneB; simp; omega) h.glog.six.1 h.glog.half (by exact hroom) (by have := secsN_len V.L.list; have := h.glog.off; have := h.glog.six; have : halfN n ≤ 2047 := (by unfold halfN; omega); omega) (by have := h.glog.epoch; omega)
 have hgl := h.glog.append (b := doneB (L.map Prod.fst)) (by unfold doneB; simp; omega) (by exact hroom) (by omega)
 rw [← hbt] at hla
 have hbt2 : bt = (packOps (L.map Prod.fst)).length + 1 := hbt
 have HFU : Hid (FitT (doT V.T (L.map Prod.fst)).1 (N + 2 * m)) := Lib.hid ((doT_fit h.fit _).mono (by rw [List.length_map]; omega))
 have hpt : putV n V (L.map Prod.fst) = { V with T := (doT V.T (L.map Prod.fst)).1, L := appL V.L (doneB (L.map Prod.fst)), img := putI V.img (baseN n V.L.half + V.L.off) V.L.list.length V.L.epoch (doneB (L.map Prod.fst)) } := rfl
 generalize hpk2 : packOps (L.map Prod.fst) = pk at hpk hpc hbt2 HPL
 have hdb : doneB (L.map Prod.fst) = 2 :: pk := by unfold doneB; rw [hpk2]
 rw [hdb] at hla hgl hpt
 have HPT := Lib.hid hpt; have HGL := Lib.hid hgl
 have HPC := Lib.hid hpc; have HLA := Lib.hid hla; have HBT := Lib.hid hbt2
 clear h hE hL hok hg hpk hroom htop hm hdo hpc hla hgl hbt hbt2 hpk2 hdb hpt
 go_enter Tryz.func24, Tryz.ntmps24
 go_upto_region 7 with (first
  | (go_at_call 75; refine (tree_Clone w HT.out HG.out HF.out (Nat.le_refl _) (by omega)).mono ?_; rintro e w1 ⟨ub, um, UA, rfl, hU, hx1⟩; have HU := Lib.hid hU; have HX1 := Lib.hid hx1; clear hU hx1)
  | (go_at_call 76; refine (HDO.out _ _ _ _ HX1.out HU.out).mono ?_; rintro e w2 ⟨rfl, ⟨um2, UA2, hU2⟩, hk2⟩; rw [HOK.out]; have HU2 := Lib.hid hU2; have HX2 := Lib.hid (ext_ne HX1.out HU.out.low.1 hk2); clear hU2 hk2))
 have hcs : ∀ W, Ext w2 W → W.cell? ⟨vb, 1, none⟩ = some (.pointer (some ⟨lb, 0, none⟩)) := fun W k => blk_cell ((HX2.out.trans k).heap HTOP.out) 1 _ rfl
 have HCS := Lib.hid hcs; clear hcs
 have HK := Lib.hid ((Ext.refl w2).drew)
 refine wp_region_noPanic ?_
 refine wp_region_held_drew (S := (fun W => W.cell? ⟨vb, 1, none⟩ = some (.pointer (some ⟨lb, 0, none⟩)))) (by kernel_rfl) (HCS.out _ HK.out) (fun hHeld => ?_)
 clear hHeld
 generalize w2.drew = wc at HK ⊢
 refine wpAnyH_take (i := 0) (v := ?_) rfl (by kernel_rfl) (by kernel_rfl) (by kernel_rfl) (fun _ _ _ h => h) (Or.inl ⟨by kernel_rfl, ?_⟩) (HCS.out _ HK.out) ?_
 rotate_left
 · (intro wq _; first | (go_simp; done) | (go_simp; with_reducible rfl))
 try simp only [List.getElem_toArray, List.getElem_cons_zero, Act.put, List.setIfInBounds_toArray, List.set_cons_zero, List.set_cons_succ]
 refine wpAnyH_take (i := 1) (v := ?_) rfl (by kernel_rfl) (by kernel_rfl) (by kernel_rfl) (fun _ _ _ h => h) (Or.inl ⟨by kernel_rfl, ?_⟩) (HCS.out _ HK.out) ?_
 rotate_left
 · (intro wq _; first | (go_simp; done) | (go_simp; with_reducible rfl))
 try simp only [List.getElem_toArray, List.getElem_cons_zero, List.getElem_cons_succ, Act.put, List.setIfInBounds_toArray, List.set_cons_zero, List.set_cons_succ]
 refine wpAnyH_take (i := 2) (v := ?_) rfl (by kernel_rfl) (by kernel_rfl) (by kernel_rfl) (fun _ _ _ h => h) (Or.inl ⟨by kernel_rfl, ?_⟩) (HCS.out _ HK.out) ?_
 rotate_left
 · (intro wq _; first | (go_simp; done) | (go_simp; with_reducible rfl))
 try simp only [List.getElem_toArray, List.getElem_cons_zero, List.getElem_cons_succ, Act.put, List.setIfInBounds_toArray, List.set_cons_zero, List.set_cons_succ]
 refine wpAnyH_take (i := 3) (v := ?_) rfl (by kernel_rfl) (by kernel_rfl) (by kernel_rfl) (fun _ _ _ h => h) (Or.inl ⟨by kernel_rfl, ?_⟩) (HCS.out _ HK.out) ?_
 rotate_left
 · (intro wq hSw; (try dsimp only at hSw); first | (go_simp; done) | (go_simp; with_reducible rfl))
 try simp only [List.getElem_toArray, List.getElem_cons_zero, List.getElem_cons_succ, Act.put, List.setIfInBounds_toArray, List.set_cons_zero, List.set_cons_succ]
 refine wpAnyH_take (i := 5) (v := ?_) rfl (by kernel_rfl) (by kernel_rfl) (by kernel_rfl) (fun _ _ _ h => h) (Or.inl ⟨by kernel_rfl, ?_⟩) (HCS.out _ HK.out) ?_
 rotate_left
 · (intro wq _; first | (go_simp; done) | (go_simp; with_reducible rfl))
 try simp only [List.getElem_toArray, List.getElem_cons_zero, List.getElem_cons_succ, Act.put, List.setIfInBounds_toArray, List.set_cons_zero, List.set_cons_succ]
 all_goals (
  first
   | refine wpAnyH_ready (rs := [4, 6]) (by decide +kernel) (by simp) ?_
  repeat' (first | exact AllReadyH.nil | (refine AllReadyH.cons rfl (fun K hK => ?_) ?_)))
 all_goals (
  first
   | (go_simp
      first
       | (refine hK.out _ (wc.alloc (.cells #[.int .u8 2] 5)) (HCS.out _ (HK.out.trans (Ext.alloc _ _))) (fun _ => ?_)
          have HO2 := Lib.hid ((own_two wc).base HK.out.size)
          have hx := Ext.alloc wc (.cells #[.int .u8 2] 5)
          replace HK := Lib.hid (HK.out.trans hx)
          try replace HPB := Lib.hid (HPB.out.ext hx)
          clear hK K hx
          generalize wc.heap.size = G2 at *
          generalize wc.alloc (.cells #[.int .u8 2] 5) = wd at *
          obtain ⟨wc, rfl⟩ : ∃ x : World, x = wd := ⟨_, rfl⟩
          try simp only [List.getElem_toArray, List.getElem_cons_zero, List.getElem_cons_succ, Act.put, List.setIfInBounds_toArray, List.set_cons_zero, List.set_cons_succ])
       | (go_at_call 78
          refine (HPC.out wc (HX2.out.trans HK.out)).mono ?_
          rintro E wn ⟨a6, c6, rfl, hO6, hx⟩
          have HPB := Lib.hid hO6.bytes.1
          try replace HO2 := Lib.hid (HO2.out.ext hx)
          replace HK := Lib.hid (HK.out.trans hx)
          clear hx hO6
          go_wp2_with fail
          refine hK.out _ _ (HCS.out _ HK.out) (fun _ => ?_)
          clear hK K
          obtain ⟨wc, rfl⟩ : ∃ x : World, x = wn := ⟨_, rfl⟩
          try simp only [List.getElem_toArray, List.getElem_cons_zero, List.getElem_cons_succ, Act.put, List.setIfInBounds_toArray, List.set_cons_zero, List.set_cons_succ])))
 all_goals (
  first
   | refine wpAnyH_ready (rs := [6]) (by decide +kernel) (by simp) ?_
   | refine wpAnyH_ready (rs := [4]) (by decide +kernel) (by simp) ?_
  repeat' (first | exact AllReadyH.nil | (refine AllReadyH.cons rfl (fun K hK => ?_) ?_)))
 all_goals (
  first
   | (go_simp
      first
       | (refine hK.out _ (wc.alloc (.cells #[.int .u8 2] 5)) (HCS.out _ (HK.out.trans (Ext.alloc _ _))) (fun _ => ?_)
          have HO2 := Lib.hid ((own_two wc).base HK.out.size)
          have hx := Ext.alloc wc (.cells #[.int .u8 2] 5)
          replace HK := Lib.hid (HK.out.trans hx)
          try replace HPB := Lib.hid (HPB.out.ext hx)
          clear hK K hx
          generalize wc.heap.size = G2 at *
          generalize wc.alloc (.cells #[.int .u8 2] 5) = wd at *
          obtain ⟨wc, rfl⟩ : ∃ x : World, x = wd := ⟨_, rfl⟩
          try simp only [List.getElem_toArray, List.getElem_cons_zero, List.getElem_cons_succ, Act.put, List.setIfInBounds_toArray, List.set_cons_zero, List.set_cons_succ])
       | (go_at_call 78
          refine (HPC.out wc (HX2.out.trans HK.out)).mono ?_
          rintro E wn ⟨a6, c6, rfl, hO6, hx⟩
          have HPB := Lib.hid hO6.bytes.1
          try replace HO2 := Lib.hid (HO2.out.ext hx)
          replace HK := Lib.hid (HK.out.trans hx)
          clear hx hO6
          go_wp2_with fail
          refine hK.out _ _ (HCS.out _ HK.out) (fun _ => ?_)
          clear hK K
          obtain ⟨wc, rfl⟩ : ∃ x : World, x = wn := ⟨_, rfl⟩
          try simp only [List.getElem_toArray, List.getElem_cons_zero, List.getElem_cons_succ, Act.put, List.setIfInBounds_toArray, List.set_cons_zero, List.set_cons_succ])))
 all_goals (
  first
   | refine wpAnyH_ready (rs := [7]) (by decide +kernel) (by simp) ?_
  repeat' (first | exact AllReadyH.nil | (refine AllReadyH.cons rfl (fun K hK => ?_) ?_)))
 all_goals (
  first
   | (refine step_append_any (by rfl) _ _ 50 5 (.int .u8 0) 1 1 (by rfl) Tryz.underlying50 info_byte1 rfl (by decide) w2.heap.size (some ⟨G2, 0, none⟩) 1 1 (byteV [2]) (by simp [Act.eval]) (by exact HO2.out) a6 pk.length c6 (byteV pk) (by simp [Act.eval]) (by rw [byteV_len, Nat.mul_one]) HPB.out.run (byteV_one pk) (by have := HPL.out; omega) (by decide) HK.out.size bt (by have := HBT.out; omega) ?_
      intro ad8 cap8 wn hown hkp hbl
      have HOB : Hid (DataM wn ad8 (2 :: pk) ∧ bt ≤ cap8) := Lib.hid (by obtain ⟨a', c', e', q1, q2, _⟩ := DataM.of_row (l := 2 :: pk) hown; cases e'; exact ⟨q2, q1⟩)
      replace HK := Lib.hid (Ext.of_below' HK.out hbl)
      clear hown hkp hbl HO2 HPB
      refine hK.out _ _ (HCS.out _ HK.out) (fun _ => ?_)
      clear hK K
      obtain ⟨wc, rfl⟩ : ∃ x : World, x = wn := ⟨_, rfl⟩
      try simp only [List.getElem_toArray, List.getElem_cons_zero, List.getElem_cons_succ, Act.put, List.setIfInBounds_toArray, List.set_cons_zero, List.set_cons_succ]))
 all_goals (
  first
   | refine wpAnyH_ready (rs := [8]) (by decide +kernel) (by simp) ?_
  repeat' (first | exact AllReadyH.nil | (refine AllReadyH.cons rfl (fun K hK => ?_) ?_)))
 all_goals (
  first
   | (go_simp
      first
       | (go_at_call 77
          refine (HLA.out wc ad8 cap8 (HX2.out.trans HK.out) HOB.out.1 HOB.out.2).mono ?_
          rintro E wn ⟨rfl, hln, hkt⟩
          have HLN := Lib.hid hln
          have HKT := Lib.hid hkt
          have HK8 := HK
          have hs8 := blk_cell (hkt.heap ((HX2.out.trans HK.out).heap HTOP.out) (by decide)) 1 (.pointer (some ⟨lb, 0, none⟩)) rfl
          replace HCS : Hid (∀ W, Ext wn W → W.cell? ⟨vb, 1, none⟩ = some (.pointer (some ⟨lb, 0, none⟩))) := Lib.hid fun W k => k.cell hs8
          replace HK := Lib.hid (Ext.refl wn)
          clear hln hkt hs8
          go_wp2_with fail
          refine hK.out _ _ (HCS.out _ HK.out) (fun _ => ?_)
          clear hK K
          try simp only [List.getElem_toArray, List.getElem_cons_zero, List.getElem_cons_succ, Act.put, List.setIfInBounds_toArray, List.set_cons_zero, List.set_cons_succ]
          refine wpAnyH_take (i := 9) (v := ?_) rfl (by kernel_rfl) (by kernel_rfl) (by kernel_rfl) (fun _ _ _ h => h) (Or.inl ⟨by kernel_rfl, ?_⟩) (HCS.out _ HK.out) ?_
          rotate_left
          · (intro wq _; first | (go_simp; done) | (go_simp; with_reducible rfl))
          try simp only [List.getElem_toArray, List.getElem_cons_zero, List.getElem_cons_succ, Act.put, List.setIfInBounds_toArray, List.set_cons_zero, List.set_cons_succ])))
 all_goals (
  refine wpAnyH_done (by kernel_rfl) ?_ _
  refine NoPanic.normal ?_
  have hput := HV.out.put (HX2.out.trans HK8.out) HKT.out HLN.out (M := N + 2 * m) (by omega) (HU2.out.ext HK8.out) (doT_good HG.out _) HFU.out HGL.out
  have htn := HKT.out.heap ((HX2.out.trans HK8.out).heap HTOP.out) (by decide)
  have c0 := blk_cell htn 0 (.pointer (some ⟨tb, 0, none⟩)) rfl
  have f0 := blk_free htn 0
  rw [← HPT.out] at hput
  have HPV := Lib.hid hput
  clear hput htn c4
  go_wp2_with (go_at_call 80; refine (vol_sweep HPV.out.1 HGG.out hN).mono ?_; rintro e w5 ⟨rfl, hv5, hy5⟩; have HV5 := Lib.hid hv5; have HY5 := Lib.hid hy5; clear hv5 hy5)
  rw [HR.out]
  exact ⟨rfl, HV5.out, HPV.out.2.trans HY5.out⟩)
end
end Go.Proofs.YtefpllpichhojaaGreatDoor
