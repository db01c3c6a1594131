/- The log's look: the greatest epoch of the first sectors. -/
import Derived.Test.YtefpllpichhojaaGreatDoorLogRead
namespace Go.Proofs.YtefpllpichhojaaGreatDoor
open Go.RowKit
variable [Low]
omit [Low] in
theorem mark_cell {w : World} {g : Nat} {s : List UInt8} {t : TypeId} {fr : Nat × Nat} (hg : w.heap[g]? = some (.cells (byteV s).toArray t fr)) (hs : s.length = 64) : w.cell? ⟨g, 0, none⟩ = some (.int .u8 ((s.getD 0 0).toNat : Int)) := by
 rw [cell_of_row _ _ _ _ _ _ hg]
 have := byteV_at (l := s) (i := 0) (by omega)
 simpa [byteAt] using this
omit [Low] in
theorem topI_succ_pos {img : Img} {ep i : Nat} (h : firstS (img (2 + i)) = true) : topI img ep (i + 1) = max (topI img ep i) (epochS (img (2 + i))) := by rw [topI, if_pos h]
omit [Low] in
theorem topI_succ_neg {img : Img} {ep i : Nat} (h : ¬ firstS (img (2 + i)) = true) : topI img ep (i + 1) = topI img ep i := by rw [topI, if_neg h]
omit [Low] in
theorem topI_bound (img : Img) (epoch : Nat) (he : epoch ≤ 2147483648) : ∀ (i : Nat), topI img epoch i ≤ 2147483648
 | 0 => he
 | i + 1 => by
   have h1 := topI_bound img epoch he i
   have h2 : epochS (img (2 + i)) ≤ 2147483648 := rNum_le _ _
   unfold topI; split <;> omega
section
variable {w : World} {lb db kb n : Nat} {img : Img} {L : LogD}
set_option maxRecDepth 100000 in
set_option maxHeartbeats 12800000 in
theorem log_lookV {la : Option Addr} {lc : Nat} (ht : w.heap[lb]? = some (.cells (logV db L la lc) 209 (0, 0))) (hd : DiskM w db kb n img) (h6 : 6 ≤ n) (hep : L.epoch ≤ 2147483648) (hl1 : Low.low ≤ lb) :
 Calls Tryz.prog 151 #[.pointer (some ⟨lb, 0, none⟩)] w fun e w' => e = .returned (.int .i64 0) ∧ w'.heap[lb]? = some (.cells (logV db { L with top := topI img L.epoch (n - 2) } la lc) 209 (0, 0)) ∧ KeepT [209] w w' := by
 obtain ⟨Q, hQ⟩ : ∃ Q : Ending → World → Prop, Q = fun e w' => e = .returned (.int .i64 0) ∧ w'.heap[lb]? = some (.cells (logV db { L with top := topI img L.epoch (n - 2) } la lc) 209 (0, 0)) ∧ KeepT [209] w w' := ⟨_, rfl⟩
 rw [← hQ]
 have HQ := Lib.hid hQ; clear hQ
 have hsz := hd.size
 have HT := Lib.hid ht; have HD := Lib.hid hd
 have c1 := blk_cell ht 1 (.int .i64 (L.epoch : Int)) rfl
 have c2 := blk_cell ht 2 (.int .i64 (L.top : Int)) rfl
 have f2 := blk_free ht 2
 clear ht hd
 go_enter Tryz.func151, Tryz.ntmps151
 go_upto_region 3 with (fail)
 have hk1 := (KeepT.refl [209] w).set HT.out (by decide) 2 (.int .i64 (L.epoch : Int))
 have h1 := setCell_row (i := 2) HT.out (.int .i64 (L.epoch : Int))
 have HT1 : Hid ((w.setCell ⟨lb, 2, none⟩ (.int .i64 (L.epoch : Int))).heap[lb]? = some (.cells (logV db { L with top := topI img L.epoch 0 } la lc) 209 (0, 0))) := Lib.hid h1
 have HK1 := Lib.hid hk1
 clear h1 hk1 c1 c2 f2
 generalize w.setCell ⟨lb, 2, none⟩ (.int .i64 (L.epoch : Int)) = w1 at HT1 HK1 ⊢
 go_loopw [3] (fun v wr => ∃ i : Nat, v = .int .i64 ((2 + i : Nat) : Int) ∧ 2 + i ≤ n ∧ Hid (wr.heap[lb]? = some (.cells (logV db { L with top := topI img L.epoch i } la lc) 209 (0, 0))) ∧ Hid (KeepT [209] w wr)) (fun v _ => n - (intOf v).toNat)
 case atStart => exact ⟨0, rfl, by omega, HT1, HK1⟩
 case round =>
  clear HT1 HK1
  obtain ⟨i, rfl, hi, HT1, HK1⟩ := hrel
  have hdr := HD.out.keepT HK1.out (by decide)
  have hlen := disk_Len hdr
  have HDR := Lib.hid hdr; have HLEN := Lib.hid hlen; clear hdr hlen
  have d0 := blk_cell HT1.out 0 (.pointer (some ⟨db, 0, none⟩)) rfl
  generalize hp : 2 + i = p at hi ⊢
  have HP := Lib.hid hp; clear hp
  by_cases hlt : p < n
  · have hrd := disk_Read HDR.out hlt
    have hs64 := HDR.out.len p hlt
    have HRD := Lib.hid hrd; have HS64 := Lib.hid hs64; clear hrd hs64
    have hti := topI_bound img L.epoch hep i
    by_cases hf : firstS (img p) = true
    · have hst : topI img L.epoch (i + 1) = max (topI img L.epoch i) (epochS (img p)) := by rw [← HP.out]; exact topI_succ_pos (by rw [HP.out]; exact hf)
      have hes : epochS (img p) ≤ 2147483648 := rNum_le _ _
      have hm2 : (img p).getD 0 0 = 2 := by simpa [firstS] using hf
      clear hf
      generalize hs : img p = s at HRD HS64 hst hes hm2
      clear hs
      have HST := Lib.hid hst; clear hst
      have hvl : (byteV s).length = 64 := by rw [byteV_len]; exact HS64.out
      have hv1 := byteV_one s
      generalize hV : byteV s = V at HRD hvl hv1
      have HV := Lib.hid hV; have HVL := Lib.hid hvl; have HV1 := Lib.hid hv1; clear hV hvl hv1
      go_upto_region 6 with (first | (go_at_call 148; refine HLEN.out.mono ?_; rintro E wn ⟨rfl, rfl⟩) | (go_at_call 149; refine HRD.out.mono ?_; rintro E w2 ⟨rfl, hx2⟩; have HX2 := Lib.hid hx2; clear hx2) | (refine wpList_store_mid rfl _ _ _ rfl _ _ V.toArray rfl rfl (there_new _ _ _ (by rw [List.size_toArray, HVL.out]; decide)) (by rw [List.size_toArray, HVL.out]; exact size_sector) (all_oneCell_toArray HV1.out) ?_))
      rw [alloc_sector]
      have hset := (sec_zero w2).set HS64.out
      rw [HV.out] at hset
      have hx3 := ext_ne ((Ext.refl w2).trans (Ext.alloc w2 (.cells (byteV zeroS).toArray 234))) (Nat.le_refl _) hset.2
      obtain ⟨B, hB⟩ : ∃ B, B = w2.heap.size := ⟨_, rfl⟩
      rw [← hB] at hset hx3 ⊢
      clear hB
      have hsa := hset.1
      clear hset
      try simp only [List.toList_toArray]
      generalize (w2.alloc (.cells (byteV zeroS).toArray 234)).setCells B 0 V = w3 at hsa hx3 ⊢
      have HX3 := Lib.hid (HX2.out.trans hx3); have HSA := Lib.hid hsa; clear hx3 hsa
      have hmk : w3.cell? ⟨B, 0, none⟩ = some (.int .u8 2) := by
       have h := mark_cell HSA.out.2 HSA.out.1
       rw [hm2] at h
       exact h
      have hl4 : ((s.drop 9).take 4).length = 4 := by rw [List.length_take, List.length_drop, HS64.out]; decide
      have hrr := rec_read (some ⟨B, 9, none⟩) 55 ((s.drop 9).take 4) w3 (bytes_mid (o := 9) HSA.out.2 (by rw [hl4])) (by rw [hl4]; omega)
      have hee : epochS s = (rNum 2147483648 ((s.drop 9).take 4, false)).1 := rfl
      rw [hee] at HST hes
      rw [hl4] at hrr
      have HEE := Lib.hid hee
      clear hee
      generalize (s.drop 9).take 4 = L4 at hrr hl4 HST hes HEE
      have HRR := Lib.hid hrr; have HL4 := Lib.hid hl4; clear hrr hl4 hm2
      go_upto_region 10 with (go_at_call 153; refine HRR.out.mono ?_; rintro E w4 ⟨RB, rfl, hRw, hrd, hx4⟩; have HRW := Lib.hid (Nat.le_trans (HX3.out.size) hRw); have HRD4 := Lib.hid hrd; have HX4 := Lib.hid (HX3.out.trans hx4); clear hRw hrd hx4)
      clear hmk d0 HRR
      have hnum := fun W (hx : Ext w4 W) => rd_num _ RB 2147483648 _ W (HRD4.out.ext hx) (by show L4.length ≤ _; rw [HL4.out]; omega) (by omega)
      generalize (rNum 2147483648 (L4, false)).2 = rest at hnum
      generalize hev : (rNum 2147483648 (L4, false)).1 = ev at hnum HST hes HEE
      have HNUM := Lib.hid hnum; clear hnum hev
      have HCS : Hid (∀ W, Ext wr W → W.cell? ⟨lb, 2, none⟩ = some (.int .i64 ((topI img L.epoch i : Nat) : Int))) := Lib.hid fun W q => blk_cell (q.heap HT1.out) 2 _ rfl
      generalize hti0 : topI img L.epoch i = ti at hti HCS HST HT1
      have HTI := Lib.hid hti0; clear hti0
      have HK : Hid (Ext wr w4.drew) := Lib.hid HX4.out.drew
      have HE : Hid (Ext w4 w4.drew) := Lib.hid ((Ext.refl _).drew)
      refine wp_region_noPanic ?_
      refine wp_region_K (S := (fun W => W.cell? ⟨lb, 2, none⟩ = some (.int .i64 (ti : Int)))) (I := [4]) (by kernel_rfl) (HCS.out _ HK.out) (fun hHeld => ?_)
      clear hHeld
      generalize w4.drew = wc at HK HE ⊢
      refine wpAnyK_free (i := 0) (v := ?_) rfl (by kernel_rfl) (by kernel_rfl) (by kernel_rfl) (fun _ _ _ h => h) (by kernel_rfl) ?_ (fun _ => (HCS.out _ HK.out)) ?_
      rotate_left
      · (intro wq; first | (go_simp; done) | (go_simp; with_reducible rfl))
      try simp only [List.getElem_toArray, List.getElem_cons_zero, Act.put, List.setIfInBounds_toArray, List.set_cons_zero, List.set_cons_succ]
      refine wpAnyK_free (i := 1) (v := ?_) rfl (by kernel_rfl) (by kernel_rfl) (by kernel_rfl) (fun _ _ _ h => h) (by kernel_rfl) ?_ (fun _ => (HCS.out _ HK.out)) ?_
      rotate_left
      · (intro wq; first | (go_simp; done) | (go_simp; with_reducible rfl))
      try simp only [List.getElem_toArray, List.getElem_cons_zero, List.getElem_cons_succ, Act.put, List.setIfInBounds_toArray, List.set_cons_zero, List.set_cons_succ]
      refine wpAnyK_free (i := 2) (v := ?_) rfl (by kernel_rfl) (by kernel_rfl) (by kernel_rfl) (fun _ _ _ h => h) (by kernel_rfl) ?_ (fun _ => (HCS.out _ HK.out)) ?_
      rotate_left
      · (intro wq; first | (go_simp; done) | (go_simp; with_reducible rfl))
      try simp only [List.getElem_toArray, List.getElem_cons_zero, List.getElem_cons_succ, Act.put, List.setIfInBounds_toArray, List.set_cons_zero, List.set_cons_succ]
      refine wpAnyK_free (i := 3) (v := ?_) rfl (by kernel_rfl) (by kernel_rfl) (by kernel_rfl) (fun _ _ _ h => h) (by kernel_rfl) ?_ (fun _ => (HCS.out _ HK.out)) ?_
      rotate_left
      · (intro wq; first | (go_simp; done) | (go_simp; with_reducible rfl))
      try simp only [List.getElem_toArray, List.getElem_cons_zero, List.getElem_cons_succ, Act.put, List.setIfInBounds_toArray, List.set_cons_zero, List.set_cons_succ]
      refine wpAnyK_load (i := 4) (v := ?_) rfl (by kernel_rfl) (by kernel_rfl) (by kernel_rfl) (fun _ _ _ h => h) (by kernel_rfl) (by kernel_rfl) ?_ (HCS.out _ HK.out) ?_
      rotate_left
      · (intro wq hSw; (try dsimp only at hSw); first | (go_simp; done) | (go_simp; with_reducible rfl))
      try simp only [List.getElem_toArray, List.getElem_cons_zero, List.getElem_cons_succ, Act.put, List.setIfInBounds_toArray, List.set_cons_zero, List.set_cons_succ]
      refine wpAnyK_free (i := 5) (v := ?_) rfl (by kernel_rfl) (by kernel_rfl) (by kernel_rfl) (fun _ _ _ h => h) (by kernel_rfl) ?_ (fun _ => (HCS.out _ HK.out)) ?_
      rotate_left
      · (intro wq; first | (go_simp; done) | (go_simp; with_reducible rfl))
      try simp only [List.getElem_toArray, List.getElem_cons_zero, List.getElem_cons_succ, Act.put, List.setIfInBounds_toArray, List.set_cons_zero, List.set_cons_succ]
      all_goals (
       first
        | refine wpAnyK_ready (rs := [6]) (by decide +kernel) (by simp) ?_
       repeat' (first | exact AllReadyK.nil | (refine AllReadyK.cons rfl (fun K hK => ?_) ?_)))
      all_goals (
       first
        | (go_simp
           first
            | (go_at_call 154
               refine (HNUM.out wc HE.out).mono ?_
               rintro E wn ⟨rfl, _, hbt⟩
               replace HK := Lib.hid (But.ext HK.out hbt HRW.out)
               clear hbt HE
               go_wp2_with fail
               refine hK.out _ _ (HCS.out _ HK.out) (fun _ => ?_)
               clear hK K
               obtain ⟨wc, rfl⟩ : ∃ x : World, x = wn := ⟨_, rfl⟩
               try simp only [List.getElem_toArray, List.getElem_cons_zero, List.getElem_cons_succ, Act.put, List.setIfInBounds_toArray, List.set_cons_zero, List.set_cons_succ]
               refine wpAnyK_free (i := 7) (v := ?_) rfl (by kernel_rfl) (by kernel_rfl) (by kernel_rfl) (fun _ _ _ h => h) (by kernel_rfl) ?_ (fun _ => (HCS.out _ HK.out)) ?_
               rotate_left
               · (intro wq; first | (go_simp; done) | (go_simp; with_reducible rfl))
               try simp only [List.getElem_toArray, List.getElem_cons_zero, List.getElem_cons_succ, Act.put, List.setIfInBounds_toArray, List.set_cons_zero, List.set_cons_succ]
               refine wpAnyK_free (i := 8) (v := ?_) rfl (by kernel_rfl) (by kernel_rfl) (by kernel_rfl) (fun _ _ _ h => h) (by kernel_rfl) ?_ (fun _ => (HCS.out _ HK.out)) ?_
               rotate_left
               · (intro wq; first | (go_simp; done) | (go_simp; with_reducible rfl))
               try simp only [List.getElem_toArray, List.getElem_cons_zero, List.getElem_cons_succ, Act.put, List.setIfInBounds_toArray, List.set_cons_zero, List.set_cons_succ]
               refine wpAnyK_free (i := 9) (v := ?_) rfl (by kernel_rfl) (by kernel_rfl) (by kernel_rfl) (fun _ _ _ h => h) (by kernel_rfl) ?_ (fun _ => (HCS.out _ HK.out)) ?_
               rotate_left
               · (intro wq; first | (go_simp; done) | (go_simp; with_reducible rfl))
               try simp only [List.getElem_toArray, List.getElem_cons_zero, List.getElem_cons_succ, Act.put, List.setIfInBounds_toArray, List.set_cons_zero, List.set_cons_succ])))
      all_goals (
       have n1 := HCS.out _ HK.out
       have g1 := blk_free (HK.out.heap HT1.out) 2
       refine wpAnyK_last (i := 10) (by kernel_rfl) rfl (by kernel_rfl) ?_
       intro K hK
       go_simp
       refine hK.out _ _ ?_
       clear hK K
       try simp only [List.getElem_toArray, List.getElem_cons_zero, List.getElem_cons_succ, Act.put, List.setIfInBounds_toArray, List.set_cons_zero, List.set_cons_succ])
      all_goals (
       refine wpAnyK_done (by kernel_rfl) ?_ _
       refine NoPanic.normal ?_
       clear n1 g1 HCS HTI
       have e5 : max (ti : Int) (ev : Int) = ((max ti ev : Nat) : Int) := by omega
       rw [e5]
       clear e5
       have h9 := setCell_row (i := 2) (HK.out.heap HT1.out) (.int .i64 ((max ti ev : Nat) : Int))
       have hk9 := (HK1.out.trans (KeepT.of_ext HK.out)).set (HK.out.heap HT1.out) (by decide) 2 (.int .i64 ((max ti ev : Nat) : Int))
       have HT9 : Hid ((wc.setCell ⟨lb, 2, none⟩ (.int .i64 ((max ti ev : Nat) : Int))).heap[lb]? = some (.cells (logV db { L with top := topI img L.epoch (i + 1) } la lc) 209 (0, 0))) := Lib.hid (by rw [HST.out]; exact h9)
       have HK9 := Lib.hid hk9
       clear h9 hk9 HT1 HK1 HST
       generalize wc.setCell ⟨lb, 2, none⟩ (.int .i64 ((max ti ev : Nat) : Int)) = w9 at HT9 HK9 ⊢
       go_wp2_with fail
       go_roundw
       case rel => exact ⟨i + 1, by have h := HP.out; congr 1; omega, by have h := HP.out; omega, HT9, HK9⟩
       case measure => simp [intOf]; omega)
    · have hst : topI img L.epoch (i + 1) = topI img L.epoch i := topI_succ_neg (by rw [HP.out]; exact hf)
      have hm2 : ¬ (((img p).getD 0 0).toNat : Int) = 2 := by
       intro e
       apply hf
       have : (img p).getD 0 0 = 2 := UInt8.toNat_inj.1 (by show _ = 2; omega)
       simpa [firstS] using this
      clear hf
      have HST := Lib.hid hst; clear hst
      generalize hs : img p = s at HRD HS64 hm2
      clear hs
      have hvl : (byteV s).length = 64 := by rw [byteV_len]; exact HS64.out
      have hv1 := byteV_one s
      generalize hV : byteV s = V at HRD hvl hv1
      have HV := Lib.hid hV; have HVL := Lib.hid hvl; have HV1 := Lib.hid hv1; clear hV hvl hv1
      go_upto_region 6 with (first | (go_at_call 148; refine HLEN.out.mono ?_; rintro E wn ⟨rfl, rfl⟩) | (go_at_call 149; refine HRD.out.mono ?_; rintro E w2 ⟨rfl, hx2⟩; have HX2 := Lib.hid hx2; clear hx2) | (refine wpList_store_mid rfl _ _ _ rfl _ _ V.toArray rfl rfl (there_new _ _ _ (by rw [List.size_toArray, HVL.out]; decide)) (by rw [List.size_toArray, HVL.out]; exact size_sector) (all_oneCell_toArray HV1.out) ?_))
      rw [alloc_sector]
      have hset := (sec_zero w2).set HS64.out
      rw [HV.out] at hset
      have hx3 := ext_ne ((Ext.refl w2).trans (Ext.alloc w2 (.cells (byteV zeroS).toArray 234))) (Nat.le_refl _) hset.2
      obtain ⟨B, hB⟩ : ∃ B, B = w2.heap.size := ⟨_, rfl⟩
      rw [← hB] at hset hx3 ⊢
      clear hB
      have hsa := hset.1
      clear hset
      try simp only [List.toList_toArray]
      generalize (w2.alloc (.cells (byteV zeroS).toArray 234)).setCells B 0 V = w3 at hsa hx3 ⊢
      have HX3 := Lib.hid (HX2.out.trans hx3); have HSA := Lib.hid hsa; clear hx3 hsa
      have hmk := mark_cell HSA.out.2 HSA.out.1
      generalize (s.getD 0 0).toNat = cm at hm2 hmk
      have HT9 : Hid (w3.heap[lb]? = some (.cells (logV db { L with top := topI img L.epoch (i + 1) } la lc) 209 (0, 0))) := Lib.hid (by rw [HST.out]; exact HX3.out.heap HT1.out)
      have HK9 := Lib.hid (HK1.out.trans (KeepT.of_ext HX3.out))
      clear HST HT1 HK1 d0 hti
      go_wp2_with fail
      go_roundw
      case rel => exact ⟨i + 1, by have h := HP.out; congr 1; omega, by have h := HP.out; omega, HT9, HK9⟩
      case measure => simp [intOf]; omega
  · have hpn : p = n := by omega
    subst hpn
    go_wp2_with (go_at_call 148; refine HLEN.out.mono ?_; rintro E wn ⟨rfl, rfl⟩)
    rw [HQ.out]
    have hin : i = p - 2 := by have h := HP.out; omega
    refine ⟨rfl, ?_, HK1.out⟩
    rw [← hin]
    exact HT1.out
theorem log_look (h : LogM w lb db kb n img L) (h6 : 6 ≤ n) (hep : L.epoch ≤ 2147483648) :
 Calls Tryz.prog 151 #[.pointer (some ⟨lb, 0, none⟩)] w fun e w' => e = .returned (.int .i64 0) ∧ LogM w' lb db kb n img { L with top := topI img L.epoch (n - 2) } ∧ KeepT [209] w w' := by
 obtain ⟨⟨la, lc, ht, hr⟩, hd, hl⟩ := h
 refine (log_lookV ht hd h6 hep hl).mono ?_
 rintro e w' ⟨he, ht', hk⟩
 exact ⟨he, ⟨⟨la, lc, ht', hr.keepT hk (by decide) (by decide)⟩, hd.keepT hk (by decide), hl⟩, hk⟩
end
end Go.Proofs.YtefpllpichhojaaGreatDoor
