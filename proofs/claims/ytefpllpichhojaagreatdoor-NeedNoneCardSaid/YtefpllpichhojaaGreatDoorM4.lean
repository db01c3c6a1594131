/- Several texts of mine, one behind the other: DiskF, TreeRec, TreeOps, TreeNew, TreeFileW, TreeFileU, TreeFind, PathJoinsSpec, TreePlace. -/
import Derived.Test.YtefpllpichhojaaGreatDoorDiskW
import Derived.OwnWalk
import Derived.Test.YtefpllpichhojaaGreatDoorM14
import Derived.Test.YtefpllpichhojaaGreatDoorM9
import Derived.Test.YtefpllpichhojaaGreatDoorM5
namespace Go.Proofs.YtefpllpichhojaaGreatDoor
open Go.RowKit
variable [Low]
omit [Low] in
theorem info_sector : (Tryz.prog.info? 234).map (fun i => (i.zero, i.size, i.bytes)) = some (some (.agg (byteV zeroS).toArray), 64, 64) := by kernel_rfl
omit [Low] in
theorem zero_cells {i : Nat} (hi : i < 64) : (byteV zeroS)[i]? = some (.int .u8 0) := by
 unfold byteV zeroS
 rw [List.getElem?_map, List.getElem?_replicate, if_pos hi]
 rfl
omit [Low] in
theorem made_zero {N i : Nat} (hi : i < N) : (madeCells (byteV zeroS).toArray N)[i]? = some (.int .u8 0) := by
 have hs : (byteV zeroS).toArray.size = 64 := by simp [byteV, zeroS]
 have hm : i % 64 < 64 := Nat.mod_lt _ (by decide)
 unfold madeCells
 rw [Array.getElem?_map, Array.getElem?_range, if_pos hi, hs]
 simp only [Option.map_some]
 congr 1
 rw [getElem!_def]
 simp only [List.getElem?_toArray, zero_cells hm]
omit [Low] in
theorem kept_new {w : World} {kb n : Nat} (h : w.ownsRow 0 234 64 (.slice (some ⟨kb, 0, none⟩) n n) n (madeCells (byteV zeroS).toArray (n * 64)).toList) : KeptM w kb n (fun _ => zeroS) := by
 obtain ⟨_, h | ⟨g, c, cur, hv, _, hg, _, _, hsz, ht⟩⟩ := h
 · cases h.1
 · cases hv
   have hcell : ∀ i, i < n * 64 → w.cell? ⟨kb, i, none⟩ = some (.int .u8 0) := by
    intro i hi
    rw [cell_of_row _ _ _ _ _ _ hg]
    have := made_zero hi
    rw [← Array.getElem?_toList, ← ht, List.getElem?_take_of_lt hi, Array.getElem?_toList] at this
    exact this
   refine ⟨⟨_, _, hg⟩, fun p hp => ⟨fun j v hv => ?_, fun j hj => ⟨?_, blk_free hg _⟩⟩⟩
   · have hj : j < 64 := by
        have := (List.getElem?_eq_some_iff.1 hv).1
        rw [byteV_len, zeroS_len] at this; exact this
     rw [hcell _ (by omega), ← hv, zero_cells hj]
   · rw [hcell _ (by omega)]; rfl
set_option maxRecDepth 100000 in
set_option maxHeartbeats 3200000 in
theorem disk_New (n : Nat) (h1 : 1 ≤ n) (h2 : n ≤ 4096) (w : World) (hlw : Low.low ≤ w.heap.size) :
 Calls Tryz.prog 63 #[.int .i64 n] w fun e w' => ∃ db kb, e = .returned (.pointer (some ⟨db, 0, none⟩)) ∧ DiskM w' db kb n (fun _ => zeroS) ∧ Ext w w' := by
 obtain ⟨i0, hi, hz, hsz, hby⟩ := info_parts info_sector
 have HI := Lib.hid hi; have HZ := Lib.hid hz; have HSZ := Lib.hid hsz; have HBY := Lib.hid hby; clear hi hz hsz hby
 have e1 : min (n : Int) 4096 = n := by omega
 have e2 : max (1 : Int) (n : Int) = n := by omega
 go_enter Tryz.func63, Tryz.ntmps63
 go_wp2_with (refine wpList_make_full _ rfl _ _ _ rfl 0 _ i0 _ 64 Tryz.underlying186 HI.out HZ.out HSZ.out .i64 .i64 (n : Int) (n : Int) n (by simp [Act.eval]) (by simp [Act.eval]) rfl rfl (by rw [HBY.out]; omega) (by unfold maxLen; omega) (Nat.zero_le _) (fun w2 hown hgr => ?_); have HO := Lib.hid hown; have HG := Lib.hid hgr; clear hown hgr)
 go_ret
 have hg := HG.out
 have hx : Ext w w2 := (Keep.mono (T := fun _ => True) (Keep.of_grown hg) (fun _ _ _ => by simp)).ext
 have ho := HO.out
 have hx2 := Ext.alloc w2 (.cells (diskV w.heap.size n n (.slice none 0 0) 0) 190)
 refine ⟨w2.heap.size, w.heap.size, rfl, ⟨⟨n, 0, none, 0, Nat.le_refl _, heap_alloc_new w2 _, World.ownsRow_nil _ _ _ _⟩, (kept_new ho).keep (Keep.of_ext (S := fun _ => True) hx2) trivial, ⟨h1, h2⟩, fun _ _ => zeroS_len, (fun x hx => by cases hx), Nat.le_trans hlw hx.size, hlw⟩, hx.trans hx2⟩
omit [Low] in
theorem new_write (w : World) (C : List Value) (hC : C.length = 65) : Ext w ((w.alloc (.cells Tryz.zeroCells257 257)).setCells w.heap.size 0 C) ∧ ((w.alloc (.cells Tryz.zeroCells257 257)).setCells w.heap.size 0 C).heap[w.heap.size]? = some (.cells C.toArray 257 (0, 0)) :=
 ⟨ext_ne (Ext.alloc _ _) (Nat.le_refl _) (setCells_keep _ _ _), setCells_all (heap_alloc_new w _) C (by rw [hC]; rfl)⟩
omit [Low] in
theorem there_new (w : World) (C : Array Value) (t : TypeId) {n : Nat} (hn : n ≤ C.size) : (w.alloc (.cells C t)).there w.heap.size 0 n := fun j hj => by
 rw [Nat.zero_add]
 refine ⟨?_, blk_free (heap_alloc_new w _) j⟩
 rw [cell_of_row _ _ _ _ _ _ (heap_alloc_new w _)]
 simp [show j < C.size by omega]
section
variable {w : World} {db kb n : Nat} {img : Img} {L : List (Nat × List UInt8)}
set_option maxRecDepth 100000 in
set_option maxHeartbeats 3200000 in
theorem disk_Flush (h : DiskC w db kb n img L) (hL : L.length ≤ 1000000) :
 Calls Tryz.prog 122 #[.pointer (some ⟨db, 0, none⟩)] w fun e w' => e = .returned (.int .i64 0) ∧ DiskM w' db kb n (applyI img L) ∧ KeepT [190, 234] w w' := by
 obtain ⟨R, hR⟩ : ∃ R : Ending → World → Prop, R = fun e w' => e = .returned (.int .i64 0) ∧ DiskM w' db kb n (applyI img L) ∧ KeepT [190, 234] w w' := ⟨_, rfl⟩
 rw [← hR]
 have HR := Lib.hid hR; clear hR
 obtain ⟨⟨kc, st, ca, cc, hn, ht, hr⟩, hk, h1, h2, h3, hlw⟩ := h
 have HLW := Lib.hid hlw
 obtain ⟨hl1, hl2⟩ := hlw
 have HKM := Lib.hid hk; clear hk
 have HLN := Lib.hid h2; clear h2
 have HAL := Lib.hid h3; clear h3
 obtain ⟨m, hm⟩ : ∃ m, m = L.length := ⟨_, rfl⟩
 rw [← hm] at ht hL
 have HM := Lib.hid hm; clear hm
 have d2 := blk_cell ht 2 (.bool false) rfl
 have HT := Lib.hid ht; have HO := Lib.hid hr; clear ht hr
 go_enter Tryz.func122, Tryz.ntmps122
 go_upto_region 5 with (go_at_call 170; refine (disk_step HT.out).mono ?_; rintro e w6 ⟨rfl, st2, rfl⟩)
 clear d2
 have hk1 := (KeepT.refl [190] w).set HT.out (by decide) 5 (.int .i64 st2)
 have ht2 : (w.setCell ⟨db, 5, none⟩ (.int .i64 st2)).heap[db]? = some (.cells (diskV kb n kc (.slice ca m cc) st2) 190 (0, 0)) := setCell_row HT.out _
 have ho2 := hk1.row HO.out (by decide)
 obtain ⟨fr, C, hkb⟩ := HKM.out.blk
 have hkm := HKM.out.keep hk1 (notTy_of hkb (by decide))
 generalize w.setCell ⟨db, 5, none⟩ (.int .i64 st2) = w2 at hk1 ht2 ho2 hkm ⊢
 have d1 := blk_cell ht2 1 (.slice ca m cc) rfl
 have HK := Lib.hid hk1; clear hk1 HKM hkb
 replace HT := Lib.hid ht2; replace HO := Lib.hid ho2; have HKM := Lib.hid hkm; clear ht2 ho2 hkm
 go_upto_region 6 with (fail)
 clear d1
 go_loopw [17] (fun i wr => ∃ k : Nat, i = .int .i64 k ∧ k ≤ m ∧ Hid (KeptM wr kb n (applyI img (L.take k))) ∧ Hid (KeepT [234] w2 wr)) (fun i _ => m - (intOf i).toNat)
 case atStart => exact ⟨0, rfl, Nat.zero_le _, HKM, Lib.hid (KeepT.refl _ _)⟩
 case round =>
  clear HKM
  obtain ⟨k, rfl, hk, HKM, HKR⟩ := hrel
  by_cases hlt : k < m
  · have hkL : k < L.length := by have := HM.out; omega
    have hor := HKR.out.row HO.out (by decide)
    obtain ⟨g, hca, hrg, cur, hgb⟩ := write_at hor (fun x hx => (HAL.out x hx).2) hkL
    subst hca
    have hxA := HAL.out _ (List.getElem_mem hkL)
    have htk : applyI img (L.take (k + 1)) = setI (applyI img (L.take k)) L[k].1 L[k].2 := by
     rw [List.take_succ_eq_append_getElem hkL, applyI_app]; rfl
    have HTK := Lib.hid htk; clear htk
    generalize L[k] = x at hrg hxA HTK
    obtain ⟨p, s⟩ := x
    obtain ⟨hp, hs⟩ := hxA
    simp only at hp hs HTK
    have hrg : wr.rangeAt g (k * 65) (.int .i64 p :: byteV s) := hrg
    have hvl : (byteV s).length = 64 := by rw [byteV_len]; exact hs
    have hv1 := byteV_one s
    have HSL := Lib.hid hs; clear hs
    generalize hv : byteV s = V at hrg hvl hv1
    have HV := Lib.hid hv; have HVL := Lib.hid hvl; have HV1 := Lib.hid hv1; have HRG := Lib.hid hrg; clear hv hvl hv1 hrg hor hgb
    go_upto_region 8 with (first | (refine wpList_load_mid rfl _ _ rfl _ _ rfl (.int .i64 p :: V) _ HRG.out Tryz.underlying257 rfl (by rw [List.length_cons, HVL.out]; exact size_write) ?_) | (refine wpList_store_mid rfl _ _ _ rfl _ _ (Value.int .i64 p :: V).toArray rfl rfl (there_new _ _ _ (by rw [List.size_toArray, List.length_cons, HVL.out]; decide)) (by rw [List.size_toArray, List.length_cons, HVL.out]; exact size_write) (all_oneCell_toArray (by intro v hv; rcases List.mem_cons.1 hv with rfl | hv; rfl; exact HV1.out v hv)) ?_))
    try simp only [List.toList_toArray]
    obtain ⟨hx, hb⟩ := new_write wr (.int .i64 p :: V) (by rw [List.length_cons, HVL.out])
    obtain ⟨B, hB⟩ : ∃ B, B = wr.heap.size := ⟨_, rfl⟩
    rw [← hB] at hx hb ⊢
    clear hB
    generalize World.setCells (wr.alloc (.cells Tryz.zeroCells257 257)) B 0 (.int .i64 p :: V) = w7 at hx hb ⊢
    have hk7 := HKR.out.trans (KeepT.of_ext (ts := [234]) hx)
    have hkm7 := HKM.out.keep (Keep.of_ext (S := fun _ => True) hx) trivial
    have ht7 := hk7.heap HT.out (by decide)
    have HKR7 := Lib.hid hk7; have HKM7 := Lib.hid hkm7; have HT7 := Lib.hid ht7; have HB7 := Lib.hid hb; clear hx hk7 hkm7 ht7 hb
    have HCS : Hid (∀ W, KeepT [] w7 W → W.cell? ⟨db, 0, none⟩ = some (.slice (some ⟨kb, 0, none⟩) n kc) ∧ W.cell? ⟨B, 0, none⟩ = some (.int .i64 p) ∧ W.rangeAt B 1 V) := Lib.hid fun W q => by
     have hb := q.heap HB7.out (by decide)
     refine ⟨blk_cell (q.heap HT7.out (by decide)) 0 _ rfl, blk_cell hb 0 _ rfl, fun j v hj => ?_⟩
     rw [cell_of_row _ _ _ _ _ _ hb]
     rw [Nat.add_comm]
     simpa using hj
    have HK : Hid (KeepT [] w7 w7.drew) := Lib.hid ((KeepT.refl _ _).drew)
    have hpn : (p : Int) < (n : Int) := by omega
    have hp0 : (0 : Int) ≤ (p : Int) := by omega
    refine wp_region_noPanic ?_
    refine wp_region_K (S := (fun W => W.cell? ⟨db, 0, none⟩ = some (.slice (some ⟨kb, 0, none⟩) n kc) ∧ W.cell? ⟨B, 0, none⟩ = some (.int .i64 p) ∧ W.rangeAt B 1 V)) (I := [3, 5, 7]) (by kernel_rfl) (HCS.out _ HK.out) (fun hHeld => ?_)
    clear hHeld
    generalize w7.drew = wc at HK ⊢
    refine wpAnyK_free (i := 0) (v := ?_) rfl (by kernel_rfl) (by kernel_rfl) (by kernel_rfl) (fun _ _ _ h => h) (by kernel_rfl) ?_ (fun _ => (HCS.out _ HK.out)) ?_
    rotate_left
    · (intro wq; first | (go_simp; done) | (go_simp; with_reducible rfl))
    try simp only [List.getElem_toArray, List.getElem_cons_zero, Act.put, List.setIfInBounds_toArray, List.set_cons_zero, List.set_cons_succ]
    refine wpAnyK_free (i := 1) (v := ?_) rfl (by kernel_rfl) (by kernel_rfl) (by kernel_rfl) (fun _ _ _ h => h) (by kernel_rfl) ?_ (fun _ => (HCS.out _ HK.out)) ?_
    rotate_left
    · (intro wq; first | (go_simp; done) | (go_simp; with_reducible rfl))
    try simp only [List.getElem_toArray, List.getElem_cons_zero, List.getElem_cons_succ, Act.put, List.setIfInBounds_toArray, List.set_cons_zero, List.set_cons_succ]
    refine wpAnyK_free (i := 2) (v := ?_) rfl (by kernel_rfl) (by kernel_rfl) (by kernel_rfl) (fun _ _ _ h => h) (by kernel_rfl) ?_ (fun _ => (HCS.out _ HK.out)) ?_
    rotate_left
    · (intro wq; first | (go_simp; done) | (go_simp; with_reducible rfl))
    try simp only [List.getElem_toArray, List.getElem_cons_zero, List.getElem_cons_succ, Act.put, List.setIfInBounds_toArray, List.set_cons_zero, List.set_cons_succ]
    refine wpAnyK_load (i := 3) (v := ?_) rfl (by kernel_rfl) (by kernel_rfl) (by kernel_rfl) (fun _ _ _ h => h) (by kernel_rfl) (by kernel_rfl) ?_ (HCS.out _ HK.out) ?_
    rotate_left
    · (intro wq hSw; (try dsimp only at hSw); first | (go_simp; done) | (go_simp; with_reducible rfl))
    try simp only [List.getElem_toArray, List.getElem_cons_zero, List.getElem_cons_succ, Act.put, List.setIfInBounds_toArray, List.set_cons_zero, List.set_cons_succ]
    refine wpAnyK_free (i := 4) (v := ?_) rfl (by kernel_rfl) (by kernel_rfl) (by kernel_rfl) (fun _ _ _ h => h) (by kernel_rfl) ?_ (fun _ => (HCS.out _ HK.out)) ?_
    rotate_left
    · (intro wq; first | (go_simp; done) | (go_simp; with_reducible rfl))
    try simp only [List.getElem_toArray, List.getElem_cons_zero, List.getElem_cons_succ, Act.put, List.setIfInBounds_toArray, List.set_cons_zero, List.set_cons_succ]
    refine wpAnyK_load (i := 5) (v := ?_) rfl (by kernel_rfl) (by kernel_rfl) (by kernel_rfl) (fun _ _ _ h => h) (by kernel_rfl) (by kernel_rfl) ?_ (HCS.out _ HK.out) ?_
    rotate_left
    · (intro wq hSw; (try dsimp only at hSw); first | (go_simp; done) | (go_simp; with_reducible rfl))
    try simp only [List.getElem_toArray, List.getElem_cons_zero, List.getElem_cons_succ, Act.put, List.setIfInBounds_toArray, List.set_cons_zero, List.set_cons_succ]
    refine wpAnyK_free (i := 6) (v := ?_) rfl (by kernel_rfl) (by kernel_rfl) (by kernel_rfl) (fun _ _ _ h => h) (by kernel_rfl) ?_ (fun _ => (HCS.out _ HK.out)) ?_
    rotate_left
    · (intro wq; first | (go_simp; done) | (go_simp; with_reducible rfl))
    try simp only [List.getElem_toArray, List.getElem_cons_zero, List.getElem_cons_succ, Act.put, List.setIfInBounds_toArray, List.set_cons_zero, List.set_cons_succ]
    refine wpAnyK_load (i := 7) (v := .agg V.toArray) rfl (by kernel_rfl) (by kernel_rfl) (by kernel_rfl) (fun _ _ _ h => h) (by kernel_rfl) (by kernel_rfl) ?_ (HCS.out _ HK.out) ?_
    · (intro wq hSw; exact exec_load_mid _ _ (by rfl) B 1 (by rfl) V _ hSw.2.2 Tryz.underlying234 rfl (by rw [HVL.out]; exact size_sector))
    try simp only [List.getElem_toArray, List.getElem_cons_zero, List.getElem_cons_succ, Act.put, List.setIfInBounds_toArray, List.set_cons_zero, List.set_cons_succ]
    refine wpAnyK_free (i := 8) (v := ?_) rfl (by kernel_rfl) (by kernel_rfl) (by kernel_rfl) (fun _ _ _ h => h) (by kernel_rfl) ?_ (fun _ => (HCS.out _ HK.out)) ?_
    rotate_left
    · (intro wq; first | (go_simp; done) | (go_simp; with_reducible rfl))
    try simp only [List.getElem_toArray, List.getElem_cons_zero, List.getElem_cons_succ, Act.put, List.setIfInBounds_toArray, List.set_cons_zero, List.set_cons_succ]
    all_goals (
     refine wpAnyK_last (i := 9) (by kernel_rfl) rfl (by kernel_rfl) ?_
     intro K hK
     refine step_store_mid (by rfl) _ _ _ (by rfl) kb (p * 64) V.toArray (by simp [Act.eval]) (by simp [Act.eval]) (by rw [List.size_toArray, HVL.out]; exact ((HKM7.out.keep HK.out (Or.inr (fun _ _ _ _ => List.not_mem_nil))).secs p hp).2) (by rw [List.size_toArray, HVL.out]; exact size_sector) (all_oneCell_toArray HV1.out) ?_
     refine hK.out _ _ ?_
     clear hK K
     try simp only [List.getElem_toArray, List.getElem_cons_zero, List.getElem_cons_succ, Act.put])
    all_goals (
     refine wpAnyK_done (by kernel_rfl) ?_ _
     refine NoPanic.normal ?_
     have hkc := (HKM7.out.keep HK.out (Or.inr (fun _ _ _ _ => List.not_mem_nil)))
     have hkm8 := hkc.set (applyI_len HLN.out (fun x hx => (HAL.out x (List.mem_of_mem_take hx)).2)) hp HSL.out
     rw [HV.out, ← HTK.out] at hkm8
     obtain ⟨fr, C, hkb⟩ := hkc.blk
     have hk8 := (HKR7.out.trans (HK.out.mono (by simp))).trans (KeepT.ne (ts := [234]) (setCells_keep V (p * 64) wc) hkb (by decide))
     generalize wc.setCells kb (p * 64) V = w9 at hkm8 hk8 ⊢
     have HKM9 := Lib.hid hkm8; have HKR9 := Lib.hid hk8; clear hkm8 hk8 hkb hkc
     go_wp2_with fail
     go_roundw
     case rel => exact ⟨k + 1, by go_num, by omega, HKM9, HKR9⟩
     case measure => simp [intOf]; omega)
  · obtain rfl : k = m := by omega
    have ht3 := HKR.out.heap HT.out (by decide)
    have e1 := blk_cell ht3 1 (.slice ca k cc) rfl
    have g1 := blk_free ht3 1
    have HT3 := Lib.hid ht3; clear ht3
    go_wp2_with fail
    rw [HR.out]
    obtain ⟨fr, C, hkb⟩ := HKM.out.blk
    have hk4 := (KeepT.refl [190] wr).set HT3.out (by decide) 1 (.slice none 0 0)
    have hkm4 := HKM.out.keep hk4 (notTy_of hkb (by decide))
    have hlm := HM.out
    rw [hlm, List.take_length] at hkm4
    refine ⟨rfl, ⟨⟨kc, st2, none, 0, hn, setCell_row HT3.out _, World.ownsRow_nil _ _ _ _⟩, hkm4, h1, applyI_len HLN.out (fun x hx => (HAL.out x hx).2), (fun x hx => by cases hx), HLW.out⟩, ((HK.out.mono (by decide)).trans (HKR.out.mono (by decide))).trans (hk4.mono (by decide))⟩
end
end Go.Proofs.YtefpllpichhojaaGreatDoor
namespace Go.Proofs.YtefpllpichhojaaGreatDoor
def opB (o : OpD) : By := numI o.kind ++ (raw4 o.path ++ (raw4 o.dest ++ raw4 o.data))
def packOps (L : List OpD) : By := L.flatMap opB
end Go.Proofs.YtefpllpichhojaaGreatDoor
namespace Go.Proofs.YtefpllpichhojaaGreatDoor
open Go.RowKit
section
variable {w w' : World} {base tb mb K : Nat} {T : TreeD} {A : Int → NodeA}
theorem TreeM.map_ne (h : TreeM w base tb mb K T A) {g : Nat} {cur : Array Value} {t : TypeId} {fr : Nat × Nat} (hg : w.heap[g]? = some (.cells cur t fr)) : mb ≠ g := by
 obtain ⟨es, cl, hb⟩ := h.map.block
 intro e
 rw [e, hg] at hb; cases hb
theorem TreeM.kid_ne (h : TreeM w base tb mb K T A) {i : Int} (hi : i ∈ T.ids) {b : Nat} (hb : (A i).kb = some b) {g : Nat} {cur : Array Value} {t : TypeId} {fr : Nat × Nat} (hg : w.heap[g]? = some (.cells cur t fr)) : b ≠ g := by
 obtain ⟨es, cl, hbk⟩ := (h.node i hi).2.2.2.block hb
 intro e
 rw [e, hg] at hbk; cases hbk
theorem TreeM.top_ne (h : TreeM w base tb mb K T A) {i : Int} (hi : i ∈ T.ids) : tb ≠ (A i).blk := by
 intro e
 have h1 := h.top
 rw [e, (h.node i hi).1] at h1
 injection (Option.some.inj h1) with _ h2
 exact absurd h2 (by decide)
theorem TreeM.set_node (h : TreeM w base tb mb K T A) {i : Int} (hi : i ∈ T.ids) (k : Keep (· ≠ (A i).blk) w w') {n : NodeD} {a : NodeA} (hn : NodeM w' K n a) (hb : a.blk = (A i).blk) (hk : a.kb = (A i).kb) (hd : n.dir = true → ∃ b, a.kb = some b) :
 TreeM w' base tb mb K (setT T i n) (fun j => if j = i then a else A j) := by
 have hg := (h.node i hi).1
 have hD := datas_cells hg (by decide)
 have hbl : ∀ j, (if j = i then a else A j).blk = (A j).blk := fun j => by
  by_cases e : j = i
  · rw [if_pos e, e, hb]
  · rw [if_neg e]
 have hkb : ∀ j, (if j = i then a else A j).kb = (A j).kb := fun j => by
  by_cases e : j = i
  · rw [if_pos e, e, hk]
  · rw [if_neg e]
 refine ⟨k.heap (h.top_ne hi) h.top, (h.map.keep k (h.map_ne hg)).same ?_, fun j hj => ?_, fun j hj l hl e => ?_, fun j hj l hl b e1 e2 => ?_, fun j hj => ?_, fun j hj hdj => ?_, h.low.1, h.low.2.1, fun j hj => ?_⟩
 · funext j
   unfold nodeF
   simp only [hbl]
   rfl
 · rw [setT_node]
   split
   · exact hn
   · rename_i hne
     exact (h.node j hj).keep k hD (fun e => hne (h.blk j hj i hi e)) (fun b hb' => h.kid_ne hj hb' hg)
 · simp only [hbl] at e; exact h.blk j hj l hl e
 · simp only [hkb] at e1 e2; exact h.kid j hj l hl b e1 e2
 · simp only [hkb]; exact h.mkb j hj
 · rw [setT_node] at hdj
   split at hdj
   · rename_i e
     obtain ⟨b, hb⟩ := hd hdj
     exact ⟨b, by simp only [e, if_true]; exact hb⟩
   · simp only [hkb]; exact h.kbd j hj hdj
 · simp only [hbl, hkb]; exact h.low.2.2 j hj
theorem TreeM.set_kids (h : TreeM w base tb mb K T A) {i : Int} (hi : i ∈ T.ids) {b : Nat} (hb : (A i).kb = some b) (k : Keep (· ≠ b) w w') {kd : By → Option Int} {L : Nat} (hl : K ≤ L) (hm : MapF keyS w' 9 b L (kidsF kd)) :
 TreeM w' base tb mb L (setT T i { T.node i with kids := kd }) A := by
 obtain ⟨es, cl, hbk⟩ := (h.node i hi).2.2.2.block hb
 have hD := datas_map hbk
 have hne : ∀ {g : Nat} {cur : Array Value} {t : TypeId} {fr : Nat × Nat}, w.heap[g]? = some (.cells cur t fr) → g ≠ b := fun hg e => by rw [e, hbk] at hg; cases hg
 have h' := h.mono hl
 refine ⟨k.heap (hne h.top) h.top, h'.map.keep k (fun e => h.mkb i hi (by rw [hb, e])), fun j hj => ?_, h.blk, h.kid, h.mkb, fun j hj hdj => h.kbd j hj (by rw [setT_node] at hdj; split at hdj; (rename_i e; rw [e]; exact hdj); exact hdj), h.low⟩
 rw [setT_node]
 split
 · rename_i e
   subst e
   obtain ⟨h1, h2, h3, _⟩ := h.node j hj
   exact ⟨k.heap (hne h1) h1, h2.keep k hD, h3, Or.inr ⟨b, hb, hm⟩⟩
 · rename_i hji
   exact (h'.node j hj).keep k hD (hne (h.node j hj).1) (fun c hc e => hji (h.kid j hj i hi b (by rw [hc, e]) hb))
theorem TreeM.put (h : TreeM w base tb mb K T A) (i : Int) (k : Keep (· ≠ mb) w w') {n : NodeD} {a : NodeA} (hn : NodeM w K n a) (hb : ∀ j ∈ T.ids, a.blk ≠ (A j).blk) (hk : ∀ j ∈ T.ids, ∀ b, a.kb = some b → (A j).kb ≠ some b) (hkm : a.kb ≠ some mb) (hd : n.dir = true → ∃ b, a.kb = some b) (hlo : base ≤ a.blk ∧ ∀ b, a.kb = some b → base ≤ b) {L : Nat} (hl : K ≤ L)
 (hm : MapF keyI w' 3 mb L (fun z => if z = i then some (.pointer (some ⟨a.blk, 0, none⟩)) else nodeF T A z)) {I : List Int} (hI : ∀ j, j ∈ I ↔ j = i ∨ j ∈ T.ids) :
 TreeM w' base tb mb L { T with ids := I, node := fun j => if j = i then n else T.node j } (fun j => if j = i then a else A j) := by
 obtain ⟨es, cl, hbk⟩ := h.map.block
 have hD := datas_map hbk
 have hne : ∀ {g : Nat} {cur : Array Value} {t : TypeId} {fr : Nat × Nat}, w.heap[g]? = some (.cells cur t fr) → g ≠ mb := fun hg e => by rw [e, hbk] at hg; cases hg
 have hin : ∀ j ∈ I, j ≠ i → j ∈ T.ids := fun j hj hji => ((hI j).1 hj).resolve_left hji
 refine ⟨k.heap (hne h.top) h.top, hm.same ?_, fun j hj => ?_, fun j hj l hl' e => ?_, fun j hj l hl' b e1 e2 => ?_, fun j hj => ?_, fun j hj hdj => ?_, h.low.1, h.low.2.1, fun j hj => ?_⟩
 · funext z
   unfold nodeF
   by_cases hz : z = i
   · rw [if_pos hz, if_pos ((hI z).2 (Or.inl hz))]
     show _ = some (Value.pointer (some ⟨(if z = i then a else A z).blk, 0, none⟩))
     rw [if_pos hz]
   · rw [if_neg hz]
     have : z ∈ I ↔ z ∈ T.ids := by rw [hI z]; exact ⟨fun e => e.resolve_left hz, Or.inr⟩
     simp only [this, if_neg hz]
 · show NodeM w' L (if j = i then n else T.node j) (if j = i then a else A j)
   split
   · exact (hn.keep k hD (hne hn.1) (fun b hb' e => hkm (by rw [hb', e]))).mono hl
   · rename_i hji
     have hj' := hin j hj hji
     exact ((h.node j hj').keep k hD (hne (h.node j hj').1) (fun b hb' e => h.mkb j hj' (by rw [hb', e]))).mono hl
 · by_cases h1 : j = i
   · by_cases h2 : l = i
     · rw [h1, h2]
     · rw [if_pos h1, if_neg h2] at e
       exact absurd e (hb l (hin l hl' h2))
   · by_cases h2 : l = i
     · rw [if_neg h1, if_pos h2] at e
       exact absurd e.symm (hb j (hin j hj h1))
     · rw [if_neg h1, if_neg h2] at e
       exact h.blk j (hin j hj h1) l (hin l hl' h2) e
 · by_cases h1 : j = i
   · by_cases h2 : l = i
     · rw [h1, h2]
     · rw [if_pos h1] at e1
       rw [if_neg h2] at e2
       exact absurd e2 (hk l (hin l hl' h2) b e1)
   · by_cases h2 : l = i
     · rw [if_neg h1] at e1
       rw [if_pos h2] at e2
       exact absurd e1 (hk j (hin j hj h1) b e2)
     · rw [if_neg h1] at e1
       rw [if_neg h2] at e2
       exact h.kid j (hin j hj h1) l (hin l hl' h2) b e1 e2
 · show (if j = i then a else A j).kb ≠ some mb
   split
   · exact hkm
   · rename_i hji; exact h.mkb j (hin j hj hji)
 · show ∃ b, (if j = i then a else A j).kb = some b
   have hdj : (if j = i then n else T.node j).dir = true := hdj
   by_cases e : j = i
   · rw [if_pos e] at hdj ⊢; exact hd hdj
   · rw [if_neg e] at hdj ⊢; exact h.kbd j (hin j hj e) hdj
 · show base ≤ (if j = i then a else A j).blk ∧ ∀ b, (if j = i then a else A j).kb = some b → base ≤ b
   split
   · exact hlo
   · rename_i hji; exact h.low.2.2 j (hin j hj hji)
theorem TreeM.del (h : TreeM w base tb mb K T A) (i : Int) (k : Keep (· ≠ mb) w w') (hm : MapF keyI w' 3 mb K (fun z => if z = i then none else nodeF T A z)) : TreeM w' base tb mb K (delT T i) A := by
 obtain ⟨es, cl, hbk⟩ := h.map.block
 have hD := datas_map hbk
 have hne : ∀ {g : Nat} {cur : Array Value} {t : TypeId} {fr : Nat × Nat}, w.heap[g]? = some (.cells cur t fr) → g ≠ mb := fun hg e => by rw [e, hbk] at hg; cases hg
 have hmem : ∀ j, j ∈ (delT T i).ids ↔ j ∈ T.ids ∧ j ≠ i := by intro j; simp [delT]
 have hin : ∀ j, j ∈ (delT T i).ids → j ∈ T.ids := fun j hj => ((hmem j).1 hj).1
 refine ⟨k.heap (hne h.top) h.top, hm.same ?_, fun j hj => (h.node j (hin j hj)).keep k hD (hne (h.node j (hin j hj)).1) (fun b hb e => h.mkb j (hin j hj) (by rw [hb, e])), fun j hj l hl => h.blk j (hin j hj) l (hin l hl), fun j hj l hl => h.kid j (hin j hj) l (hin l hl), fun j hj => h.mkb j (hin j hj), fun j hj => h.kbd j (hin j hj), h.low.1, h.low.2.1, fun j hj => h.low.2.2 j (hin j hj)⟩
 funext z
 unfold nodeF
 simp only [hmem]
 by_cases hz : z = i
 · simp [hz]
 · simp [hz]
theorem TreeM.set_next (h : TreeM w base tb mb K T A) (v : Int) : TreeM (w.setCell ⟨tb, 1, none⟩ (.int .i64 v)) base tb mb K { T with next := v } A := by
 have k : Keep (· ≠ tb) w (w.setCell ⟨tb, 1, none⟩ (.int .i64 v)) := (Keep.refl _ _).setCell (fun _ h => h) 1 _
 have hD := datas_cells h.top (by decide)
 refine ⟨by have := setCell_row h.top (i := 1) (.int .i64 v); simpa using this, h.map.keep k (h.map_ne h.top), fun j hj => (h.node j hj).keep k hD (fun e => h.top_ne hj e.symm) (fun b hb => h.kid_ne hj hb h.top), h.blk, h.kid, h.mkb, h.kbd, h.low⟩
theorem TreeM.set_links (h : TreeM w base tb mb K T A) {i : Int} (hi : i ∈ T.ids) (v : Int) : TreeM (w.setCell ⟨(A i).blk, 1, none⟩ (.int .i64 v)) base tb mb K (setT T i { T.node i with links := v }) A := by
 have k : Keep (· ≠ (A i).blk) w (w.setCell ⟨(A i).blk, 1, none⟩ (.int .i64 v)) := (Keep.refl _ _).setCell (fun _ h => h) 1 _
 obtain ⟨h1, h2, h3, h4⟩ := h.node i hi
 have hn : NodeM (w.setCell ⟨(A i).blk, 1, none⟩ (.int .i64 v)) K { T.node i with links := v } (A i) :=
  ⟨by have := setCell_row h1 (i := 1) (.int .i64 v); simpa [nodeV] using this, h2.keep k (datas_cells h1 (by decide)), h3, h4.keep k (fun b hb => h.kid_ne hi hb h1)⟩
 have := h.set_node hi k hn rfl rfl (h.kbd i hi)
 have e : (fun j => if j = i then A i else A j) = A := by
  funext j
  by_cases e : j = i
  · rw [if_pos e, e]
  · rw [if_neg e]
 rw [e] at this
 exact this
theorem kidsF_with (k : By → Option Int) (x : By) (i : Int) : (fun z => if z = x then some (Value.int .i64 i) else kidsF k z) = kidsF (withK k x i) := by
 funext z
 unfold kidsF withK
 split <;> rfl
theorem kidsF_less (k : By → Option Int) (x : By) : (fun z => if z = x then none else kidsF k z) = kidsF (lessK k x) := by
 funext z
 unfold kidsF lessK
 split <;> rfl
end
end Go.Proofs.YtefpllpichhojaaGreatDoor
namespace Go.Proofs.YtefpllpichhojaaGreatDoor
open Go.RowKit
def NewR (q : Int) (w : World) (e : Ending) (w' : World) : Prop := ∃ tb mb A, e = .returned (.pointer (some ⟨tb, 0, none⟩)) ∧ TreeM w' w.heap.size tb mb 1 (newT q) A ∧ Ext w w'
set_option maxRecDepth 100000 in
theorem tree_New (q : Int) (w : World) : Calls Tryz.prog 109 #[.int .i64 q] w (NewR q w) := by
 obtain ⟨R, hR⟩ : ∃ R, R = NewR q w := ⟨_, rfl⟩
 rw [← hR]
 have HR := Lib.hid hR; clear hR
 have hmk := @run_makeMap Tryz.prog
 obtain ⟨w3, hw3⟩ : ∃ x, x = ((w.alloc (.map #[] 0)).alloc (.map #[] 0)).alloc (.cells #[.bool true, .int .i64 1, .slice none 0 0, .map (some (w.heap.size + 1))] 199) := ⟨_, rfl⟩
 have hx3 : Ext w w3 := by rw [hw3]; exact ((Ext.alloc _ _).trans (Ext.alloc _ _)).trans (Ext.alloc _ _)
 have hm3 : MapF keyI w3 3 w.heap.size 0 (fun _ => none) := by rw [hw3]; exact (MapF.made keyI w 3).ext ((Ext.alloc _ _).trans (Ext.alloc _ _))
 have hn3 : MapF keyS w3 9 (w.heap.size + 1) 0 (fun _ => none) := by
  have h := (MapF.made keyS (w.alloc (.map #[] 0)) 9).ext (Ext.alloc _ (.cells #[.bool true, .int .i64 1, .slice none 0 0, .map (some (w.heap.size + 1))] 199))
  rw [World.size_alloc] at h
  rw [hw3]; exact h
 have hb3 : w3.heap[w.heap.size + 1 + 1]? = some (.cells #[.bool true, .int .i64 1, .slice none 0 0, .map (some (w.heap.size + 1))] 199 (0, 0)) := by
  have h := heap_alloc_new ((w.alloc (.map #[] 0)).alloc (.map #[] 0)) (.cells #[.bool true, .int .i64 1, .slice none 0 0, .map (some (w.heap.size + 1))] 199)
  rw [World.size_alloc, World.size_alloc] at h
  rw [hw3]; exact h
 have hs3 : w3.heap.size = w.heap.size + 3 := by rw [hw3, World.size_alloc, World.size_alloc, World.size_alloc]
 obtain ⟨w4, hrun, hm4, hk4⟩ := hm3.store (t := 201) int_keyedA Tryz.underlying201 (by decide) keyI_inj (.pointer (some ⟨w.heap.size + 1 + 1, 0, none⟩)) (key_int (i := 1) (by omega) (by omega))
 obtain ⟨es, cl, hbm⟩ := hm3.block
 have hn4 := hn3.keep hk4 (show w.heap.size + 1 ≠ w.heap.size by omega)
 have hb4 := hk4.heap (show w.heap.size + 1 + 1 ≠ w.heap.size by omega) hb3
 have hx4 : Ext w w4 := ((Keep.of_ext (S := fun j => j < w.heap.size) hx3).andThen hk4 (fun j _ (hj : j < w.heap.size) => by show j ≠ w.heap.size; omega)).ext_lt
 have hs4 := hk4.size
 rw [hw3] at hrun
 have HALL := Lib.hid (And.intro hm4 (And.intro hn4 (And.intro hb4 (And.intro hx4 hs4))))
 clear hm3 hn3 hb3 hx3 hm4 hk4 hn4 hb4 hx4 hbm hs4
 have HS3 := Lib.hid hs3; clear hs3 hw3
 go_enter Tryz.func109, Tryz.ntmps109
 go_wp2_with fail
 rw [HR.out]
 obtain ⟨hm4, hn4, hb4, hx4, hs4⟩ := HALL.out
 have hs3 := HS3.out
 refine ⟨w4.heap.size, w.heap.size, fun _ => ⟨w.heap.size + 1 + 1, none, 0, some (w.heap.size + 1)⟩, rfl, ?_, hx4.trans (Ext.alloc _ _)⟩
 have hxa := Ext.alloc w4 (.cells #[.map (some w.heap.size), .int .i64 2, .int .i64 (max 0 q)] 203)
 refine ⟨?_, (hm4.ext hxa).same ?_, fun i hi => ⟨hxa.heap hb4, Or.inl rfl, Nat.le_refl _, Or.inr ⟨_, rfl, ((hn4.ext hxa).mono (Nat.zero_le _)).same rfl⟩⟩, fun i hi j hj _ => ?_, fun i hi j hj b _ _ => ?_, fun i hi e => ?_, fun i hi _ => ⟨_, rfl⟩, by omega, Nat.le_refl _, fun i hi => ⟨by show w.heap.size ≤ w.heap.size + 1 + 1; omega, fun b hb => by have := Option.some.inj hb; omega⟩⟩
 · exact heap_alloc_new w4 _
 · funext i
   unfold nodeF newT
   simp
 · simp only [newT, List.mem_singleton] at hi hj; rw [hi, hj]
 · simp only [newT, List.mem_singleton] at hi hj; rw [hi, hj]
 · have := Option.some.inj e; omega
end Go.Proofs.YtefpllpichhojaaGreatDoor
namespace Go.Proofs.YtefpllpichhojaaGreatDoor
open Go.RowKit
section
variable {base tb mb N L : Nat} {T : TreeD} {A : Int → NodeA}
def StepR (base tb mb N : Nat) (r : TreeD × Int) (w : World) (e : Ending) (w' : World) : Prop :=
 ∃ A', e = .returned (.int .i64 r.2) ∧ TreeM w' base tb mb (N + 2) r.1 A' ∧ Keep (· < base) w w'
set_option maxRecDepth 100000 in
set_option maxHeartbeats 6400000 in
theorem file_write (kd : Int) (pt ds dt : By) (oa : Option Addr) (oc : Nat) (d : Int) (x : By) (i : Int) (w : World) (hT : TreeM w base tb mb N T A) (hg : GoodT T) (hf : FitT T L) (hL : L ≤ 1000000000) (hN : N ≤ 1000000000) (hd : d ∈ T.ids) (hdd : (T.node d).dir = true) (hx : x.length ≤ 100000) (hi : i ∈ T.ids) (hid : (T.node i).dir = false) (hbs : base ≤ w.heap.size) (hk : kd = 3) (hB : Bytes w oa dt) (hdl : dt.length ≤ 3500) :
 Calls Tryz.prog 167 #[.pointer (some ⟨tb, 0, none⟩), .agg #[.int .i64 kd, .string (bs pt), .string (bs ds), .slice oa dt.length oc], .pointer (some ⟨(A d).blk, 0, none⟩), .string (bs x), .int .i64 i] w (StepR base tb mb N (setT T i ⟨false, (T.node i).links, dt, noK⟩, 0) w) := by
 obtain ⟨R, hR⟩ : ∃ R, R = StepR base tb mb N (setT T i ⟨false, (T.node i).links, dt, noK⟩, 0) w := ⟨_, rfl⟩
 rw [← hR]
 have HR := Lib.hid hR; clear hR
 have HB := Lib.hid hB; clear hB
 have hT0 := hT
 have hlow := hg.low i hi
 have hnx := hf.next
 have hlk0 := hf.links i hi
 have HT := Lib.hid hT; clear hT
 have HG := Lib.hid hg; clear hg
 have HF := Lib.hid hf; clear hf
 have HD := Lib.hid hd; clear hd
 have HDD := Lib.hid hdd; clear hdd
 have HI := Lib.hid hi; clear hi
 have HID := Lib.hid hid; clear hid
 have hkx := key_by hx
 have hki := key_int (i := i) (by omega) (by omega)
 obtain ⟨w1, hw1⟩ : ∃ z, z = w.alloc (.cells #[.int .i64 kd, .string (bs pt), .string (bs ds), .slice oa dt.length oc] 52) := ⟨_, rfl⟩
 have hx1 : Ext w w1 := by rw [hw1]; exact Ext.alloc _ _
 have hbx : w1.heap[w.heap.size]? = some (.cells #[.int .i64 kd, .string (bs pt), .string (bs ds), .slice oa dt.length oc] 52 (0, 0)) := by rw [hw1]; exact heap_alloc_new w _
 have k0 := blk_cell hbx 0 _ rfl
 have hT1 := HT.out.ext hx1
 have c0 := blk_cell hT1.top 0 (Value.map (some mb)) rfl
 have hlk := hT1.look HI.out (by omega) (by omega)
 have HX1 := Lib.hid hx1; clear hx1
 have HT1 := Lib.hid hT1; clear hT1 hT0
 have HBX := Lib.hid hbx; clear hbx
 have HKD := Lib.hid hk; clear hk
 go_enter Tryz.func167, Tryz.ntmps167
 go_upto_region 1 with fail
 rw [← hw1]
 clear hw1
 have HBS := Lib.hid hbs
 obtain ⟨BX, hBXe⟩ : ∃ z, z = w.heap.size := ⟨_, rfl⟩
 have hBX2 := HBX.out
 rw [← hBXe] at hBX2 hbs k0 ⊢
 have HBX2 := Lib.hid hBX2; clear hBX2 HBX hBXe
 have hk := HKD.out
 go_upto_region 4 with fail
 clear c0 hlk k0
 have hcs : ∀ W, Ext w1 W → (W.cell? ⟨tb, 0, none⟩ = some (.map (some mb)) ∧ W.cell? ⟨(A i).blk, 1, none⟩ = some (.int .i64 (T.node i).links) ∧ W.cell? ⟨BX, 3, none⟩ = some (.slice oa dt.length oc)) := fun W k => ⟨blk_cell (HT1.out.ext k).top 0 _ rfl, blk_cell ((HT1.out.ext k).node i HI.out).1 1 _ rfl, blk_cell (k.heap HBX2.out) 3 _ rfl⟩
 have HCS := Lib.hid hcs; clear hcs
 have HK := Lib.hid ((Ext.refl w1).drew)
 refine wp_region_noPanic ?_
 refine wp_region_held_drew (S := (fun W => W.cell? ⟨tb, 0, none⟩ = some (.map (some mb)) ∧ W.cell? ⟨(A i).blk, 1, none⟩ = some (.int .i64 (T.node i).links) ∧ W.cell? ⟨BX, 3, none⟩ = some (.slice oa dt.length oc))) (by kernel_rfl) (HCS.out _ HK.out) (fun hHeld => ?_)
 clear hHeld
 generalize w1.drew = wc at HK ⊢
 refine wpAnyH_take (i := 0) (v := ?_) rfl (by kernel_rfl) (by kernel_rfl) (by kernel_rfl) (fun _ _ _ h => h) (Or.inl ⟨by kernel_rfl, ?_⟩) (HCS.out _ HK.out) ?_
 rotate_left
 · (intro wq _; first | (go_simp; done) | (go_simp; with_reducible rfl))
 try simp only [List.getElem_toArray, List.getElem_cons_zero, Act.put, List.setIfInBounds_toArray, List.set_cons_zero, List.set_cons_succ]
 refine wpAnyH_take (i := 1) (v := ?_) rfl (by kernel_rfl) (by kernel_rfl) (by kernel_rfl) (fun _ _ _ h => h) (Or.inl ⟨by kernel_rfl, ?_⟩) (HCS.out _ HK.out) ?_
 rotate_left
 · (intro wq _; first | (go_simp; done) | (go_simp; with_reducible rfl))
 try simp only [List.getElem_toArray, List.getElem_cons_zero, List.getElem_cons_succ, Act.put, List.setIfInBounds_toArray, List.set_cons_zero, List.set_cons_succ]
 refine wpAnyH_take (i := 2) (v := ?_) rfl (by kernel_rfl) (by kernel_rfl) (by kernel_rfl) (fun _ _ _ h => h) (Or.inl ⟨by kernel_rfl, ?_⟩) (HCS.out _ HK.out) ?_
 rotate_left
 · (intro wq _; first | (go_simp; done) | (go_simp; with_reducible rfl))
 try simp only [List.getElem_toArray, List.getElem_cons_zero, List.getElem_cons_succ, Act.put, List.setIfInBounds_toArray, List.set_cons_zero, List.set_cons_succ]
 refine wpAnyH_take (i := 3) (v := ?_) rfl (by kernel_rfl) (by kernel_rfl) (by kernel_rfl) (fun _ _ _ h => h) (Or.inl ⟨by kernel_rfl, ?_⟩) (HCS.out _ HK.out) ?_
 rotate_left
 · (intro wq hSw; (try dsimp only at hSw); first | (go_simp; done) | (go_simp; with_reducible rfl))
 try simp only [List.getElem_toArray, List.getElem_cons_zero, List.getElem_cons_succ, Act.put, List.setIfInBounds_toArray, List.set_cons_zero, List.set_cons_succ]
 refine wpAnyH_take (i := 4) (v := ?_) rfl (by kernel_rfl) (by kernel_rfl) (by kernel_rfl) (fun _ _ _ h => h) (Or.inl ⟨by kernel_rfl, ?_⟩) (HCS.out _ HK.out) ?_
 rotate_left
 · (intro wq _; first | (go_simp; done) | (go_simp; with_reducible rfl))
 try simp only [List.getElem_toArray, List.getElem_cons_zero, List.getElem_cons_succ, Act.put, List.setIfInBounds_toArray, List.set_cons_zero, List.set_cons_succ]
 refine wpAnyH_take (i := 5) (v := ?_) rfl (by kernel_rfl) (by kernel_rfl) (by kernel_rfl) (fun _ _ _ h => h) (Or.inl ⟨by kernel_rfl, ?_⟩) (HCS.out _ HK.out) ?_
 rotate_left
 · (intro wq _; first | (go_simp; done) | (go_simp; with_reducible rfl))
 try simp only [List.getElem_toArray, List.getElem_cons_zero, List.getElem_cons_succ, Act.put, List.setIfInBounds_toArray, List.set_cons_zero, List.set_cons_succ]
 refine wpAnyH_take (i := 6) (v := ?_) rfl (by kernel_rfl) (by kernel_rfl) (by kernel_rfl) (fun _ _ _ h => h) (Or.inl ⟨by kernel_rfl, ?_⟩) (HCS.out _ HK.out) ?_
 rotate_left
 · (intro wq _; first | (go_simp; done) | (go_simp; with_reducible rfl))
 try simp only [List.getElem_toArray, List.getElem_cons_zero, List.getElem_cons_succ, Act.put, List.setIfInBounds_toArray, List.set_cons_zero, List.set_cons_succ]
 refine wpAnyH_take (i := 7) (v := ?_) rfl (by kernel_rfl) (by kernel_rfl) (by kernel_rfl) (fun _ _ _ h => h) (Or.inl ⟨by kernel_rfl, ?_⟩) (HCS.out _ HK.out) ?_
 rotate_left
 · (intro wq _; first | (go_simp; done) | (go_simp; with_reducible rfl))
 try simp only [List.getElem_toArray, List.getElem_cons_zero, List.getElem_cons_succ, Act.put, List.setIfInBounds_toArray, List.set_cons_zero, List.set_cons_succ]
 refine wpAnyH_take (i := 8) (v := ?_) rfl (by kernel_rfl) (by kernel_rfl) (by kernel_rfl) (fun _ _ _ h => h) (Or.inl ⟨by kernel_rfl, ?_⟩) (HCS.out _ HK.out) ?_
 rotate_left
 · (intro wq hSw; (try dsimp only at hSw); first | (go_simp; done) | (go_simp; with_reducible rfl))
 try simp only [List.getElem_toArray, List.getElem_cons_zero, List.getElem_cons_succ, Act.put, List.setIfInBounds_toArray, List.set_cons_zero, List.set_cons_succ]
 refine wpAnyH_take (i := 9) (v := ?_) rfl (by kernel_rfl) (by kernel_rfl) (by kernel_rfl) (fun _ _ _ h => h) (Or.inl ⟨by kernel_rfl, ?_⟩) (HCS.out _ HK.out) ?_
 rotate_left
 · (intro wq _; first | (go_simp; done) | (go_simp; with_reducible rfl))
 try simp only [List.getElem_toArray, List.getElem_cons_zero, List.getElem_cons_succ, Act.put, List.setIfInBounds_toArray, List.set_cons_zero, List.set_cons_succ]
 refine wpAnyH_take (i := 10) (v := ?_) rfl (by kernel_rfl) (by kernel_rfl) (by kernel_rfl) (fun _ _ _ h => h) (Or.inl ⟨by kernel_rfl, ?_⟩) (HCS.out _ HK.out) ?_
 rotate_left
 · (intro wq hSw; (try dsimp only at hSw); first | (go_simp; done) | (go_simp; with_reducible rfl))
 try simp only [List.getElem_toArray, List.getElem_cons_zero, List.getElem_cons_succ, Act.put, List.setIfInBounds_toArray, List.set_cons_zero, List.set_cons_succ]
 all_goals (
  first
   | refine wpAnyH_ready (rs := [11]) (by decide +kernel) (by simp) ?_
  repeat' (first | exact AllReadyH.nil | (refine AllReadyH.cons rfl (fun K hK => ?_) ?_)))
 all_goals (
  first
   | (go_simp
      first
       | (go_at_call 114
          refine (clone_y oa oc dt wc (HB.out.ext (HX1.out.trans HK.out)) (by omega)).mono ?_
          rintro e wn ⟨ca, cc, rfl, hcc, hdm, _, hx⟩
          replace HK := Lib.hid (HK.out.trans hx)
          have HDM := Lib.hid hdm
          clear hx hdm
          go_wp2_with fail
          refine hK.out _ _ (HCS.out _ HK.out) (fun _ => ?_)
          clear hK K
          obtain ⟨wc, rfl⟩ : ∃ z : World, z = wn := ⟨_, rfl⟩
          try simp only [List.getElem_toArray, List.getElem_cons_zero, List.getElem_cons_succ, Act.put, List.setIfInBounds_toArray, List.set_cons_zero, List.set_cons_succ]
          refine wpAnyH_take (i := 12) (v := ?_) rfl (by kernel_rfl) (by kernel_rfl) (by kernel_rfl) (fun _ _ _ h => h) (Or.inl ⟨by kernel_rfl, ?_⟩) (HCS.out _ HK.out) ?_
          rotate_left
          · (intro wq _; first | (go_simp; done) | (go_simp; with_reducible rfl))
          try simp only [List.getElem_toArray, List.getElem_cons_zero, List.getElem_cons_succ, Act.put, List.setIfInBounds_toArray, List.set_cons_zero, List.set_cons_succ])))
 all_goals (
  first
   | refine wpAnyH_ready (rs := [13]) (by decide +kernel) (by simp) ?_
  repeat' (first | exact AllReadyH.nil | (refine AllReadyH.cons rfl (fun K hK => ?_) ?_)))
 all_goals (
  first
   | (go_simp
      first
       | (have hx := Ext.alloc wc (.cells #[.bool false, .int .i64 (T.node i).links, .slice ca dt.length cc, .map none] 199)
          have hbn := heap_alloc_new wc (.cells #[.bool false, .int .i64 (T.node i).links, .slice ca dt.length cc, .map none] 199)
          have hle := HK.out.size
          refine hK.out _ (wc.alloc (.cells #[.bool false, .int .i64 (T.node i).links, .slice ca dt.length cc, .map none] 199)) (HCS.out _ (HK.out.trans hx)) (fun _ => ?_)
          clear hK K
          replace HDM := Lib.hid (HDM.out.keep (Keep.of_ext (S := fun _ => True) hx) (datas_all wc))
          have hlt : ∀ j ∈ T.ids, wc.heap.size ≠ (A j).blk := fun j hj e => by
           have hq := (((HT1.out.ext HK.out).node j hj).1)
           have := (Array.getElem?_eq_some_iff.1 hq).1
           omega
          replace HK := Lib.hid (HK.out.trans hx)
          obtain ⟨NB, hNB⟩ : ∃ z, z = wc.heap.size := ⟨_, rfl⟩
          rw [← hNB] at hbn hle hlt ⊢
          have HBN := Lib.hid hbn
          have HLT := Lib.hid hlt
          clear hbn hNB hx hlt
          generalize wc.alloc (.cells #[.bool false, .int .i64 (T.node i).links, .slice ca dt.length cc, .map none] 199) = wc at *
          try simp only [List.getElem_toArray, List.getElem_cons_zero, List.getElem_cons_succ, Act.put, List.setIfInBounds_toArray, List.set_cons_zero, List.set_cons_succ])))
 all_goals (
  refine wpAnyH_ready (rs := [14]) (by kernel_rfl) (by simp) ?_
  refine AllReadyH.cons rfl (fun K hK => ?_) AllReadyH.nil
  have hTc := HT1.out.ext HK.out
  have hnn : NodeM wc N ⟨false, (T.node i).links, dt, noK⟩ ⟨NB, ca, cc, none⟩ := ⟨HBN.out, HDM.out, hcc, Or.inl ⟨rfl, rfl⟩⟩
  have hx1s := HX1.out.size
  have hbw := HBS.out
  obtain ⟨w2, hrun, hm2, hk2⟩ := hTc.map.store (t := 201) int_keyedA Tryz.underlying201 (by unfold maxLen; omega) keyI_inj (.pointer (some ⟨NB, 0, none⟩)) hki
  have hT2 := (hTc.mono (Nat.le_succ N)).put i hk2 (hnn.mono (Nat.le_succ N)) HLT.out (fun j _ b e => by cases e) (fun e => by cases e) (fun e => by cases e) ⟨by show base ≤ NB; omega, fun b e => by cases e⟩ (Nat.le_succ (N + 1)) (hm2.mono (Nat.le_succ (N + 1))) (I := T.ids) (fun j => ⟨Or.inr, fun h => h.elim (fun e => e ▸ HI.out) id⟩)
  have hkw : Keep (· < base) w w2 := (Keep.of_ext (HX1.out.trans HK.out)).andThen hk2 (fun j _ (hj : j < base) => by have := hTc.low.2.1; show j ≠ mb; omega)
  obtain ⟨es, cl, hbm⟩ := hTc.map.block
  have hbx2 := hk2.heap (g := BX) (by intro e; have h := HK.out.heap HBX2.out; rw [e, hbm] at h; cases h) (HK.out.heap HBX2.out)
  have hni := hk2.heap (g := (A i).blk) (by intro e; have h := (hTc.node i HI.out).1; rw [e, hbm] at h; cases h) (hTc.node i HI.out).1
  go_simp
  refine hK.out _ _ ⟨blk_cell hT2.top 0 _ rfl, blk_cell hni 1 _ rfl, blk_cell hbx2 3 _ rfl⟩ (fun _ => ?_)
  clear hK K hrun
  try simp only [List.getElem_toArray, List.getElem_cons_zero, List.getElem_cons_succ, Act.put, List.setIfInBounds_toArray, List.set_cons_zero, List.set_cons_succ])
 all_goals (
  refine wpAnyH_done (by kernel_rfl) ?_ _
  refine NoPanic.normal ?_
  have HT2 := Lib.hid hT2
  have HKW := Lib.hid hkw
  clear hT2 hkw hTc hnn hm2 hk2 hbm hbx2 hni HT HT1 HCS
  go_wp2_with fail
  rw [HR.out]
  exact ⟨_, rfl, HT2.out, HKW.out⟩)
end
end Go.Proofs.YtefpllpichhojaaGreatDoor
namespace Go.Proofs.YtefpllpichhojaaGreatDoor
open Go.RowKit
section
variable {base tb mb N L : Nat} {T : TreeD} {A : Int → NodeA}
set_option maxRecDepth 100000 in
set_option maxHeartbeats 6400000 in
theorem file_unlink (kd : Int) (pt ds dt : By) (oa : Option Addr) (oc : Nat) (d : Int) (x : By) (i : Int) (w : World) (hT : TreeM w base tb mb N T A) (hg : GoodT T) (hf : FitT T L) (hL : L ≤ 1000000000) (_hN : N ≤ 1000000000) (hd : d ∈ T.ids) (hdd : (T.node d).dir = true) (hx : x.length ≤ 100000) (hi : i ∈ T.ids) (hid : (T.node i).dir = false) (hbs : base ≤ w.heap.size) (hk : kd = 6) :
 Calls Tryz.prog 167 #[.pointer (some ⟨tb, 0, none⟩), .agg #[.int .i64 kd, .string (bs pt), .string (bs ds), .slice oa dt.length oc], .pointer (some ⟨(A d).blk, 0, none⟩), .string (bs x), .int .i64 i] w (StepR base tb mb N (linkT (cutT T d x) i (-1), 0) w) := by
 obtain ⟨R, hR⟩ : ∃ R, R = StepR base tb mb N (linkT (cutT T d x) i (-1), 0) w := ⟨_, rfl⟩
 rw [← hR]
 have HR := Lib.hid hR; clear hR
 have hT0 := hT
 have hlow := hg.low i hi
 have hnx := hf.next
 have hlk0 := hf.links i hi
 have HT := Lib.hid hT; clear hT
 have HG := Lib.hid hg; clear hg
 have HF := Lib.hid hf; clear hf
 have HD := Lib.hid hd; clear hd
 have HDD := Lib.hid hdd; clear hdd
 have HI := Lib.hid hi; clear hi
 have HID := Lib.hid hid; clear hid
 have hkx := key_by hx
 have hki := key_int (i := i) (by omega) (by omega)
 obtain ⟨w1, hw1⟩ : ∃ z, z = w.alloc (.cells #[.int .i64 kd, .string (bs pt), .string (bs ds), .slice oa dt.length oc] 52) := ⟨_, rfl⟩
 have hx1 : Ext w w1 := by rw [hw1]; exact Ext.alloc _ _
 have hbx : w1.heap[w.heap.size]? = some (.cells #[.int .i64 kd, .string (bs pt), .string (bs ds), .slice oa dt.length oc] 52 (0, 0)) := by rw [hw1]; exact heap_alloc_new w _
 have k0 := blk_cell hbx 0 _ rfl
 have hT1 := HT.out.ext hx1
 have c0 := blk_cell hT1.top 0 (Value.map (some mb)) rfl
 have hlk := hT1.look HI.out (by omega) (by omega)
 have HX1 := Lib.hid hx1; clear hx1
 have HT1 := Lib.hid hT1; clear hT1 hT0
 have HBX := Lib.hid hbx; clear hbx
 have HKD := Lib.hid hk; clear hk
 go_enter Tryz.func167, Tryz.ntmps167
 go_upto_region 1 with fail
 rw [← hw1]
 clear hw1
 have HBS := Lib.hid hbs
 obtain ⟨BX, hBXe⟩ : ∃ z, z = w.heap.size := ⟨_, rfl⟩
 have hBX2 := HBX.out
 rw [← hBXe] at hBX2 hbs k0 ⊢
 have HBX2 := Lib.hid hBX2; clear hBX2 HBX hBXe
 have hk := HKD.out
 obtain ⟨kb, hkb⟩ := HT1.out.kbd d HD.out HDD.out
 have c3 : w1.cell? ⟨(A d).blk, 3, none⟩ = some (.map (some kb)) := by rw [← hkb]; exact blk_cell (HT1.out.node d HD.out).1 3 _ rfl
 have hmk : MapF keyS w1 9 kb N (kidsF (T.node d).kids) := by
  rcases (HT1.out.node d HD.out).2.2.2 with ⟨e, _⟩ | ⟨b, e, hm⟩
  · rw [hkb] at e; cases e
  · rw [hkb] at e; cases e; exact hm
 have HKB := Lib.hid hkb; clear hkb
 have HMK := Lib.hid hmk; clear hmk
 have hni : (cutT T d x).node i = T.node i := by
  unfold cutT
  rw [setT_node, if_neg]
  intro e
  have h1 := HID.out
  rw [e, HDD.out] at h1; cases h1
 have HNI := Lib.hid hni; clear hni
 go_upto_region 8 with (at_delete; refine wpList_delete_F rfl _ _ 65 rfl 3 str_keyed Tryz.underlying65 kb N _ rfl HMK.out keyS_inj _ x rfl hkx ?_; intro w2 hm2 hk2; go_frame)
 rw [kidsF_less] at hm2
 have hT2 : TreeM w2 base tb mb N (cutT T d x) A := HT1.out.set_kids HD.out HKB.out hk2 (Nat.le_refl _) hm2
 have hkw : Keep (· < base) w w2 := (Keep.of_ext HX1.out).andThen hk2 (fun j _ (hj : j < base) => by have := (HT1.out.low.2.2 d HD.out).2 kb HKB.out; show j ≠ kb; omega)
 have hnb := (hT2.node i HI.out).1
 have c1 : w2.cell? ⟨(A i).blk, 1, none⟩ = some (.int .i64 (T.node i).links) := by
  rw [← HNI.out]; exact blk_cell hnb 1 _ rfl
 have f1 := blk_free hnb 1
 have hfin := hT2.set_links HI.out (((cutT T d x).node i).links + -1)
 rw [HNI.out] at hfin
 have HFIN := Lib.hid hfin
 have HKW := Lib.hid hkw
 have hlo := hT2.low.2.2 i HI.out
 clear hnb hfin hkw hm2 hk2 hT2 c3
 go_wp2_with fail
 rw [HR.out]
 have hfin := (HFIN.out.mono (Nat.le_succ N)).mono (Nat.le_succ (N + 1))
 refine ⟨A, rfl, ?_, HKW.out.setCell (fun j (hj : j < base) => by have := hlo.1; omega) 1 _⟩
 unfold linkT
 rw [HNI.out]
 rw [show (T.node i).links - 1 = (T.node i).links + -1 by omega]
 exact hfin
end
end Go.Proofs.YtefpllpichhojaaGreatDoor
namespace Go.Proofs.YtefpllpichhojaaGreatDoor
open Go.RowKit
theorem split_noneB {p : By} (w : World) (hE : Env w) (h : pathL p = none) :
 Calls Tryz.prog 163 #[.string (bs p)] w fun e w' => e = .returned (.tuple #[.slice none 0 0, .bool false]) ∧ Ext w w' := split_none w hE (by rw [bs_data]; exact h)
theorem split_someB {p : By} {L : List By} (w : World) (hE : Env w) (h : pathL p = some L) :
 Calls Tryz.prog 163 #[.string (bs p)] w fun e w' => ∃ a cap, e = .returned (.tuple #[.slice a L.length cap, .bool true]) ∧ L.length ≤ cap ∧ Strs w' a L ∧ Ext w w' := split_some w hE (by rw [bs_data]; exact h)
theorem walkT_cons (T : TreeD) (i : Int) (x : By) (l : List By) : walkT T i (x :: l) = if kidT T i x = 0 then 0 else walkT T (kidT T i x) l := rfl
set_option maxRecDepth 100000 in
set_option maxHeartbeats 6400000 in
theorem tree_find {base tb mb K : Nat} {T : TreeD} {A : Int → NodeA} (p : By) (w : World) (hE : Env w) (hT : TreeM w base tb mb K T A) (hg : GoodT T) (hf : T.next ≤ 4611686018427387904) :
 Calls Tryz.prog 113 #[.pointer (some ⟨tb, 0, none⟩), .string (bs p)] w fun e w' => e = .returned (.int .i64 (findT T p)) ∧ Ext w w' := by
 obtain ⟨R, hR⟩ : ∃ R : Ending → World → Prop, R = fun e w' => e = .returned (.int .i64 (findT T p)) ∧ Ext w w' := ⟨_, rfl⟩
 rw [← hR]
 have HR := Lib.hid hR; clear hR
 have HT := Lib.hid hT; clear hT
 have HG := Lib.hid hg; clear hg
 have HE := Lib.hid hE; clear hE
 have HF := Lib.hid hf; clear hf
 cases hp : pathL p with
 | none =>
   have HP := Lib.hid hp; clear hp
   go_enter Tryz.func113, Tryz.ntmps113
   go_wp2_with (go_at_call 163; refine (split_noneB _ HE.out HP.out).mono ?_; rintro e w1 ⟨rfl, hx⟩; have HX := Lib.hid hx; clear hx)
   rw [HR.out]
   refine ⟨?_, HX.out⟩
   unfold findT
   rw [HP.out]
   rfl
 | some l =>
   have hfacts := pathL_facts hp
   have HP := Lib.hid hp; clear hp
   have hl5 := hfacts.1
   have HALL := Lib.hid hfacts.2.1; clear hfacts
   go_enter Tryz.func113, Tryz.ntmps113
   go_wp2_with (go_at_call 163; refine (split_someB _ HE.out HP.out).mono ?_; rintro e w1 ⟨al, cl, rfl, hcl, hS, hx⟩; have HX := Lib.hid hx; have HS := Lib.hid hS; clear hx hS)
   go_loopw [7, 19] (fun v i wr => ∃ (k : Nat) (j : Int), v = .int .i64 j ∧ i = .int .i64 k ∧ k ≤ l.length ∧ Hid (j ∈ T.ids) ∧ Hid (findT T p = walkT T j (l.drop k)) ∧ Hid (Ext w1 wr)) (fun _ i _ => l.length - (intOf i).toNat)
   case atStart =>
    refine ⟨0, 1, rfl, rfl, Nat.zero_le _, Lib.hid HG.out.root, Lib.hid ?_, Lib.hid (Ext.refl _)⟩
    unfold findT
    rw [HP.out]
    rfl
   case round =>
    obtain ⟨k, j, rfl, rfl, hk, HJ, HW, HX1⟩ := hrel
    by_cases hlt : k < l.length
    · obtain ⟨g, off, rfl, _, hc⟩ := (HS.out.ext HX1.out).at (fun e => by rw [e] at hlt; cases hlt)
      have c0 := hc k hlt
      clear hc
      have hx12 : (l.getD k []).length ≤ 12 := by
       have hm : l.getD k [] ∈ l := by
        rw [List.getD_eq_getElem?_getD, List.getElem?_eq_getElem hlt]
        exact List.getElem_mem hlt
       exact nameL_12 (List.all_eq_true.1 HALL.out _ hm)
      have hd : l.drop k = l.getD k [] :: l.drop (k + 1) := by
       rw [List.getD_eq_getElem?_getD, List.getElem?_eq_getElem hlt]
       exact List.drop_eq_getElem_cons hlt
      have hw := HW.out
      rw [hd, walkT_cons] at hw
      clear hd
      generalize l.getD k [] = x at c0 hx12 hw
      have hTr := HT.out.ext (HX.out.trans HX1.out)
      have hlow := HG.out.low j HJ.out
      have hnx := HF.out
      have c1 := blk_cell hTr.top 0 (Value.map (some mb)) rfl
      have hlk1 := hTr.look HJ.out (by omega) (by omega)
      have c2 := blk_cell (hTr.node j HJ.out).1 3 (Value.map (A j).kb) rfl
      have hlk2 := (hTr.node j HJ.out).2.2.2.look (x := x) (by omega)
      rw [show ((T.node j).kids x).getD 0 = kidT T j x from rfl] at hlk2
      clear hTr
      have HWW := Lib.hid hw; clear hw hlow hnx
      by_cases hz : kidT T j x = 0
      · rw [hz] at hlk2
        have HZ := Lib.hid hz; clear hz
        go_wp2_with fail
        rw [HR.out]
        have hw := HWW.out
        rw [if_pos HZ.out] at hw
        exact ⟨by rw [hw]; rfl, HX.out.trans HX1.out⟩
      · have hw := HWW.out
        rw [if_neg hz] at hw
        have hm := (HG.out.kid_mem HJ.out hz).1
        have HM := Lib.hid hm; clear hm
        have HW2 := Lib.hid hw; clear hw
        generalize kidT T j x = m at *
        go_wp2_with fail
        go_roundw
        case rel => exact ⟨k + 1, m, rfl, by go_num, by omega, HM, HW2, HX1⟩
        case measure => simp [intOf]; omega
    · have hw := HW.out
      rw [List.drop_of_length_le (by omega)] at hw
      have HW2 := Lib.hid hw; clear hw
      go_wp2_with fail
      rw [HR.out]
      exact ⟨by rw [HW2.out]; rfl, HX.out.trans HX1.out⟩
end Go.Proofs.YtefpllpichhojaaGreatDoor
namespace Go.Proofs.YtefpllpichhojaaGreatDoor
theorem glue_len_cons (p : List UInt8) (L) : (glue 47 (p :: L)).length = 1 + p.length + (glue 47 L).length := by simp [glue_cons]; omega
theorem joinP_ne {L : List (List UInt8)} (h : joinP L ≠ [47]) : ∃ p r, L = p :: r ∧ joinP L = 47 :: (p ++ glue 47 r) := by
 cases L with
 | nil => exact absurd rfl h
 | cons p r => exact ⟨p, r, rfl, by rw [joinP_cons, glue_cons]; rfl⟩
def joinOk (L : List (List UInt8)) : Bool := (decide (0 < L.length) && decide (L.length ≤ 5)) && L.all nameL
theorem pathL_join {L : List (List UInt8)} (h : joinP L ≠ [47]) (h47 : ∀ p ∈ L, (47 : UInt8) ∉ p) :
 pathL (joinP L) = if (joinOk L && decide ((glue 47 L).length ≤ 40)) = true then some L else none := by
 obtain ⟨p, r, rfl, hj⟩ := joinP_ne h
 have hg : glue 47 (p :: r) = joinP (p :: r) := (joinP_cons p r).symm
 have ht : splitOn 47 (joinP (p :: r)).tail = p :: r := by
  rw [hj]; exact splitOn_glue 47 p r (h47 p (by simp)) (fun q hq => h47 q (by simp [hq]))
 have hh : (joinP (p :: r)).head? = some 47 := by rw [hj]; rfl
 rw [hg]
 by_cases h1 : (joinP (p :: r)).length ≤ 40
 · by_cases h2 : (p :: r).length ≤ 5
   · cases h3 : (p :: r).all nameL with
     | true =>
       rw [if_pos (by simp only [joinOk, h3]; simp at h2 ⊢; omega), pathL_good h h1 hh (by rw [ht]; exact h2) (by rw [ht]; exact h3), ht]
     | false =>
       rw [if_neg (by simp only [joinOk, h3]; simp), pathL_bad h (by rw [ht]; exact h3)]
   · rw [if_neg (by
        have : decide ((p :: r).length ≤ 5) = false := by simp at h2 ⊢; omega
        simp only [joinOk, this]; simp), pathL_many h (by rw [ht]; omega)]
 · rw [if_neg (by
    have : decide ((joinP (p :: r)).length ≤ 40) = false := by simp at h1 ⊢; omega
    simp only [this]; simp), pathL_long (by omega)]
end Go.Proofs.YtefpllpichhojaaGreatDoor
namespace Go.Proofs.YtefpllpichhojaaGreatDoor
open Go.RowKit
theorem glue_take (L : List By) (n : Nat) : (glue 47 (L.take n)).length ≤ (glue 47 L).length := by
 induction L generalizing n with
 | nil => simp
 | cons a L ih =>
   cases n with
   | zero => simp [glue]
   | succ n =>
     rw [List.take_succ_cons, glue_len_cons, glue_len_cons]
     have := ih n
     omega
theorem up_parent {l : By} {L : List By} {x : By} (h : upL l = some (L, x)) : parentL l = some (joinP L, x) ∧ pathL (joinP L) = some L := by
 unfold upL at h
 split at h
 · rename_i p q hp
   obtain ⟨h1, h2⟩ := Prod.mk.inj (Option.some.inj h)
   refine ⟨?_, ?_⟩
   · unfold parentL
     rw [hp]
     show some (joinP ((p :: q).take q.length), (p :: q).getD q.length []) = _
     rw [h1, h2]
   · obtain ⟨f1, f2, f3, f4⟩ := pathL_facts hp
     have hg : glue 47 (p :: q) = l := by
      rcases f4 with ⟨_, f5⟩ | ⟨_, _, f6, _⟩
      · cases f5
      · exact f6
     by_cases hL : L = []
     · rw [hL]; exact pathL_root
     · have hall : ∀ z ∈ L, nameL z = true := fun z hz => by
        rw [← h1] at hz
        exact List.all_eq_true.1 f2 z (List.mem_of_mem_take hz)
       have hne : joinP L ≠ [47] := by
        intro e
        cases L with
        | nil => exact hL rfl
        | cons a r =>
          rw [joinP_cons] at e
          have := congrArg List.length e
          rw [glue_len_cons] at this
          have ha : a = [] := List.eq_nil_of_length_eq_zero (by simp only [List.length_cons, List.length_nil] at this; omega)
          have := hall a (by simp)
          rw [ha] at this
          exact absurd this (by decide)
       rw [pathL_join hne (fun z hz => nameL_no47 (hall z hz)), if_pos]
       have g1 : (glue 47 L).length ≤ 40 := by
        rw [← h1]
        exact Nat.le_trans (glue_take _ _) (by rw [hg]; exact f3)
       have g2 : L.length ≤ 5 := by
        rw [← h1, List.length_take]
        exact Nat.le_trans (Nat.min_le_right _ _) f1
       have g3 : L.all nameL = true := List.all_eq_true.2 hall
       have g4 : 0 < L.length := List.length_pos_iff.2 hL
       unfold joinOk
       simp [g1, g2, g3, g4]
 · cases h
theorem up_none {l : By} (h : upL l = none) : parentL l = none := by
 unfold upL at h
 unfold parentL
 split at h
 · cases h
 · rename_i hn
   split
   · rename_i p q hp
     exact absurd hp (hn p q)
   · rfl
def PlaceR (r : PlaceD) (A : Int → NodeA) (w : World) (e : Ending) (w' : World) : Prop :=
 (match r with
 | .bad k => e = .returned (.tuple #[.pointer none, .string ⟨#[]⟩, .int .i64 k])
 | .at d x => e = .returned (.tuple #[.pointer (some ⟨(A d).blk, 0, none⟩), .string (bs x), .int .i64 0])) ∧ Ext w w'
section
variable {base tb mb K : Nat} {T : TreeD} {A : Int → NodeA}
set_option maxRecDepth 100000 in
set_option maxHeartbeats 6400000 in
theorem tree_place (p : By) (w : World) (hE : Env w) (hT : TreeM w base tb mb K T A) (hg : GoodT T) (hf : T.next ≤ 4611686018427387904) :
 Calls Tryz.prog 165 #[.pointer (some ⟨tb, 0, none⟩), .string (bs p)] w (PlaceR (placeT T p) A w) := by
 obtain ⟨R, hR⟩ : ∃ R, R = PlaceR (placeT T p) A w := ⟨_, rfl⟩
 rw [← hR]
 have HR := Lib.hid hR; clear hR
 have HT := Lib.hid hT; clear hT
 have HG := Lib.hid hg; clear hg
 have hpar := path_parent (bs p) w hE
 rw [bs_data] at hpar
 have HE := Lib.hid hE; clear hE
 have HF := Lib.hid hf; clear hf
 cases hu : upL p with
 | none =>
   rw [up_none hu] at hpar
   have HU := Lib.hid hu; clear hu
   have HPAR := Lib.hid hpar; clear hpar
   go_enter Tryz.func165, Tryz.ntmps165
   go_wp2_with (go_at_call 186; refine HPAR.out.mono ?_; rintro e w1 ⟨rfl, hx⟩; have HX := Lib.hid hx; clear hx)
   rw [HR.out]
   unfold placeT
   rw [HU.out]
   exact ⟨rfl, HX.out⟩
 | some lx =>
   obtain ⟨l, x⟩ := lx
   obtain ⟨u1, u2⟩ := up_parent hu
   rw [u1] at hpar
   have HU := Lib.hid hu; clear hu
   have HPAR := Lib.hid hpar; clear hpar u1
   have hfd : findT T (joinP l) = walkT T 1 l := by unfold findT; rw [u2]
   have HFD := Lib.hid hfd; clear hfd u2
   have hfind := fun W (k : Ext w W) => tree_find (joinP l) W (HE.out.ext k) (HT.out.ext k) HG.out HF.out
   rw [HFD.out] at hfind
   have hmem := HG.out.walk_mem l 1 HG.out.root
   generalize hi : walkT T 1 l = i at hfind hmem
   have HI := Lib.hid hi; clear hi
   have HFIND := Lib.hid hfind; clear hfind
   by_cases hz : i = 0
   · have HZ := Lib.hid hz
     subst hz
     clear hmem
     go_enter Tryz.func165, Tryz.ntmps165
     go_wp2_with (first
      | (go_at_call 186; refine HPAR.out.mono ?_; rintro e w1 ⟨rfl, hx⟩; have HX := Lib.hid hx; clear hx)
      | (go_at_call 113; refine (HFIND.out _ HX.out).mono ?_; rintro e w2 ⟨rfl, hx⟩; have HX2 := Lib.hid hx; clear hx))
     rw [HR.out]
     unfold placeT
     rw [HU.out]
     simp only
     rw [if_pos HI.out]
     exact ⟨rfl, HX.out.trans HX2.out⟩
   · have hm := hmem hz
     clear hmem
     have hlow := HG.out.low i hm
     have hnx := HF.out
     have HM := Lib.hid hm; clear hm
     cases hd : (T.node i).dir with
     | false =>
       have HD := Lib.hid hd; clear hd
       go_enter Tryz.func165, Tryz.ntmps165
       go_wp2_with (first
        | (go_at_call 186; refine HPAR.out.mono ?_; rintro e w1 ⟨rfl, hx⟩; have HX := Lib.hid hx; clear hx)
        | (go_at_call 113; refine (HFIND.out _ HX.out).mono ?_; rintro e w2 ⟨rfl, hx⟩; have HX2 := Lib.hid (HX.out.trans hx); clear hx; have c1 := blk_cell (HT.out.ext HX2.out).top 0 (Value.map (some mb)) rfl; have hlk := (HT.out.ext HX2.out).look HM.out (by omega) (by omega); have c2 := blk_cell ((HT.out.ext HX2.out).node i HM.out).1 0 (Value.bool (T.node i).dir) rfl; rw [HD.out] at c2))
       rw [HR.out]
       unfold placeT
       rw [HU.out]
       simp only [HI.out, HD.out]
       rw [if_neg hz]
       exact ⟨rfl, HX2.out⟩
     | true =>
       have HD := Lib.hid hd; clear hd
       go_enter Tryz.func165, Tryz.ntmps165
       go_wp2_with (first
        | (go_at_call 186; refine HPAR.out.mono ?_; rintro e w1 ⟨rfl, hx⟩; have HX := Lib.hid hx; clear hx)
        | (go_at_call 113; refine (HFIND.out _ HX.out).mono ?_; rintro e w2 ⟨rfl, hx⟩; have HX2 := Lib.hid (HX.out.trans hx); clear hx; have c1 := blk_cell (HT.out.ext HX2.out).top 0 (Value.map (some mb)) rfl; have hlk := (HT.out.ext HX2.out).look HM.out (by omega) (by omega); have c2 := blk_cell ((HT.out.ext HX2.out).node i HM.out).1 0 (Value.bool (T.node i).dir) rfl; rw [HD.out] at c2))
       rw [HR.out]
       unfold placeT
       rw [HU.out]
       simp only [HI.out, HD.out]
       rw [if_neg hz]
       exact ⟨rfl, HX2.out⟩
set_option maxRecDepth 100000 in
theorem tree_Find (p : By) (w : World) (hE : Env w) (hT : TreeM w base tb mb K T A) (hg : GoodT T) (hf : T.next ≤ 4611686018427387904) :
 Calls Tryz.prog 69 #[.pointer (some ⟨tb, 0, none⟩), .string (bs p)] w fun e w' => e = .returned (.tuple #[.int .i64 (findT T p), .bool (decide (findT T p ≠ 0))]) ∧ Ext w w' := by
 obtain ⟨R, hR⟩ : ∃ R : Ending → World → Prop, R = fun e w' => e = .returned (.tuple #[.int .i64 (findT T p), .bool (decide (findT T p ≠ 0))]) ∧ Ext w w' := ⟨_, rfl⟩
 rw [← hR]
 have HR := Lib.hid hR; clear hR
 have hfind := tree_find p w hE hT hg hf
 generalize findT T p = i at HR hfind
 have HFIND := Lib.hid hfind; clear hfind hE hT hg hf
 go_enter Tryz.func69, Tryz.ntmps69
 go_wp2_with (go_at_call 113; refine HFIND.out.mono ?_; rintro e w1 ⟨rfl, hx⟩; have HX := Lib.hid hx; clear hx)
 rw [HR.out]
 refine ⟨?_, HX.out⟩
 by_cases h : i = 0 <;> simp [h]
set_option maxRecDepth 100000 in
theorem tree_Dir (p : By) (w : World) (hE : Env w) (hT : TreeM w base tb mb K T A) (hg : GoodT T) (hf : T.next ≤ 4611686018427387904) :
 Calls Tryz.prog 70 #[.pointer (some ⟨tb, 0, none⟩), .string (bs p)] w fun e w' => e = .returned (.bool (decide (findT T p ≠ 0) && (T.node (findT T p)).dir)) ∧ Ext w w' := by
 obtain ⟨R, hR⟩ : ∃ R : Ending → World → Prop, R = fun e w' => e = .returned (.bool (decide (findT T p ≠ 0) && (T.node (findT T p)).dir)) ∧ Ext w w' := ⟨_, rfl⟩
 rw [← hR]
 have HR := Lib.hid hR; clear hR
 have hfind := tree_find p w hE hT hg hf
 have hmem := hg.find_mem (p := p)
 generalize findT T p = i at HR hfind hmem
 have HFIND := Lib.hid hfind; clear hfind hE
 by_cases hz : i = 0
 · subst hz
   clear hmem hT hg hf
   go_enter Tryz.func70, Tryz.ntmps70
   go_wp2_with (go_at_call 113; refine HFIND.out.mono ?_; rintro e w1 ⟨rfl, hx⟩; have HX := Lib.hid hx; clear hx)
   rw [HR.out]
   exact ⟨rfl, HX.out⟩
 · have hm := hmem hz
   have hlow := hg.low i hm
   have HM := Lib.hid hm
   have HT := Lib.hid hT
   clear hmem hm hT hg
   go_enter Tryz.func70, Tryz.ntmps70
   go_wp2_with (go_at_call 113; refine HFIND.out.mono ?_; rintro e w1 ⟨rfl, hx⟩; have c1 := blk_cell (HT.out.ext hx).top 0 (Value.map (some mb)) rfl; have hlk := (HT.out.ext hx).look HM.out (by omega) (by omega); have c2 := blk_cell ((HT.out.ext hx).node i HM.out).1 0 (Value.bool (T.node i).dir) rfl; have HX := Lib.hid hx; clear hx)
   rw [HR.out]
   refine ⟨?_, HX.out⟩
   simp [hz]
end
end Go.Proofs.YtefpllpichhojaaGreatDoor
