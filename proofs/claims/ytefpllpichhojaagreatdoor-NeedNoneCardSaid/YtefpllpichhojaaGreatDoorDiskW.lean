/- The disk's functions: New, Len, Read, Write, Flush. -/
import Derived.Test.YtefpllpichhojaaGreatDoorM14
import Derived.Deep.RegionHeld3
import Derived.Laws.ResultCell
namespace Go.Proofs.YtefpllpichhojaaGreatDoor
open Go.RowKit
variable [Low]
def zeroA : Array Value := (byteV zeroS).toArray
omit [Low] in
theorem alloc_sector (w : World) : w.alloc (.cells #[.int .u8 0, .int .u8 0, .int .u8 0, .int .u8 0, .int .u8 0, .int .u8 0, .int .u8 0, .int .u8 0, .int .u8 0, .int .u8 0, .int .u8 0, .int .u8 0, .int .u8 0, .int .u8 0, .int .u8 0, .int .u8 0, .int .u8 0, .int .u8 0, .int .u8 0, .int .u8 0, .int .u8 0, .int .u8 0, .int .u8 0, .int .u8 0, .int .u8 0, .int .u8 0, .int .u8 0, .int .u8 0, .int .u8 0, .int .u8 0, .int .u8 0, .int .u8 0, .int .u8 0, .int .u8 0, .int .u8 0, .int .u8 0, .int .u8 0, .int .u8 0, .int .u8 0, .int .u8 0, .int .u8 0, .int .u8 0, .int .u8 0, .int .u8 0, .int .u8 0, .int .u8 0, .int .u8 0, .int .u8 0, .int .u8 0, .int .u8 0, .int .u8 0, .int .u8 0, .int .u8 0, .int .u8 0, .int .u8 0, .int .u8 0, .int .u8 0, .int .u8 0, .int .u8 0, .int .u8 0, .int .u8 0, .int .u8 0, .int .u8 0, .int .u8 0] 234) = w.alloc (.cells (byteV zeroS).toArray 234) := rfl
omit [Low] in
theorem results_sec {P : Program} {fn : Func} {p u : Tmp} {ty : TypeId} (h : fn.results = #[.cell p ty, .tmp u]) (tmps : Array Value) (w : World) (g : Nat) (hp : tmps.getD p undef = .pointer (some ⟨g, 0, none⟩)) (v : Value) (hl : (loadVar ty ⟨g, 0, none⟩).run P w = .ok v w) :
 (results fn tmps).run P w = .ok (.tuple #[v, tmps.getD u undef]) w := by
 rw [results_cell_tmp h, hp]
 simp [asAddr, hl, Result.andThen]
section
variable {w : World} {db kb n : Nat} {img : Img} {L : List (Nat × List UInt8)}
theorem disk_Len (h : DiskC w db kb n img L) :
 Calls Tryz.prog 148 #[.pointer (some ⟨db, 0, none⟩)] w fun e w' => e = .returned (.int .i64 n) ∧ w = w' := by
 obtain ⟨⟨kc, st, ca, cc, hn, ht, hr⟩, hk, h1, h2, h3, hlw⟩ := h
 have c0 := blk_cell ht 0 (.slice (some ⟨kb, 0, none⟩) n kc) rfl
 clear ht hr hk h3 h2
 go_enter Tryz.func148, Tryz.ntmps148
 go_wp2_with fail
 go_ret
 exact ⟨rfl, rfl⟩
omit [Low] in
theorem disk_step {kc : Nat} {cv : Value} {st : Int} (ht : w.heap[db]? = some (.cells (diskV kb n kc cv st) 190 (0, 0))) :
 Calls Tryz.prog 170 #[.pointer (some ⟨db, 0, none⟩)] w fun e w' => e = .returned (.bool true) ∧ ∃ st', w' = w.setCell ⟨db, 5, none⟩ (.int .i64 st') := by
 have c5 := blk_cell ht 5 (.int .i64 st) rfl
 have c3 := blk_cell ht 3 (.int .i64 (-1)) rfl
 have f5 := blk_free ht 5
 clear ht
 go_enter Tryz.func170, Tryz.ntmps170
 go_wp2_with fail
 go_ret
 exact ⟨rfl, _, rfl⟩
set_option maxRecDepth 100000 in
set_option maxHeartbeats 1600000 in
theorem disk_Read (h : DiskM w db kb n img) {p : Nat} (hp : p < n) :
 Calls Tryz.prog 149 #[.pointer (some ⟨db, 0, none⟩), .int .i64 p] w fun e w' => e = .returned (.tuple #[.agg (byteV (img p)).toArray, .int .i64 0]) ∧ Ext w w' := by
 obtain ⟨⟨kc, st, ca, cc, hn, ht, hr⟩, hk, h1, h2, h3, hlw⟩ := h
 have c0 := blk_cell ht 0 (.slice (some ⟨kb, 0, none⟩) n kc) rfl
 have c1 := blk_cell ht 1 (.slice ca 0 cc) rfl
 have c2 := blk_cell ht 2 (.bool false) rfl
 obtain ⟨hra, htt⟩ := hk.secs p hp
 have hlen := h2 p hp
 have HRA := Lib.hid hra; clear hra htt
 have HLEN := Lib.hid hlen; clear hlen
 clear ht hr hk h3 h2
 generalize hv : byteV (img p) = V at HRA ⊢
 have hvl : V.length = 64 := by rw [← hv, byteV_len]; exact HLEN.out
 have hv1 : ∀ v ∈ V, v.oneCell' = true := by rw [← hv]; exact byteV_one _
 have HVL := Lib.hid hvl; have HV1 := Lib.hid hv1; have HV := Lib.hid hv; clear hvl hv1 hv
 go_enter Tryz.func149, Tryz.ntmps149
 go_upto_region 1 with (fail)
 rw [alloc_sector]
 have hx := Ext.alloc w (.cells (byteV zeroS).toArray 234)
 have hs := sec_zero w
 have d0 := hx.cell c0
 have d1 := hx.cell c1
 have d2 := hx.cell c2
 have hra := rangeAt_keep HRA.out (Keep.of_ext (S := fun _ => True) hx) trivial
 have hsz : kb < w.heap.size := lt_of_cell (HRA.out 0 _ (List.getElem?_eq_getElem (by have := HVL.out; omega)))
 clear c0 c1 c2 HRA
 generalize w.alloc (.cells (byteV zeroS).toArray 234) = w1 at hx hs d0 d1 d2 hra ⊢
 obtain ⟨R, hRe⟩ : ∃ R, R = w.heap.size := ⟨_, rfl⟩
 rw [← hRe] at hs hsz ⊢
 have hR := Lib.hid (show w.heap.size ≤ R by omega)
 clear hRe
 have HX := Lib.hid hx; clear hx
 have HRA := Lib.hid hra; clear hra
 have HS := Lib.hid hs; clear hs
 have hpn : (p : Int) < (n : Int) := by omega
 have hp0 : (0 : Int) ≤ (p : Int) := by omega
 go_upto_region 6 with (fail)
 go_loop [6] (fun v => v = .int .i64 (-1)) (fun _ => 0)
 case atStart => rfl
 case round =>
  subst hrel
  go_upto_region 10 with (fail)
  go_wp2_with (first | (refine wpList_load_mid rfl _ _ rfl _ _ rfl V _ HRA.out Tryz.underlying234 rfl (by rw [HVL.out]; exact size_sector) ?_) | (refine wpList_store_mid rfl _ _ _ rfl _ _ V.toArray rfl rfl (by rw [List.size_toArray, HVL.out]; exact HS.out.there) (by rw [List.size_toArray, HVL.out]; exact size_sector) (all_oneCell_toArray HV1.out) ?_))
  have hset := HS.out.set (t := img p) HLEN.out
  rw [HV.out] at hset
  have hld := run_loadVar_mid (P := Tryz.prog) (w1.setCells R 0 V) R 0 234 V _ (by rw [← HV.out]; rw [← HV.out] at hset; exact hset.1.range) Tryz.underlying234 rfl (by rw [HVL.out]; exact size_sector)
  have hk2 := hset.2
  clear hset
  generalize w1.setCells R 0 V = w2 at hld hk2 ⊢
  (try simp only [Exit.inBlock, Exit.then])
  refine bodyPost_ret (results_sec rfl _ _ R rfl _ hld) rfl ?_
  exact ⟨rfl, ext_ne HX.out hR.out hk2⟩
set_option maxRecDepth 100000 in
set_option maxHeartbeats 3200000 in
theorem disk_Write (h : DiskC w db kb n img L) {p : Nat} (hp : p < n) {s : List UInt8} (hs : s.length = 64) (hL : L.length ≤ 1000000) :
 Calls Tryz.prog 169 #[.pointer (some ⟨db, 0, none⟩), .int .i64 p, .agg (byteV s).toArray] w fun e w' => e = .returned (.int .i64 0) ∧ DiskC w' db kb n img (L ++ [(p, s)]) ∧ KeepT [190, 257] w w' := by
 obtain ⟨R, hR⟩ : ∃ R : Ending → World → Prop, R = fun e w' => e = .returned (.int .i64 0) ∧ DiskC w' db kb n img (L ++ [(p, s)]) ∧ KeepT [190, 257] w w' := ⟨_, rfl⟩
 rw [← hR]
 have HR := Lib.hid hR; clear hR
 obtain ⟨⟨kc, st, ca, cc, hn, ht, hr⟩, hk, h1, h2, h3, hlw⟩ := h
 have HLW := Lib.hid hlw
 obtain ⟨hl1, hl2⟩ := hlw
 have hls : Low.low ≤ w.heap.size := by have := (Array.getElem?_eq_some_iff.1 ht).1; omega
 have HKM := Lib.hid hk; clear hk
 have HLN := Lib.hid h2; clear h2
 have HAL := Lib.hid h3; clear h3
 have HSL := Lib.hid hs
 generalize hv : byteV s = V
 have hvl : V.length = 64 := by rw [← hv, byteV_len]; exact hs
 have hv1 : ∀ v ∈ V, v.oneCell' = true := by rw [← hv]; exact byteV_one _
 have HVL := Lib.hid hvl; have HV1 := Lib.hid hv1; have HV := Lib.hid hv; clear hvl hv1 hv hs
 generalize hX : L.flatMap writeV = X at hr
 have HXE := Lib.hid hX; clear hX
 generalize hm : L.length = m at hr ht hL
 have HM := Lib.hid hm; clear hm
 go_enter Tryz.func169, Tryz.ntmps169
 go_upto_region 1 with (fail)
 have hx := Ext.alloc w (.cells V.toArray 234)
 have hb := heap_alloc_new w (.cells V.toArray 234)
 have ht1 := hx.heap ht
 have hr1 := ownsRow_keep hr (Keep.of_ext (S := fun _ => True) hx) (fun _ _ _ _ _ => trivial)
 have hc := World.rangeAt_of_block hb 0 64
 clear ht hr
 obtain ⟨RB, hRe⟩ : ∃ R, R = w.heap.size := ⟨_, rfl⟩
 rw [← hRe] at hb hc ⊢
 clear hRe
 generalize w.alloc (.cells V.toArray 234) = w1 at hx hb ht1 hr1 hc ⊢
 have HLS : Hid (Low.low ≤ w1.heap.size) := Lib.hid (by have := hx.size; omega)
 clear hls
 have hc2 : w1.rangeAt RB 0 V := fun j v hv => by
  rw [Nat.zero_add, cell_of_row _ _ _ _ _ _ hb]; simpa using hv
 clear hc
 have d0 := blk_cell ht1 0 (.slice (some ⟨kb, 0, none⟩) n kc) rfl
 have d1 := blk_cell ht1 1 (.slice ca m cc) rfl
 have d2 := blk_cell ht1 2 (.bool false) rfl
 have HX := Lib.hid hx; have HB := Lib.hid hb; have HT := Lib.hid ht1; have HO := Lib.hid hr1; have HC := Lib.hid hc2; clear hx hb ht1 hr1 hc2
 have hpn : (p : Int) < (n : Int) := by omega
 have hp0 : (0 : Int) ≤ (p : Int) := by omega
 go_upto_region 5 with (fail)
 have HCS : Hid (∀ W, KeepT [257] w1 W → W.cell? ⟨db, 1, none⟩ = some (.slice ca m cc) ∧ W.rangeAt RB 0 V) := Lib.hid fun W k => ⟨blk_cell (k.heap HT.out (by decide)) 1 _ rfl, rangeAt_keep HC.out k (notTy_of HB.out (by decide))⟩
 have HK : Hid (KeepT [257] w1 w1.drew) := Lib.hid ((KeepT.refl _ _).drew)
 replace HO := Lib.hid (ownsRow_keep HO.out (show Keep (fun _ => True) w1 w1.drew from ⟨rfl, rfl, rfl, Nat.le_refl _, fun _ _ _ => rfl⟩) (fun _ _ _ _ _ => trivial))
 clear d0 d1 d2
 refine wp_region_noPanic ?_
 refine wp_region_K (S := (fun W => W.cell? ⟨db, 1, none⟩ = some (.slice ca m cc) ∧ W.rangeAt RB 0 V)) (I := [4, 6]) (by kernel_rfl) (HCS.out _ HK.out) (fun hHeld => ?_)
 clear hHeld
 generalize w1.drew = wc at HK HO ⊢
 refine wpAnyK_free (i := 0) (v := ?_) rfl (by kernel_rfl) (by kernel_rfl) (by kernel_rfl) (fun _ _ _ h => h) (by kernel_rfl) ?_ (fun _ => (HCS.out _ HK.out)) ?_
 rotate_left
 · (intro wq; first | (go_simp; done) | (go_simp; with_reducible rfl))
 try simp only [List.getElem_toArray, List.getElem_cons_zero, Act.put, List.setIfInBounds_toArray, List.set_cons_zero, List.set_cons_succ]
 refine wpAnyK_free (i := 1) (v := ?_) rfl (by kernel_rfl) (by kernel_rfl) (by kernel_rfl) (fun _ _ _ h => h) (by kernel_rfl) ?_ (fun _ => (HCS.out _ HK.out)) ?_
 rotate_left
 · (intro wq; first | (go_simp; done) | (go_simp; with_reducible rfl))
 try simp only [List.getElem_toArray, List.getElem_cons_zero, List.getElem_cons_succ, Act.put, List.setIfInBounds_toArray, List.set_cons_zero, List.set_cons_succ]
 refine wpAnyK_free (i := 2) (v := ?_) rfl (by kernel_rfl) (by kernel_rfl) (by kernel_rfl) (fun _ _ _ h => h) (by kernel_rfl) ?_ (fun _ => (HCS.out _ HK.out)) ?_
 rotate_left
 · (intro wq; first | (go_simp; done) | (go_simp; with_reducible rfl))
 try simp only [List.getElem_toArray, List.getElem_cons_zero, List.getElem_cons_succ, Act.put, List.setIfInBounds_toArray, List.set_cons_zero, List.set_cons_succ]
 refine wpAnyK_free (i := 3) (v := ?_) rfl (by kernel_rfl) (by kernel_rfl) (by kernel_rfl) (fun _ _ _ h => h) (by kernel_rfl) ?_ (fun _ => (HCS.out _ HK.out)) ?_
 rotate_left
 · (intro wq; first | (go_simp; done) | (go_simp; with_reducible rfl))
 try simp only [List.getElem_toArray, List.getElem_cons_zero, List.getElem_cons_succ, Act.put, List.setIfInBounds_toArray, List.set_cons_zero, List.set_cons_succ]
 refine wpAnyK_load (i := 4) (v := ?_) rfl (by kernel_rfl) (by kernel_rfl) (by kernel_rfl) (fun _ _ _ h => h) (by kernel_rfl) (by kernel_rfl) ?_ (HCS.out _ HK.out) ?_
 rotate_left
 · (intro wq hSw; (try dsimp only at hSw); first | (go_simp; done) | (go_simp; with_reducible rfl))
 try simp only [List.getElem_toArray, List.getElem_cons_zero, List.getElem_cons_succ, Act.put, List.setIfInBounds_toArray, List.set_cons_zero, List.set_cons_succ]
 refine wpAnyK_free (i := 5) (v := ?_) rfl (by kernel_rfl) (by kernel_rfl) (by kernel_rfl) (fun _ _ _ h => h) (by kernel_rfl) ?_ (fun _ => (HCS.out _ HK.out)) ?_
 rotate_left
 · (intro wq; first | (go_simp; done) | (go_simp; with_reducible rfl))
 try simp only [List.getElem_toArray, List.getElem_cons_zero, List.getElem_cons_succ, Act.put, List.setIfInBounds_toArray, List.set_cons_zero, List.set_cons_succ]
 refine wpAnyK_load (i := 6) (v := .agg V.toArray) rfl (by kernel_rfl) (by kernel_rfl) (by kernel_rfl) (fun _ _ _ h => h) (by kernel_rfl) (by kernel_rfl) ?_ (HCS.out _ HK.out) ?_
 · (intro wq hSw; exact exec_load_mid _ _ (by rfl) RB 0 (by rfl) V _ hSw.2 Tryz.underlying234 rfl (by rw [HVL.out]; exact size_sector))
 try simp only [List.getElem_toArray, List.getElem_cons_zero, List.getElem_cons_succ, Act.put, List.setIfInBounds_toArray, List.set_cons_zero, List.set_cons_succ]
 refine wpAnyK_free (i := 7) (v := .agg (Value.int .i64 p :: V).toArray) rfl (by kernel_rfl) (by kernel_rfl) (by kernel_rfl) (fun _ _ _ h => h) (by kernel_rfl) ?_ (fun _ => (HCS.out _ HK.out)) ?_
 · (intro wq; exact exec_build_write _ _ (by rfl) p (by rfl) V (by rfl) HVL.out)
 try simp only [List.getElem_toArray, List.getElem_cons_zero, List.getElem_cons_succ, Act.put, List.setIfInBounds_toArray, List.set_cons_zero, List.set_cons_succ]
 all_goals (
  first
   | refine wpAnyK_ready (rs := [8]) (by decide +kernel) (by simp) ?_
  repeat' (first | exact AllReadyK.nil | (refine AllReadyK.cons rfl (fun K hK => ?_) ?_)))
 all_goals (
  first
   | (refine step_buildSlice_write (by rfl) _ (by rfl) (Value.int .i64 p :: V).toArray (by simp [Act.eval]) (by rw [List.size_toArray, List.length_cons, HVL.out]) ?_
      have hx := Ext.alloc wc (.cells (Value.int .i64 p :: V).toArray 257)
      have hbn := heap_alloc_new wc (.cells (Value.int .i64 p :: V).toArray 257)
      refine hK.out _ (wc.alloc (.cells (Value.int .i64 p :: V).toArray 257)) (HCS.out _ (HK.out.trans (KeepT.of_ext hx))) (fun _ => ?_)
      clear hK K
      replace HK := Lib.hid (HK.out.trans (KeepT.of_ext hx))
      replace HO := Lib.hid (ownsRow_keep HO.out (Keep.of_ext (S := fun _ => True) hx) (fun _ _ _ _ _ => trivial))
      obtain ⟨GN, hB⟩ : ∃ x, x = wc.heap.size := ⟨_, rfl⟩
      rw [← hB] at hbn ⊢
      have HGN := Lib.hid hbn
      clear hbn hB hx
      generalize wc.alloc (.cells (Value.int .i64 p :: V).toArray 257) = wc at *
      try simp only [List.getElem_toArray, List.getElem_cons_zero, List.getElem_cons_succ, Act.put, List.setIfInBounds_toArray, List.set_cons_zero, List.set_cons_succ]))
 all_goals (
  first
   | refine wpAnyK_ready (rs := [9]) (by decide +kernel) (by simp) ?_
  repeat' (first | exact AllReadyK.nil | (refine AllReadyK.cons rfl (fun K hK => ?_) ?_)))
 all_goals (
  first
   | (refine step_append_any (by rfl) _ _ 187 257 zWrite 65 72 (by rfl) Tryz.underlying187 info_write zWrite_size (by decide) Low.low ca m cc X (by simp [Act.eval]) HO.out (some ⟨GN, 0, none⟩) 1 1 (Value.int .i64 p :: V) (by simp [Act.eval]) (by rw [List.length_cons, HVL.out]) (run_blk HGN.out) (by intro u hu; rcases List.mem_cons.1 hu with rfl | hu; rfl; exact HV1.out u hu) (by omega) (by decide) (Nat.le_trans HLS.out HK.out.size) (m + 1) (by omega) ?_
      intro a9 c9 wn hown hkp hbl
      have hkt := KeepT.grown (ts := [257]) hkp HO.out (by decide)
      replace HK := Lib.hid (HK.out.trans hkt)
      replace HO := Lib.hid hown
      clear hown hkp hbl hkt
      refine hK.out _ _ (HCS.out _ HK.out) (fun _ => ?_)
      clear hK K
      obtain ⟨wc, rfl⟩ : ∃ x : World, x = wn := ⟨_, rfl⟩
      try simp only [List.getElem_toArray, List.getElem_cons_zero, List.getElem_cons_succ, Act.put, List.setIfInBounds_toArray, List.set_cons_zero, List.set_cons_succ]
      refine wpAnyK_free (i := 10) (v := ?_) rfl (by kernel_rfl) (by kernel_rfl) (by kernel_rfl) (fun _ _ _ h => h) (by kernel_rfl) ?_ (fun _ => (HCS.out _ HK.out)) ?_
      rotate_left
      · (intro wq; first | (go_simp; done) | (go_simp; with_reducible rfl))
      try simp only [List.getElem_toArray, List.getElem_cons_zero, List.getElem_cons_succ, Act.put, List.setIfInBounds_toArray, List.set_cons_zero, List.set_cons_succ]
      refine wpAnyK_free (i := 11) (v := ?_) rfl (by kernel_rfl) (by kernel_rfl) (by kernel_rfl) (fun _ _ _ h => h) (by kernel_rfl) ?_ (fun _ => (HCS.out _ HK.out)) ?_
      rotate_left
      · (intro wq; first | (go_simp; done) | (go_simp; with_reducible rfl))
      try simp only [List.getElem_toArray, List.getElem_cons_zero, List.getElem_cons_succ, Act.put, List.setIfInBounds_toArray, List.set_cons_zero, List.set_cons_succ]))
 all_goals (
  have n1 := blk_cell (HK.out.heap HT.out (by decide)) 1 (Value.slice ca m cc) rfl
  have g1 := blk_free (HK.out.heap HT.out (by decide)) 1
  refine wpAnyK_last (i := 12) (by kernel_rfl) rfl (by kernel_rfl) ?_
  intro K hK
  go_simp
  refine hK.out _ _ ?_
  clear hK K
  try simp only [List.getElem_toArray, List.getElem_cons_zero, List.getElem_cons_succ, Act.put, List.setIfInBounds_toArray, List.set_cons_zero, List.set_cons_succ])
 all_goals (
  refine wpAnyK_done (by kernel_rfl) ?_ _
  refine NoPanic.normal ?_
  clear n1 g1
  have htc := HK.out.heap HT.out (by decide)
  have hset := setCell_row (i := 1) htc (Value.slice a9 (m + 1) c9)
  have hk1 : KeepT [190, 257] w (wc.setCell ⟨db, 1, none⟩ (Value.slice a9 (m + 1) c9)) := ((KeepT.of_ext HX.out).trans (HK.out.mono (by decide))).set htc (by decide) 1 _
  have ho2 := ownsRow_keep HO.out (Keep.of_but ((But.refl db wc).setCell 1 (Value.slice a9 (m + 1) c9))) (fun g cur _ _ hg => apart_types hg htc (by decide))
  have hset2 : (wc.setCell ⟨db, 1, none⟩ (Value.slice a9 (m + 1) c9)).heap[db]? = some (.cells (diskV kb n kc (.slice a9 (m + 1) c9) st) 190 (0, 0)) := hset
  generalize wc.setCell ⟨db, 1, none⟩ (Value.slice a9 (m + 1) c9) = w5 at hk1 ho2 hset2 ⊢
  have HK5 := Lib.hid hk1; have HO5 := Lib.hid ho2; have HT5 := Lib.hid hset2
  clear hk1 ho2 hset2 hset htc HK HO HT HC HX HB HCS HGN
  go_wp2_with (go_at_call 170; refine (disk_step HT5.out).mono ?_; rintro e w6 ⟨rfl, st2, rfl⟩)
  rw [HR.out]
  have hk6 := HK5.out.set HT5.out (by decide) 5 (.int .i64 st2)
  obtain ⟨fr, C, hkb⟩ := HKM.out.blk
  have ho6 := ownsRow_keep HO5.out (Keep.of_but ((But.refl db w5).setCell 5 (.int .i64 st2))) (fun g cur _ _ hg => apart_types hg HT5.out (by decide))
  refine ⟨rfl, ⟨⟨kc, st2, a9, c9, hn, ?_, ?_⟩, HKM.out.keep hk6 (notTy_of hkb (by decide)), h1, HLN.out, ?_, HLW.out⟩, hk6⟩
  · rw [List.length_append, HM.out]
    exact setCell_row HT5.out _
  · rw [List.length_append, HM.out, List.flatMap_append, HXE.out]
    simp only [List.flatMap_cons, List.flatMap_nil, List.append_nil, writeV, HV.out]
    exact ho6
  · intro x hx
    rcases List.mem_append.1 hx with hx | hx
    · exact HAL.out x hx
    · rw [List.mem_singleton.1 hx]; exact ⟨hp, HSL.out⟩)
end
end Go.Proofs.YtefpllpichhojaaGreatDoor
