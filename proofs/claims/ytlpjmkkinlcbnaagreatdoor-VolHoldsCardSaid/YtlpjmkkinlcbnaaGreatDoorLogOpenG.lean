/- The log's Open, where a log lies on the disk. -/
import Derived.Test.YtlpjmkkinlcbnaaGreatDoorLogOpen
namespace Go.Proofs.YtlpjmkkinlcbnaaGreatDoor
open Go.RowKit
variable [Low]
section
variable {w : World} {db kb n : Nat} {img : Img}
set_option maxRecDepth 100000 in
set_option maxHeartbeats 12800000 in
theorem log_Open_good {L : LogD} (hd : DiskM w db kb n img) (h6 : 6 ≤ n) (hg : GoodLog n img L) (htop : L.top ≤ 2147483000) :
    Calls Tryz.prog 17 #[.pointer (some ⟨db, 0, none⟩)] w fun e w' => ∃ lb, e = .returned (.tuple #[.pointer (some ⟨lb, 0, none⟩), .int .i64 0]) ∧ LogM w' lb db kb n img { L with top := topI img L.epoch (n - 2) } ∧ KeepT [81] w w' := by
  obtain ⟨Q, hQ⟩ : ∃ Q : Ending → World → Prop, Q = fun e w' => ∃ lb, e = .returned (.tuple #[.pointer (some ⟨lb, 0, none⟩), .int .i64 0]) ∧ LogM w' lb db kb n img { L with top := topI img L.epoch (n - 2) } ∧ KeepT [81] w w' := ⟨_, rfl⟩
  rw [← hQ]
  have HQ := Lib.hid hQ; clear hQ
  obtain ⟨I, hIe⟩ : ∃ I : Nat → Nat → Nat → Prop, I = fun i E H => (i = 0 ∧ E = 0 ∧ H = 0) ∨ (i = 1 ∧ (L.half = 0 → E = L.epoch ∧ H = 0) ∧ (L.half = 1 → E < L.epoch ∧ H = 0)) ∨ (i = 2 ∧ E = L.epoch ∧ H = L.half) := ⟨_, rfl⟩
  have hst : HeadStep img I := by
    rw [hIe]
    intro i E H hi h
    have hep := hg.epoch
    have hh := hg.half
    have hhd := hg.head
    have hot := hg.other
    rcases h with ⟨rfl, rfl, rfl⟩ | ⟨rfl, h0, h1⟩ | ⟨rfl, _⟩
    · rcases (by omega : L.half = 0 ∨ L.half = 1) with e | e
      · rw [e] at hhd
        exact Or.inr ⟨L.epoch, by omega, hhd, Or.inl ⟨by omega, Or.inr (Or.inl ⟨rfl, fun _ => ⟨rfl, rfl⟩, fun h => by omega⟩)⟩⟩
      · rw [e] at hot
        rcases hot with hz | ⟨e2, he2, hz⟩
        · exact Or.inl ⟨hz, Or.inr (Or.inl ⟨rfl, fun h => by omega, fun _ => ⟨by omega, rfl⟩⟩)⟩
        · refine Or.inr ⟨e2, by omega, hz, ?_⟩
          rcases Nat.eq_zero_or_pos e2 with rfl | hp
          · exact Or.inr ⟨Nat.le_refl _, Or.inr (Or.inl ⟨rfl, fun h => by omega, fun _ => ⟨by omega, rfl⟩⟩)⟩
          · exact Or.inl ⟨hp, Or.inr (Or.inl ⟨rfl, fun h => by omega, fun _ => ⟨he2, rfl⟩⟩)⟩
    · rcases (by omega : L.half = 0 ∨ L.half = 1) with e | e
      · obtain ⟨rfl, rfl⟩ := h0 e
        rw [e] at hot
        rcases hot with hz | ⟨e2, he2, hz⟩
        · exact Or.inl ⟨hz, Or.inr (Or.inr ⟨rfl, rfl, e.symm⟩)⟩
        · exact Or.inr ⟨e2, by omega, hz, Or.inr ⟨by omega, Or.inr (Or.inr ⟨rfl, rfl, e.symm⟩)⟩⟩
      · obtain ⟨h2, rfl⟩ := h1 e
        rw [e] at hhd
        exact Or.inr ⟨L.epoch, by omega, hhd, Or.inl ⟨h2, Or.inr (Or.inr ⟨rfl, rfl, e.symm⟩)⟩⟩
    · omega
  have hI0 : I 0 0 0 := by rw [hIe]; exact Or.inl ⟨rfl, rfl, rfl⟩
  have HIE := Lib.hid hIe; have HG := Lib.hid hg; clear hIe hg
  have HLS : Hid (Low.low ≤ w.heap.size) := Lib.hid (by obtain ⟨⟨_, _, _, _, _, ht, _⟩, _, _, _, _, hl⟩ := hd; have := (Array.getElem?_eq_some_iff.1 ht).1; omega)
  have hlen := disk_Len hd
  have HD := Lib.hid hd; have HLEN := Lib.hid hlen; have HST := Lib.hid hst; clear hd hlen hst
  have h6i : ¬ (n : Int) < 6 := by omega
  go_enter Tryz.func17, Tryz.ntmps17
  go_upto_region 5 with (go_at_call 33; refine HLEN.out.mono ?_; rintro E wn ⟨rfl, rfl⟩)
  have hx1 := Ext.alloc w (.cells (logV db (logE 0 0) none 0) 81)
  have h1 := heap_alloc_new w (.cells (logV db (logE 0 0) none 0) 81)
  obtain ⟨lb, hlb⟩ : ∃ lb, lb = w.heap.size := ⟨_, rfl⟩
  rw [← hlb] at h1 ⊢
  have HLB := Lib.hid (show w.heap.size ≤ lb by omega)
  have hl1 : Low.low ≤ lb := Nat.le_trans HLS.out HLB.out
  clear hlb
  change Code.wp _ _ _ _ (w.alloc (.cells (logV db (logE 0 0) none 0) 81))
  generalize w.alloc (.cells (logV db (logE 0 0) none 0) 81) = w1 at hx1 h1 ⊢
  have HTP0 := Lib.hid h1; have HXP0 := Lib.hid hx1; clear hx1 h1
  go_loopw [21] (fun v wr => ∃ i E H : Nat, v = .int .i64 i ∧ i ≤ 2 ∧ I i E H ∧ Hid (wr.heap[lb]? = some (.cells (logV db (logE E H) none 0) 81 (0, 0))) ∧ Hid (Ext w wr)) (fun v _ => 2 - (intOf v).toNat)
  case atStart => exact ⟨0, 0, 0, rfl, by omega, hI0, HTP0, HXP0⟩
  case round =>
    clear HTP0 HXP0
    obtain ⟨i, E, H, rfl, hi, hI, HTP, HXP⟩ := hrel
    by_cases hlt : i < 2
    · have hst := HST.out i E H hlt hI
      have hrd := disk_Read (HD.out.ext HXP.out) (p := i) (by omega)
      have hs64 := HD.out.len i (by omega)
      have hie : (i : Int) < 2 := by omega
      rcases hst with ⟨hz, hI2⟩ | ⟨e, he, hz, hI2⟩
      · rw [hz] at hrd hs64
        have hgo := fun W => log_good0 (w := W) (lb := lb)
        have hvl : (byteV zeroS).length = 64 := by rw [byteV_len]; exact zeroS_len
        have hv1 := byteV_one zeroS
        have hset0 := fun W (h : SecAt W (W.heap.size - 1) zeroS) => h.1
        clear hset0
        generalize hV : byteV zeroS = V at hrd hgo hvl hv1
        have HV := Lib.hid hV; have HVL := Lib.hid hvl; have HV1 := Lib.hid hv1; have HRDI := Lib.hid hrd; have HGO := Lib.hid hgo; have HS64 := Lib.hid hs64; clear hV hvl hv1 hrd hgo hs64 hz
        go_upto_region 8 with (first | (go_at_call 34; refine HRDI.out.mono ?_; rintro E1 w2 ⟨rfl, hx2⟩; have HX2 := Lib.hid hx2; clear hx2) | (refine wpList_store_mid rfl _ _ _ rfl _ _ V.toArray rfl rfl (there_new _ _ _ (by rw [List.size_toArray, HVL.out]; decide)) (by rw [List.size_toArray, HVL.out]; exact size_sector) (all_oneCell_toArray HV1.out) ?_))
        rw [alloc_sectorA]
        have hset := (sec_zeroA w2).set HS64.out
        rw [HV.out] at hset
        have hx3 := ext_ne ((Ext.refl w2).trans (Ext.alloc w2 (.cells zeroA 83))) (Nat.le_refl _) hset.2
        obtain ⟨B, hB⟩ : ∃ B, B = w2.heap.size := ⟨_, rfl⟩
        rw [← hB] at hset hx3 ⊢
        clear hB
        have hrg := hset.1.range
        rw [HV.out] at hrg
        have HRG := Lib.hid hrg
        clear hset hrg
        try simp only [List.toList_toArray]
        generalize (w2.alloc (.cells zeroA 83)).setCells B 0 V = w3 at HRG hx3 ⊢
        have HX3 := Lib.hid (HXP.out.trans (HX2.out.trans hx3)); have HX23 := Lib.hid (HX2.out.trans hx3)
        clear hx3
        go_wp2_with (first | (refine wpList_load_mid rfl _ _ rfl _ _ rfl V _ HRG.out Tryz.underlying83 rfl (by rw [HVL.out]; exact size_sector) ?_) | (go_at_call 35; refine (HGO.out w3).mono ?_; rintro E3 w4 ⟨rfl, hx4⟩; have HX4 := Lib.hid hx4; clear hx4))
        have HXN := Lib.hid (HX3.out.trans HX4.out)
        have HTN := Lib.hid ((HX23.out.trans HX4.out).heap HTP.out)
        go_roundw
        case rel => exact ⟨i + 1, E, H, by go_num, by omega, hI2, HTN, HXN⟩
        case measure => simp [intOf]; omega
      · rw [hz] at hrd hs64
        have hgo := fun W => log_good1 (w := W) (lb := lb) e he
        have hvl : (byteV (hdrS e)).length = 64 := by rw [byteV_len]; exact hdrS_len e
        have hv1 := byteV_one (hdrS e)
        generalize hV : byteV (hdrS e) = V at hrd hgo hvl hv1
        have HV := Lib.hid hV; have HVL := Lib.hid hvl; have HV1 := Lib.hid hv1; have HRDI := Lib.hid hrd; have HGO := Lib.hid hgo; have HS64 := Lib.hid hs64; clear hV hvl hv1 hrd hgo hs64 hz
        go_upto_region 8 with (first | (go_at_call 34; refine HRDI.out.mono ?_; rintro E1 w2 ⟨rfl, hx2⟩; have HX2 := Lib.hid hx2; clear hx2) | (refine wpList_store_mid rfl _ _ _ rfl _ _ V.toArray rfl rfl (there_new _ _ _ (by rw [List.size_toArray, HVL.out]; decide)) (by rw [List.size_toArray, HVL.out]; exact size_sector) (all_oneCell_toArray HV1.out) ?_))
        rw [alloc_sectorA]
        have hset := (sec_zeroA w2).set HS64.out
        rw [HV.out] at hset
        have hx3 := ext_ne ((Ext.refl w2).trans (Ext.alloc w2 (.cells zeroA 83))) (Nat.le_refl _) hset.2
        obtain ⟨B, hB⟩ : ∃ B, B = w2.heap.size := ⟨_, rfl⟩
        rw [← hB] at hset hx3 ⊢
        clear hB
        have hrg := hset.1.range
        rw [HV.out] at hrg
        have HRG := Lib.hid hrg
        clear hset hrg
        try simp only [List.toList_toArray]
        generalize (w2.alloc (.cells zeroA 83)).setCells B 0 V = w3 at HRG hx3 ⊢
        have HX3 := Lib.hid (HXP.out.trans (HX2.out.trans hx3)); have HX23 := Lib.hid (HX2.out.trans hx3)
        clear hx3
        go_upto_region 11 with (first | (refine wpList_load_mid rfl _ _ rfl _ _ rfl V _ HRG.out Tryz.underlying83 rfl (by rw [HVL.out]; exact size_sector) ?_) | (go_at_call 35; refine (HGO.out w3).mono ?_; rintro E3 w4 ⟨rfl, hx4⟩; have HX4 := Lib.hid hx4; clear hx4))
        have HXN := Lib.hid (HX3.out.trans HX4.out)
        have HTN := Lib.hid ((HX23.out.trans HX4.out).heap HTP.out)
        have c1 := blk_cell HTN.out 1 (.int .i64 (E : Int)) rfl
        rcases hI2 with ⟨hlt2, hI3⟩ | ⟨hge2, hI3⟩
        · have hlz : (E : Int) < (e : Int) := by omega
          have f1 := blk_free HTN.out 1
          have f3 := blk_free HTN.out 3
          have c3 := blk_cell HTN.out 3 (.int .i64 (H : Int)) rfl
          go_upto_region 13 with (fail)
          have h5 := setCell_row (i := 3) (setCell_row (i := 1) HTN.out (.int .i64 (e : Int))) (.int .i64 (i : Int))
          have hx5 := ext_ne HXN.out HLB.out (((Keep.refl (· ≠ lb) w4).setCell (fun _ h => h) 1 (.int .i64 (e : Int))).setCell (fun _ h => h) 3 (.int .i64 (i : Int)))
          have HT5 : Hid (((w4.setCell ⟨lb, 1, none⟩ (.int .i64 (e : Int))).setCell ⟨lb, 3, none⟩ (.int .i64 (i : Int))).heap[lb]? = some (.cells (logV db (logE e i) none 0) 81 (0, 0))) := Lib.hid h5
          have HX5 := Lib.hid hx5
          clear h5 hx5 c1 c3 f1 f3 hlz
          generalize (w4.setCell ⟨lb, 1, none⟩ (.int .i64 (e : Int))).setCell ⟨lb, 3, none⟩ (.int .i64 (i : Int)) = w5 at HT5 HX5 ⊢
          go_wp2_with fail
          go_roundw
          case rel => exact ⟨i + 1, e, i, by go_num, by omega, hI3, HT5, HX5⟩
          case measure => simp [intOf]; omega
        · have hlz : ¬ (E : Int) < (e : Int) := by omega
          go_wp2_with fail
          go_roundw
          case rel => exact ⟨i + 1, E, H, by go_num, by omega, hI3, HTN, HXN⟩
          case measure => simp [intOf]; omega
    · have hi2 : i = 2 := by omega
      subst hi2
      rw [HIE.out] at hI
      have hEH : E = L.epoch ∧ H = L.half := by
        rcases hI with ⟨h, _⟩ | ⟨h, _⟩ | ⟨_, h⟩
        · omega
        · omega
        · exact h
      obtain ⟨rfl, rfl⟩ := hEH
      clear hI
      have hgo := HG.out
      have hep := hgo.epoch
      have hh := hgo.half
      have htp := hgo.reopen.2
      have hsp := hgo.off
      have hsl := secsN_len L.list
      have hhn : halfN n ≤ 2047 := by have := hgo.six; unfold halfN; omega
      have hlk := log_lookV HTP.out (HD.out.ext HXP.out) h6 (by show L.epoch ≤ _; omega) hl1
      have HLK := Lib.hid hlk
      clear hlk
      go_upto_region 17 with (go_at_call 36; refine HLK.out.mono ?_; rintro E1 w2 ⟨rfl, hl2, hk2⟩; have HT2 := Lib.hid hl2; have HK2 := Lib.hid ((KeepT.of_ext HXP.out).trans hk2); clear hl2 hk2)
      clear HLK
      have c1 := blk_cell HT2.out 1 (.int .i64 (L.epoch : Int)) rfl
      have hne : ¬ (L.epoch : Int) = 0 := by omega
      go_upto_region 22 with (fail)
      clear c1 hne
      have ht2x : w2.heap[lb]? = some (.cells (logV db (⟨L.epoch, topI img L.epoch (n - 2), L.half, 0, []⟩ : LogD) none 0) 81 (0, 0)) := HT2.out
      clear HT2
      have HT2 := Lib.hid ht2x
      clear ht2x
      obtain ⟨m, hm⟩ : ∃ m, m = L.list.length := ⟨_, rfl⟩
      have HM := Lib.hid hm
      generalize hD : L.list = D at hm hsl
      generalize htpe : topI img L.epoch (n - 2) = tp at HT2 HQ htp
      generalize hepe : L.epoch = ep at HT2 hep htp
      generalize hfe : L.half = hf at HT2 hh
      have HDE := Lib.hid hD; have HEE := Lib.hid hepe; have HFE := Lib.hid hfe
      clear hD htpe hepe hfe
      have HTP0 : Hid (∃ la lc, w2.heap[lb]? = some (.cells (logV db (⟨ep, tp, hf, secsN (D.take 0), D.take 0⟩ : LogD) la lc) 81 (0, 0)) ∧ RowsM w2 w.heap.size la lc (D.take 0)) := Lib.hid ⟨none, 0, HT2.out, RowsM.nil _ _⟩
      have hmD : D.length = m := hm.symm
      have hoffm : secsN D ≤ 2047 := by have h := hgo.off; rw [HDE.out] at h; omega
      clear hgo hsp hm HT2
      go_loopg [12] m (fun gk v wr => ∃ j : Nat, gk = m - j ∧ j ≤ m ∧ Hid (∃ la lc, wr.heap[lb]? = some (.cells (logV db (⟨ep, tp, hf, secsN (D.take j), D.take j⟩ : LogD) la lc) 81 (0, 0)) ∧ RowsM wr w.heap.size la lc (D.take j)) ∧ Hid (KeepT [81] w wr))
      case atStart => exact ⟨0, by omega, by omega, HTP0, HK2⟩
      case round =>
        clear HTP0 HK2
        obtain ⟨j, hgk, hj, HTP, HKT⟩ := hrel
        obtain ⟨la2, lc2, ht, hro⟩ := HTP.out
        have hdw := HD.out.keepT HKT.out (by decide)
        have hlj : LogM wr lb db kb n img (⟨ep, tp, hf, secsN (D.take j), D.take j⟩ : LogD) := ⟨⟨la2, lc2, ht, hro.base HLS.out⟩, hdw, hl1⟩
        have hlen : (D.take j).length = j := List.length_take_of_le (by omega)
        by_cases hlt : j < m
        · have hjD : j < D.length := by omega
          have hnth := HG.out.nth (j := j) (by rw [HDE.out]; exact hjD)
          rw [HDE.out, HEE.out, HFE.out] at hnth
          have htk := take_getD hjD
          generalize D.getD j [] = b at hnth htk
          obtain ⟨hn1, hn2, hn3, hn4⟩ := hnth
          have hnx := log_next_some hlj h6 hh (b := b) (by intro i hi; show img (baseN n hf + secsN (D.take j) + i) = recS (D.take j).length ep b i; rw [hlen]; exact hn1 i hi) hn2 hn3 (by show (D.take j).length ≤ _; omega) (by show ep ≤ _; omega)
          have HNX := Lib.hid hnx; have HTK := Lib.hid htk; have HQS := Lib.hid hn4
          clear hnx htk hn1 hlj hdw
          have hscp := secN_pos b.length
          generalize hbn : b.length = bn at HNX hn2 hn3 HQS hscp
          have HBN := Lib.hid hbn; clear hbn
          generalize hsc : secN bn = sc at HNX hn2 HQS hscp
          have HSC := Lib.hid hsc; clear hsc
          have hscn : ¬ (sc : Int) = 0 := by omega
          go_upto_region 27 with (go_at_call 38; refine HNX.out.mono ?_; rintro E4 w7 ⟨a12, c12, rfl, hd12, hc12, hx7⟩; have H6 := Lib.hid hd12; have H6C := Lib.hid hc12; have HX7 := Lib.hid hx7; clear hd12 hc12 hx7)
          clear HNX hscn
          have HT7 := Lib.hid (HX7.out.heap ht)
          obtain ⟨Z, hZ, hz1, hz2⟩ := hro.ext HX7.out
          rw [hlen] at hz1
          have HZ := Lib.hid hZ; have HO := Lib.hid hz1; have HZD := Lib.hid hz2; have HJK := Lib.hid hlen
          clear hZ hz1 hz2 ht hro
          generalize hq : secsN (D.take j) = q at HQS hn2
          have HQE := Lib.hid hq; clear hq
          have hqw : IntKind.i64.wrap ((q : Int) + (sc : Int)) = (q : Int) + (sc : Int) := by rw [IntKind.wrap_i64]; omega
          have HCS : Hid (∀ W, KeepT [22] w7 W → W.cell? ⟨lb, 5, none⟩ = some (.slice la2 j lc2) ∧ W.cell? ⟨lb, 4, none⟩ = some (.int .i64 (q : Int))) := Lib.hid fun W k => by
            have h := k.heap HT7.out (by decide)
            have h5 := blk_cell h 5 (.slice la2 (D.take j).length lc2) rfl
            have h4 := blk_cell h 4 (.int .i64 (secsN (D.take j) : Nat)) rfl
            rw [HJK.out] at h5
            rw [HQE.out] at h4
            exact ⟨h5, h4⟩
          have HK : Hid (KeepT [22] w7 w7.drew) := Lib.hid (KeepT.drew (KeepT.refl _ _))
          have HKO : Hid (KeepT [81] w w7.drew) := Lib.hid ((HKT.out.trans (KeepT.of_ext HX7.out)).drew)
          replace HO := Lib.hid (ownsRow_keep HO.out (show Keep (fun _ => True) w7 w7.drew from ⟨rfl, rfl, rfl, Nat.le_refl _, fun _ _ _ => rfl⟩) (fun _ _ _ _ _ => trivial))
          replace H6 := Lib.hid (H6.out.keep (Keep.of_ext (S := fun _ => True) ((Ext.refl w7).drew)) (datas_all _))
          refine wp_region_noPanic ?_
          refine wp_region_K (S := (fun W => W.cell? ⟨lb, 5, none⟩ = some (.slice la2 j lc2) ∧ W.cell? ⟨lb, 4, none⟩ = some (.int .i64 (q : Int)))) (I := [5, 12]) (by kernel_rfl) (HCS.out _ HK.out) (fun hHeld => ?_)
          clear hHeld
          generalize w7.drew = wc at HK HO H6 HKO ⊢
          refine wpAnyK_free (i := 0) (v := ?_) rfl (by kernel_rfl) (by kernel_rfl) (by kernel_rfl) (fun _ _ _ h => h) (by kernel_rfl) ?_ (fun _ => (HCS.out _ HK.out)) ?_
          rotate_left
          · (intro wq; first | (go_simp; done) | (go_simp; with_reducible rfl))
          try simp only [List.getElem_toArray, List.getElem_cons_zero, Act.put, List.setIfInBounds_toArray, List.set_cons_zero, List.set_cons_succ]
          refine wpAnyK_free (i := 1) (v := ?_) rfl (by kernel_rfl) (by kernel_rfl) (by kernel_rfl) (fun _ _ _ h => h) (by kernel_rfl) ?_ (fun _ => (HCS.out _ HK.out)) ?_
          rotate_left
          · (intro wq; first | (go_simp; done) | (go_simp; with_reducible rfl))
          try simp only [List.getElem_toArray, List.getElem_cons_zero, List.getElem_cons_succ, Act.put, List.setIfInBounds_toArray, List.set_cons_zero, List.set_cons_succ]
          refine wpAnyK_free (i := 2) (v := ?_) rfl (by kernel_rfl) (by kernel_rfl) (by kernel_rfl) (fun _ _ _ h => h) (by kernel_rfl) ?_ (fun _ => (HCS.out _ HK.out)) ?_
          rotate_left
          · (intro wq; first | (go_simp; done) | (go_simp; with_reducible rfl))
          try simp only [List.getElem_toArray, List.getElem_cons_zero, List.getElem_cons_succ, Act.put, List.setIfInBounds_toArray, List.set_cons_zero, List.set_cons_succ]
          refine wpAnyK_free (i := 3) (v := ?_) rfl (by kernel_rfl) (by kernel_rfl) (by kernel_rfl) (fun _ _ _ h => h) (by kernel_rfl) ?_ (fun _ => (HCS.out _ HK.out)) ?_
          rotate_left
          · (intro wq; first | (go_simp; done) | (go_simp; with_reducible rfl))
          try simp only [List.getElem_toArray, List.getElem_cons_zero, List.getElem_cons_succ, Act.put, List.setIfInBounds_toArray, List.set_cons_zero, List.set_cons_succ]
          refine wpAnyK_free (i := 4) (v := ?_) rfl (by kernel_rfl) (by kernel_rfl) (by kernel_rfl) (fun _ _ _ h => h) (by kernel_rfl) ?_ (fun _ => (HCS.out _ HK.out)) ?_
          rotate_left
          · (intro wq; first | (go_simp; done) | (go_simp; with_reducible rfl))
          try simp only [List.getElem_toArray, List.getElem_cons_zero, List.getElem_cons_succ, Act.put, List.setIfInBounds_toArray, List.set_cons_zero, List.set_cons_succ]
          refine wpAnyK_load (i := 5) (v := ?_) rfl (by kernel_rfl) (by kernel_rfl) (by kernel_rfl) (fun _ _ _ h => h) (by kernel_rfl) (by kernel_rfl) ?_ (HCS.out _ HK.out) ?_
          rotate_left
          · (intro wq hSw; (try dsimp only at hSw); first | (go_simp; done) | (go_simp; with_reducible rfl))
          try simp only [List.getElem_toArray, List.getElem_cons_zero, List.getElem_cons_succ, Act.put, List.setIfInBounds_toArray, List.set_cons_zero, List.set_cons_succ]
          refine wpAnyK_free (i := 6) (v := ?_) rfl (by kernel_rfl) (by kernel_rfl) (by kernel_rfl) (fun _ _ _ h => h) (by kernel_rfl) ?_ (fun _ => (HCS.out _ HK.out)) ?_
          rotate_left
          · (intro wq; first | (go_simp; done) | (go_simp; with_reducible rfl))
          try simp only [List.getElem_toArray, List.getElem_cons_zero, List.getElem_cons_succ, Act.put, List.setIfInBounds_toArray, List.set_cons_zero, List.set_cons_succ]
          refine wpAnyK_free (i := 9) (v := ?_) rfl (by kernel_rfl) (by kernel_rfl) (by kernel_rfl) (fun _ _ _ h => h) (by kernel_rfl) ?_ (fun _ => (HCS.out _ HK.out)) ?_
          rotate_left
          · (intro wq; first | (go_simp; done) | (go_simp; with_reducible rfl))
          try simp only [List.getElem_toArray, List.getElem_cons_zero, List.getElem_cons_succ, Act.put, List.setIfInBounds_toArray, List.set_cons_zero, List.set_cons_succ]
          refine wpAnyK_free (i := 10) (v := ?_) rfl (by kernel_rfl) (by kernel_rfl) (by kernel_rfl) (fun _ _ _ h => h) (by kernel_rfl) ?_ (fun _ => (HCS.out _ HK.out)) ?_
          rotate_left
          · (intro wq; first | (go_simp; done) | (go_simp; with_reducible rfl))
          try simp only [List.getElem_toArray, List.getElem_cons_zero, List.getElem_cons_succ, Act.put, List.setIfInBounds_toArray, List.set_cons_zero, List.set_cons_succ]
          refine wpAnyK_free (i := 11) (v := ?_) rfl (by kernel_rfl) (by kernel_rfl) (by kernel_rfl) (fun _ _ _ h => h) (by kernel_rfl) ?_ (fun _ => (HCS.out _ HK.out)) ?_
          rotate_left
          · (intro wq; first | (go_simp; done) | (go_simp; with_reducible rfl))
          try simp only [List.getElem_toArray, List.getElem_cons_zero, List.getElem_cons_succ, Act.put, List.setIfInBounds_toArray, List.set_cons_zero, List.set_cons_succ]
          refine wpAnyK_load (i := 12) (v := ?_) rfl (by kernel_rfl) (by kernel_rfl) (by kernel_rfl) (fun _ _ _ h => h) (by kernel_rfl) (by kernel_rfl) ?_ (HCS.out _ HK.out) ?_
          rotate_left
          · (intro wq hSw; (try dsimp only at hSw); first | (go_simp; done) | (go_simp; with_reducible rfl))
          try simp only [List.getElem_toArray, List.getElem_cons_zero, List.getElem_cons_succ, Act.put, List.setIfInBounds_toArray, List.set_cons_zero, List.set_cons_succ]
          refine wpAnyK_free (i := 13) (v := ?_) rfl (by kernel_rfl) (by kernel_rfl) (by kernel_rfl) (fun _ _ _ h => h) (by kernel_rfl) ?_ (fun _ => (HCS.out _ HK.out)) ?_
          rotate_left
          · (intro wq; first | (go_simp; done) | (go_simp; with_reducible rfl))
          try simp only [List.getElem_toArray, List.getElem_cons_zero, List.getElem_cons_succ, Act.put, List.setIfInBounds_toArray, List.set_cons_zero, List.set_cons_succ]
          refine wpAnyK_free (i := 14) (v := ?_) rfl (by kernel_rfl) (by kernel_rfl) (by kernel_rfl) (fun _ _ _ h => h) (by kernel_rfl) ?_ (fun _ => (HCS.out _ HK.out)) ?_
          rotate_left
          · (intro wq; first | (go_simp; done) | (go_simp; with_reducible rfl))
          try simp only [List.getElem_toArray, List.getElem_cons_zero, List.getElem_cons_succ, Act.put, List.setIfInBounds_toArray, List.set_cons_zero, List.set_cons_succ]
          all_goals (
            first
              | refine wpAnyK_ready (rs := [7]) (by decide +kernel) (by simp) ?_
            repeat' (first | exact AllReadyK.nil | (refine AllReadyK.cons rfl (fun K hK => ?_) ?_)))
          all_goals (
            first
              | (go_simp
                 first
                   | (have hx := Ext.alloc wc (.cells #[.slice a12 bn c12] 22)
                      have hbn := heap_alloc_new wc (.cells #[.slice a12 bn c12] 22)
                      refine hK.out _ (wc.alloc (.cells #[.slice a12 bn c12] 22)) (HCS.out _ (HK.out.trans (KeepT.of_ext hx))) (fun _ => ?_)
                      clear hK K
                      replace HK := Lib.hid (HK.out.trans (KeepT.of_ext hx))
                      replace HKO := Lib.hid (HKO.out.trans (KeepT.of_ext hx))
                      replace HO := Lib.hid (ownsRow_keep HO.out (Keep.of_ext (S := fun _ => True) hx) (fun _ _ _ _ _ => trivial))
                      replace H6 := Lib.hid (H6.out.keep (Keep.of_ext (S := fun _ => True) hx) (datas_all _))
                      obtain ⟨GN, hB⟩ : ∃ x, x = wc.heap.size := ⟨_, rfl⟩
                      rw [← hB] at hbn ⊢
                      have HGN := Lib.hid hbn
                      clear hbn hB hx
                      generalize wc.alloc (.cells #[.slice a12 bn c12] 22) = wc at *
                      try simp only [List.getElem_toArray, List.getElem_cons_zero, List.getElem_cons_succ, Act.put, List.setIfInBounds_toArray, List.set_cons_zero, List.set_cons_succ])))
          all_goals (
            first
              | refine wpAnyK_ready (rs := [8]) (by decide +kernel) (by simp) ?_
            repeat' (first | exact AllReadyK.nil | (refine AllReadyK.cons rfl (fun K hK => ?_) ?_)))
          all_goals (
            first
              | (refine step_append_any (by rfl) _ _ 58 22 (.slice none 0 0) 1 24 (by rfl) Tryz.underlying58 info_row rfl (by decide) w.heap.size la2 j lc2 (Z.flatMap rowV) (by simp [Act.eval]) HO.out (some ⟨GN, 0, none⟩) 1 1 [.slice a12 bn c12] (by simp [Act.eval]) rfl (run_blk HGN.out) (by intro u hu; rw [List.mem_singleton.1 hu]; rfl) (by omega) (by decide) HKO.out.size (j + 1) (by omega) ?_
                 intro a8 c8 wn hown hkp hbl
                 have HKP := Lib.hid HK.out
                 have hkt := KeepT.grown (ts := [22]) hkp HO.out (by decide) HLS.out
                 replace HK := Lib.hid (HK.out.trans hkt)
                 replace HKO := Lib.hid (KeepT.own HKO.out hkp HO.out)
                 have hra := rows_app (c := lc2) (c' := c8) (D := D.take j) (l := b) (o := ⟨a12, c12⟩) HZ.out (by rw [HJK.out]; exact HO.out) (fun z hz => ⟨(HZD.out z hz).1.keep HKP.out (KeepT.datas (by decide)), (HZD.out z hz).2⟩) H6.out (by rw [HBN.out]; exact H6C.out) (by rw [HJK.out, HBN.out]; exact hown) (by rw [HJK.out]; exact hkp)
                 have HRA := Lib.hid hra
                 clear hown hkp hbl hkt hra HO
                 refine hK.out _ _ (HCS.out _ HK.out) (fun _ => ?_)
                 clear hK K
                 obtain ⟨wc, rfl⟩ : ∃ x : World, x = wn := ⟨_, rfl⟩
                 try simp only [List.getElem_toArray, List.getElem_cons_zero, List.getElem_cons_succ, Act.put, List.setIfInBounds_toArray, List.set_cons_zero, List.set_cons_succ]
                 refine wpAnyK_free (i := 15) (v := ?_) rfl (by kernel_rfl) (by kernel_rfl) (by kernel_rfl) (fun _ _ _ h => h) (by kernel_rfl) ?_ (fun _ => (HCS.out _ HK.out)) ?_
                 rotate_left
                 · (intro wq; first | (go_simp; done) | (go_simp; with_reducible rfl))
                 try simp only [List.getElem_toArray, List.getElem_cons_zero, List.getElem_cons_succ, Act.put, List.setIfInBounds_toArray, List.set_cons_zero, List.set_cons_succ]
                 refine wpAnyK_free (i := 16) (v := ?_) rfl (by kernel_rfl) (by kernel_rfl) (by kernel_rfl) (fun _ _ _ h => h) (by kernel_rfl) ?_ (fun _ => (HCS.out _ HK.out)) ?_
                 rotate_left
                 · (intro wq; first | (go_simp; done) | (go_simp; with_reducible rfl))
                 try simp only [List.getElem_toArray, List.getElem_cons_zero, List.getElem_cons_succ, Act.put, List.setIfInBounds_toArray, List.set_cons_zero, List.set_cons_succ]))
          all_goals (
            have n1 := (HCS.out _ HK.out).1
            have n2 := (HCS.out _ HK.out).2
            have g1 := blk_free (HK.out.heap HT7.out (by decide)) 5
            have g2 := blk_free (HK.out.heap HT7.out (by decide)) 4
            refine wpAnyK_last (i := 17) (by kernel_rfl) rfl (by kernel_rfl) ?_
            intro K hK
            go_simp
            refine hK.out _ _ ?_
            clear hK K
            try simp only [List.getElem_toArray, List.getElem_cons_zero, List.getElem_cons_succ, Act.put, List.setIfInBounds_toArray, List.set_cons_zero, List.set_cons_succ]
            refine wpAnyK_free (i := 18) (v := ?_) rfl (by kernel_rfl) (by kernel_rfl) (by kernel_rfl) (fun _ _ _ h => h) (by kernel_rfl) ?_ (fun h => by cases h) ?_
            rotate_left
            · (intro wq; first | (go_simp; done) | (go_simp; with_reducible rfl))
            try simp only [List.getElem_toArray, List.getElem_cons_zero, List.getElem_cons_succ, Act.put, List.setIfInBounds_toArray, List.set_cons_zero, List.set_cons_succ]
            refine wpAnyK_free (i := 19) (v := ?_) rfl (by kernel_rfl) (by kernel_rfl) (by kernel_rfl) (fun _ _ _ h => h) (by kernel_rfl) ?_ (fun h => by cases h) ?_
            rotate_left
            · (intro wq; first | (go_simp; done) | (go_simp; with_reducible rfl))
            try simp only [List.getElem_toArray, List.getElem_cons_zero, List.getElem_cons_succ, Act.put, List.setIfInBounds_toArray, List.set_cons_zero, List.set_cons_succ])
          all_goals (
            refine wpAnyK_last (i := 20) (by kernel_rfl) rfl (by kernel_rfl) ?_
            intro K hK
            go_simp
            refine hK.out _ _ ?_
            clear hK K
            try simp only [List.getElem_toArray, List.getElem_cons_zero, List.getElem_cons_succ, Act.put, List.setIfInBounds_toArray, List.set_cons_zero, List.set_cons_succ])
          all_goals (
            refine wpAnyK_done (by kernel_rfl) ?_ _
            refine NoPanic.normal ?_
            clear n1 g1 n2 g2
            have ht8 := HK.out.heap HT7.out (by decide)
            have h9 := setCell_row (i := 4) (setCell_row (i := 5) ht8 (.slice a8 (j + 1) c8)) (.int .i64 ((q : Int) + (sc : Int)))
            have hk9c : Keep (· ≠ lb) wc ((wc.setCell ⟨lb, 5, none⟩ (.slice a8 (j + 1) c8)).setCell ⟨lb, 4, none⟩ (.int .i64 ((q : Int) + (sc : Int)))) := ((Keep.refl _ wc).setCell (fun _ h => h) 5 _).setCell (fun _ h => h) 4 _
            have hk9t := KeepT.ne (ts := [81]) hk9c ht8 (by decide)
            have hk9o := HKO.out.trans hk9t
            generalize (wc.setCell ⟨lb, 5, none⟩ (.slice a8 (j + 1) c8)).setCell ⟨lb, 4, none⟩ (.int .i64 ((q : Int) + (sc : Int))) = w9 at h9 hk9c hk9o hk9t ⊢
            have hra9 := HRA.out.keepT hk9t (by decide) (by decide)
            rw [← HTK.out] at hra9
            have ht9 : w9.heap[lb]? = some (.cells (logV db (⟨ep, tp, hf, secsN (D.take (j + 1)), D.take (j + 1)⟩ : LogD) a8 c8) 81 (0, 0)) := by
              rw [h9, HQS.out]
              unfold logV
              simp only [Int.natCast_add, HTK.out, List.length_append, HJK.out]
              rfl
            have HTP9 : Hid (∃ la lc, w9.heap[lb]? = some (.cells (logV db (⟨ep, tp, hf, secsN (D.take (j + 1)), D.take (j + 1)⟩ : LogD) la lc) 81 (0, 0)) ∧ RowsM w9 w.heap.size la lc (D.take (j + 1))) := Lib.hid ⟨_, _, ht9, hra9⟩
            have HKT9 := Lib.hid hk9o
            clear h9 hk9c hk9o hk9t hra9 ht8 ht9
            go_wp2_with fail
            go_roundg (m - (j + 1))
            case measure => omega
            case rel => exact ⟨j + 1, rfl, by omega, HTP9, HKT9⟩)
        · have hjm : j = m := by omega
          subst hjm
          have hdt : D.take j = D := by rw [← hmD, List.take_length]
          rw [hdt] at hlj
          have hgo := HG.out
          have hof := hgo.off
          rw [HDE.out] at hof
          have hst : ∀ p, L.off ≤ p → p < halfN n → StaleS ep (img (baseN n hf + p)) := by have h := hgo.rest; rw [HEE.out, HFE.out] at h; exact h
          rw [hof.1] at hst
          have hfin : LogM wr lb db kb n img (⟨ep, tp, hf, secsN D, D⟩ : LogD) := hlj
          have hle : (⟨ep, tp, hf, secsN D, D⟩ : LogD) = { L with top := tp } := by rw [← HEE.out, ← HFE.out, ← HDE.out, ← (show L.off = secsN L.list from hgo.off.1)]
          rw [hle] at hfin
          have HFIN := Lib.hid hfin
          clear hfin hle hgo hdw HTP ht hro
          have hnx : Calls Tryz.prog 38 #[.pointer (some ⟨lb, 0, none⟩)] wr fun e w' => e = .returned (.tuple #[.slice none 0 0, .int .i64 0, .int .i64 0]) ∧ Ext wr w' := by
            by_cases ho : halfN n ≤ secsN D
            · exact log_next_end hlj h6 ho (by show secsN D ≤ _; omega)
            · exact log_next_none hlj h6 hh (by show secsN D < _; omega) (hst (secsN D) (Nat.le_refl _) (by omega))
          have HNX := Lib.hid hnx
          clear hnx hst hof hlj
          go_wp2_with (go_at_call 38; refine HNX.out.mono ?_; rintro E4 w7 ⟨rfl, hx7⟩; have HX7 := Lib.hid hx7; clear hx7)
          rw [HQ.out]
          exact ⟨lb, rfl, HFIN.out.ext HX7.out, HKT.out.trans (KeepT.of_ext HX7.out)⟩
end
end Go.Proofs.YtlpjmkkinlcbnaaGreatDoor
