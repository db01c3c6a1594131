/- The log's Open. -/
import Derived.Test.YtefpllpichhojaaGreatDoorLogList
namespace Go.Proofs.YtefpllpichhojaaGreatDoor
open Go.RowKit
variable [Low]
def HeadStep (img : Img) (I : Nat → Nat → Nat → Prop) : Prop :=
 ∀ i E H, i < 2 → I i E H → (img i = zeroS ∧ I (i + 1) E H) ∨ ∃ e, e ≤ 2147483648 ∧ img i = hdrS e ∧ ((E < e ∧ I (i + 1) e i) ∨ (e ≤ E ∧ I (i + 1) E H))
def logE (E H : Nat) : LogD := ⟨E, 0, H, 0, []⟩
omit [Low] in
theorem alloc_sectorA (w : World) : w.alloc (.cells #[.int .u8 0, .int .u8 0, .int .u8 0, .int .u8 0, .int .u8 0, .int .u8 0, .int .u8 0, .int .u8 0, .int .u8 0, .int .u8 0, .int .u8 0, .int .u8 0, .int .u8 0, .int .u8 0, .int .u8 0, .int .u8 0, .int .u8 0, .int .u8 0, .int .u8 0, .int .u8 0, .int .u8 0, .int .u8 0, .int .u8 0, .int .u8 0, .int .u8 0, .int .u8 0, .int .u8 0, .int .u8 0, .int .u8 0, .int .u8 0, .int .u8 0, .int .u8 0, .int .u8 0, .int .u8 0, .int .u8 0, .int .u8 0, .int .u8 0, .int .u8 0, .int .u8 0, .int .u8 0, .int .u8 0, .int .u8 0, .int .u8 0, .int .u8 0, .int .u8 0, .int .u8 0, .int .u8 0, .int .u8 0, .int .u8 0, .int .u8 0, .int .u8 0, .int .u8 0, .int .u8 0, .int .u8 0, .int .u8 0, .int .u8 0, .int .u8 0, .int .u8 0, .int .u8 0, .int .u8 0, .int .u8 0, .int .u8 0, .int .u8 0, .int .u8 0] 234) = w.alloc (.cells zeroA 234) := rfl
omit [Low] in
theorem sec_zeroA (w : World) : SecAt (w.alloc (.cells zeroA 234)) w.heap.size zeroS := sec_zero w
section
variable {w : World} {db kb n : Nat} {img : Img}
set_option maxRecDepth 100000 in
set_option maxHeartbeats 12800000 in
theorem log_Open_new (hd : DiskM w db kb n img) (h6 : 6 ≤ n) (hz0 : ∀ p, p < n → img p = zeroS) :
 Calls Tryz.prog 108 #[.pointer (some ⟨db, 0, none⟩)] w fun e w' => ∃ lb, e = .returned (.tuple #[.pointer (some ⟨lb, 0, none⟩), .int .i64 0]) ∧ LogM w' lb db kb n (rewI n img log0 []) (newL log0 []) ∧ KeepT [190, 234, 257, 209] w w' := by
 obtain ⟨Q, hQ⟩ : ∃ Q : Ending → World → Prop, Q = fun e w' => ∃ lb, e = .returned (.tuple #[.pointer (some ⟨lb, 0, none⟩), .int .i64 0]) ∧ LogM w' lb db kb n (rewI n img log0 []) (newL log0 []) ∧ KeepT [190, 234, 257, 209] w w' := ⟨_, rfl⟩
 rw [← hQ]
 have HQ := Lib.hid hQ; clear hQ
 obtain ⟨I, hIe⟩ : ∃ I : Nat → Nat → Nat → Prop, I = fun _ E H => E = 0 ∧ H = 0 := ⟨_, rfl⟩
 have hst : HeadStep img I := fun i E H hi h => Or.inl ⟨hz0 i (by omega), by rw [hIe] at h ⊢; exact h⟩
 have hI0 : I 0 0 0 := by rw [hIe]; exact ⟨rfl, rfl⟩
 have HIE := Lib.hid hIe; clear hIe
 have HLS : Hid (Low.low ≤ w.heap.size) := Lib.hid (by obtain ⟨⟨_, _, _, _, _, ht, _⟩, _, _, _, _, hl⟩ := hd; have := (Array.getElem?_eq_some_iff.1 ht).1; omega)
 have hlen := disk_Len hd
 have HD := Lib.hid hd; have HLEN := Lib.hid hlen; have HST := Lib.hid hst; clear hd hlen hst
 have h6i : ¬ (n : Int) < 6 := by omega
 go_enter Tryz.func108, Tryz.ntmps108
 go_upto_region 5 with (go_at_call 148; refine HLEN.out.mono ?_; rintro E wn ⟨rfl, rfl⟩)
 have hx1 := Ext.alloc w (.cells (logV db (logE 0 0) none 0) 209)
 have h1 := heap_alloc_new w (.cells (logV db (logE 0 0) none 0) 209)
 obtain ⟨lb, hlb⟩ : ∃ lb, lb = w.heap.size := ⟨_, rfl⟩
 rw [← hlb] at h1 ⊢
 have HLB := Lib.hid (show w.heap.size ≤ lb by omega)
 have hl1 : Low.low ≤ lb := Nat.le_trans HLS.out HLB.out
 clear hlb
 change Code.wp _ _ _ _ (w.alloc (.cells (logV db (logE 0 0) none 0) 209))
 generalize w.alloc (.cells (logV db (logE 0 0) none 0) 209) = w1 at hx1 h1 ⊢
 have HTP0 := Lib.hid h1; have HXP0 := Lib.hid hx1; clear hx1 h1
 go_loopw [21] (fun v wr => ∃ i E H : Nat, v = .int .i64 i ∧ i ≤ 2 ∧ I i E H ∧ Hid (wr.heap[lb]? = some (.cells (logV db (logE E H) none 0) 209 (0, 0))) ∧ Hid (Ext w wr)) (fun v _ => 2 - (intOf v).toNat)
 case atStart => exact ⟨0, 0, 0, rfl, by omega, hI0, HTP0, HXP0⟩
 case round =>
  clear HTP0 HXP0
  obtain ⟨i, E, H, rfl, hi, hI, HTP, HXP⟩ := hrel
  by_cases hlt : i < 2
  · have hst := HST.out i E H hlt hI
    have hrd := disk_Read (HD.out.ext HXP.out) (p := i) (by omega)
    have hs64 := HD.out.len i (by omega)
    have hie : (i : Int) < 2 := by omega
    rcases hst with ⟨hz, hI2⟩ | ⟨e, he, hz, hI2⟩
    · rw [hz] at hrd hs64
      have hgo := fun W => log_good0 (w := W) (lb := lb)
      have hvl : (byteV zeroS).length = 64 := by rw [byteV_len]; exact zeroS_len
      have hv1 := byteV_one zeroS
      have hset0 := fun W (h : SecAt W (W.heap.size - 1) zeroS) => h.1
      clear hset0
      generalize hV : byteV zeroS = V at hrd hgo hvl hv1
      have HV := Lib.hid hV; have HVL := Lib.hid hvl; have HV1 := Lib.hid hv1; have HRDI := Lib.hid hrd; have HGO := Lib.hid hgo; have HS64 := Lib.hid hs64; clear hV hvl hv1 hrd hgo hs64 hz
      go_upto_region 8 with (first | (go_at_call 149; refine HRDI.out.mono ?_; rintro E1 w2 ⟨rfl, hx2⟩; have HX2 := Lib.hid hx2; clear hx2) | (refine wpList_store_mid rfl _ _ _ rfl _ _ V.toArray rfl rfl (there_new _ _ _ (by rw [List.size_toArray, HVL.out]; decide)) (by rw [List.size_toArray, HVL.out]; exact size_sector) (all_oneCell_toArray HV1.out) ?_))
      rw [alloc_sectorA]
      have hset := (sec_zeroA w2).set HS64.out
      rw [HV.out] at hset
      have hx3 := ext_ne ((Ext.refl w2).trans (Ext.alloc w2 (.cells zeroA 234))) (Nat.le_refl _) hset.2
      obtain ⟨B, hB⟩ : ∃ B, B = w2.heap.size := ⟨_, rfl⟩
      rw [← hB] at hset hx3 ⊢
      clear hB
      have hrg := hset.1.range
      rw [HV.out] at hrg
      have HRG := Lib.hid hrg
      clear hset hrg
      try simp only [List.toList_toArray]
      generalize (w2.alloc (.cells zeroA 234)).setCells B 0 V = w3 at HRG hx3 ⊢
      have HX3 := Lib.hid (HXP.out.trans (HX2.out.trans hx3)); have HX23 := Lib.hid (HX2.out.trans hx3)
      clear hx3
      go_wp2_with (first | (refine wpList_load_mid rfl _ _ rfl _ _ rfl V _ HRG.out Tryz.underlying234 rfl (by rw [HVL.out]; exact size_sector) ?_) | (go_at_call 150; refine (HGO.out w3).mono ?_; rintro E3 w4 ⟨rfl, hx4⟩; have HX4 := Lib.hid hx4; clear hx4))
      have HXN := Lib.hid (HX3.out.trans HX4.out)
      have HTN := Lib.hid ((HX23.out.trans HX4.out).heap HTP.out)
      go_roundw
      case rel => exact ⟨i + 1, E, H, by go_num, by omega, hI2, HTN, HXN⟩
      case measure => simp [intOf]; omega
    · rw [hz] at hrd hs64
      have hgo := fun W => log_good1 (w := W) (lb := lb) e he
      have hvl : (byteV (hdrS e)).length = 64 := by rw [byteV_len]; exact hdrS_len e
      have hv1 := byteV_one (hdrS e)
      generalize hV : byteV (hdrS e) = V at hrd hgo hvl hv1
      have HV := Lib.hid hV; have HVL := Lib.hid hvl; have HV1 := Lib.hid hv1; have HRDI := Lib.hid hrd; have HGO := Lib.hid hgo; have HS64 := Lib.hid hs64; clear hV hvl hv1 hrd hgo hs64 hz
      go_upto_region 8 with (first | (go_at_call 149; refine HRDI.out.mono ?_; rintro E1 w2 ⟨rfl, hx2⟩; have HX2 := Lib.hid hx2; clear hx2) | (refine wpList_store_mid rfl _ _ _ rfl _ _ V.toArray rfl rfl (there_new _ _ _ (by rw [List.size_toArray, HVL.out]; decide)) (by rw [List.size_toArray, HVL.out]; exact size_sector) (all_oneCell_toArray HV1.out) ?_))
      rw [alloc_sectorA]
      have hset := (sec_zeroA w2).set HS64.out
      rw [HV.out] at hset
      have hx3 := ext_ne ((Ext.refl w2).trans (Ext.alloc w2 (.cells zeroA 234))) (Nat.le_refl _) hset.2
      obtain ⟨B, hB⟩ : ∃ B, B = w2.heap.size := ⟨_, rfl⟩
      rw [← hB] at hset hx3 ⊢
      clear hB
      have hrg := hset.1.range
      rw [HV.out] at hrg
      have HRG := Lib.hid hrg
      clear hset hrg
      try simp only [List.toList_toArray]
      generalize (w2.alloc (.cells zeroA 234)).setCells B 0 V = w3 at HRG hx3 ⊢
      have HX3 := Lib.hid (HXP.out.trans (HX2.out.trans hx3)); have HX23 := Lib.hid (HX2.out.trans hx3)
      clear hx3
      go_upto_region 11 with (first | (refine wpList_load_mid rfl _ _ rfl _ _ rfl V _ HRG.out Tryz.underlying234 rfl (by rw [HVL.out]; exact size_sector) ?_) | (go_at_call 150; refine (HGO.out w3).mono ?_; rintro E3 w4 ⟨rfl, hx4⟩; have HX4 := Lib.hid hx4; clear hx4))
      have HXN := Lib.hid (HX3.out.trans HX4.out)
      have HTN := Lib.hid ((HX23.out.trans HX4.out).heap HTP.out)
      have c1 := blk_cell HTN.out 1 (.int .i64 (E : Int)) rfl
      rcases hI2 with ⟨hlt2, hI3⟩ | ⟨hge2, hI3⟩
      · have hlz : (E : Int) < (e : Int) := by omega
        have f1 := blk_free HTN.out 1
        have f3 := blk_free HTN.out 3
        have c3 := blk_cell HTN.out 3 (.int .i64 (H : Int)) rfl
        go_upto_region 13 with (fail)
        have h5 := setCell_row (i := 3) (setCell_row (i := 1) HTN.out (.int .i64 (e : Int))) (.int .i64 (i : Int))
        have hx5 := ext_ne HXN.out HLB.out (((Keep.refl (· ≠ lb) w4).setCell (fun _ h => h) 1 (.int .i64 (e : Int))).setCell (fun _ h => h) 3 (.int .i64 (i : Int)))
        have HT5 : Hid (((w4.setCell ⟨lb, 1, none⟩ (.int .i64 (e : Int))).setCell ⟨lb, 3, none⟩ (.int .i64 (i : Int))).heap[lb]? = some (.cells (logV db (logE e i) none 0) 209 (0, 0))) := Lib.hid h5
        have HX5 := Lib.hid hx5
        clear h5 hx5 c1 c3 f1 f3 hlz
        generalize (w4.setCell ⟨lb, 1, none⟩ (.int .i64 (e : Int))).setCell ⟨lb, 3, none⟩ (.int .i64 (i : Int)) = w5 at HT5 HX5 ⊢
        go_wp2_with fail
        go_roundw
        case rel => exact ⟨i + 1, e, i, by go_num, by omega, hI3, HT5, HX5⟩
        case measure => simp [intOf]; omega
      · have hlz : ¬ (E : Int) < (e : Int) := by omega
        go_wp2_with fail
        go_roundw
        case rel => exact ⟨i + 1, E, H, by go_num, by omega, hI3, HTN, HXN⟩
        case measure => simp [intOf]; omega
  · have hi2 : i = 2 := by omega
    subst hi2
    rw [HIE.out] at hI
    obtain ⟨rfl, rfl⟩ := hI
    have hlm : LogM wr lb db kb n img log0 := ⟨⟨none, 0, HTP.out, RowsM.nil _ _⟩, HD.out.ext HXP.out, hl1⟩
    have hlk := log_look hlm h6 (by show 0 ≤ _; omega)
    have htz : ({ log0 with top := topI img log0.epoch (n - 2) } : LogD) = log0 := by
     have e : topI img 0 (n - 2) = 0 := topI_zero (n - 2) fun p hp => hz0 p (by omega)
     show (⟨0, topI img 0 (n - 2), 0, 0, []⟩ : LogD) = _
     rw [e]; rfl
    rw [htz] at hlk
    have HLK := Lib.hid hlk
    clear hlk hlm htz
    go_upto_region 17 with (go_at_call 151; refine HLK.out.mono ?_; rintro E1 w2 ⟨rfl, hl2, hk2⟩; have HL2 := Lib.hid hl2; have HK2 := Lib.hid hk2; clear hl2 hk2)
    obtain ⟨la2, lc2, ht2, _⟩ := HL2.out.top
    have c1 := blk_cell ht2 1 (.int .i64 0) rfl
    clear ht2
    have hrw := log_Rewrite (rows := []) (ra := none) (rc := 0) HL2.out (Or.inl rfl) (fun b hb => by cases hb) (Nat.zero_le _) h6 (by decide) (by decide)
    have HRW := Lib.hid hrw
    clear hrw
    go_wp2_with (go_at_call 129; refine HRW.out.mono ?_; rintro E2 w3 ⟨rfl, hl3, hk3⟩; have HL3 := Lib.hid hl3; have HK3 := Lib.hid hk3; clear hl3 hk3)
    rw [HQ.out]
    exact ⟨lb, rfl, HL3.out, ((KeepT.of_ext HXP.out).trans (KeepT.mono HK2.out (by decide))).trans HK3.out⟩
end
end Go.Proofs.YtefpllpichhojaaGreatDoor
