/- vol's Open. -/
import Derived.Test.YtlpjmkkinlcbnaaGreatDoorVolRep
namespace Go.Proofs.YtlpjmkkinlcbnaaGreatDoor
open Go.RowKit
variable [Low]
omit [Low] in
theorem TreeM.fresh_ne {w : World} {base tb mb N : Nat} {T : TreeD} {A : Int → NodeA} (h : TreeM w base tb mb N T A) : w.heap.size ≠ mb ∧ ∀ i ∈ T.ids, (A i).kb ≠ some w.heap.size := by
  obtain ⟨es, cl, hm⟩ := h.map.block
  have hl := (Array.getElem?_eq_some_iff.1 hm).1
  exact ⟨by omega, fun i hi e => by have := (h.blk_lt hi).2 _ e; omega⟩
omit [Low] in
theorem TreeM.old_ne {w : World} {base tb mb N : Nat} {T : TreeD} {A : Int → NodeA} (h : TreeM w base tb mb N T A) {hb : Nat} (hl : hb < base) : hb ≠ mb ∧ ∀ i ∈ T.ids, (A i).kb ≠ some hb := by
  have h1 := h.low
  exact ⟨by omega, fun _ hi e => by have := (h1.2.2 _ hi).2 _ e; omega⟩
theorem TreeM.low0 {w : World} {base tb mb N : Nat} {T : TreeD} {A : Int → NodeA} (h : TreeM w base tb mb N T A) (hls : Low.low ≤ base) : TreeM w Low.low tb mb N T A :=
  ⟨h.top, h.map, h.node, h.blk, h.kid, h.mkb, h.kbd, ⟨Nat.le_trans hls h.low.1, Nat.le_trans hls h.low.2.1, fun i hi => ⟨Nat.le_trans hls (h.low.2.2 i hi).1, fun b hb => Nat.le_trans hls ((h.low.2.2 i hi).2 b hb)⟩⟩⟩
omit [Low] in
theorem cntR_take (k : Nat) (l : List (List OpD)) : cntR (l.take k) ≤ cntR l := by
  have h : cntR l = cntR (l.take k) + cntR (l.drop k) := by rw [← cntR_app, List.take_append_drop]
  omega
omit [Low] in
theorem heldV_none : heldV (fun _ => none) = fun _ => none := rfl
omit [Low] in
theorem LoadR.good {q : Int} {rows : List By} {K : Nat} {w : World} {e : Ending} {w' : World} (h : LoadR q rows K w e w') {U : TreeD} (h1 : loadsT q rows = some U) (h2 : SoundT U) :
    ∃ tb mb A, e = .returned (.tuple #[.pointer (some ⟨tb, 0, none⟩), .bool true]) ∧ TreeM w' w.heap.size tb mb K U A ∧ Ext w w' := by
  obtain ⟨h3, hx⟩ := h
  rcases h3 with ⟨h4, _⟩ | ⟨T, tb, mb, A, h4, _, _, he, hT⟩
  · exact absurd h2 (h4 U h1)
  · rw [h1] at h4
    obtain rfl := Option.some.inj h4
    exact ⟨tb, mb, A, he, hT, hx⟩
theorem open_base {X : Nat → Prop} {wc w6 : World} {vb db kb n N tb lb hb tb2 mb2 K base S0 : Nat} {q : Int} {img : Img} {L : LogD} {U : TreeD} {A2 : Int → NodeA} (hv : wc.heap[vb]? = some (.cells (volV tb lb hb q) 40 (0, 0))) (hl : LogM wc lb db kb n img L) (hm : MapF keyI wc 3 hb 1000 fun _ => none) (hgl : GoodLog n img L) (hx : Ext wc w6) (hT : TreeM w6 base tb2 mb2 K U A2) (hb0 : wc.heap.size ≤ base) (hK : K ≤ N) (hN : 1000 ≤ N) (hg : GoodT U) (hf : FitT U N) (hX : ∀ g, X g → g < S0) (hS : S0 ≤ hb) (_hS2 : S0 ≤ wc.heap.size) (hlv : Low.low ≤ vb) (hls : Low.low ≤ S0) :
    VolM X (w6.setCell ⟨vb, 0, none⟩ (.pointer (some ⟨tb2, 0, none⟩))) vb db kb n N ⟨U, L, img, q, fun _ => none⟩ ∧ KeepT [40] w6 (w6.setCell ⟨vb, 0, none⟩ (.pointer (some ⟨tb2, 0, none⟩))) := by
  have hk : KeepT [40] w6 (w6.setCell ⟨vb, 0, none⟩ (.pointer (some ⟨tb2, 0, none⟩))) := (KeepT.refl _ w6).set (hx.heap hv) (by simp) 0 _ hlv
  obtain ⟨es, cl, hmh⟩ := hm.block
  have hhl := (Array.getElem?_eq_some_iff.1 hmh).1
  have hm2 : MapF keyI w6 3 hb N (heldV fun _ => none) := (hm.ext hx).mono hN
  refine ⟨⟨tb2, lb, hb, mb2, A2, ?_, ((hT.low0 (by omega)).mono hK).keepT hk (by decide) (by decide) (by decide), LogC.keepT (LogC.ext hl hx) hk volT_off (by decide), hm2.keep hk (notTy_map (hx.heap hmh)), hT.old_ne (by omega), hg, hf, hgl, ⟨fun h => by have := hX _ h; omega, fun h => by have := hX _ h; have := hT.low.2.1; omega, fun g h => by have := hX _ h; have := hk.size; have := hx.size; omega⟩, hlv, by omega⟩, hk⟩
  exact setCell_row (hx.heap hv) (i := 0) (.pointer (some ⟨tb2, 0, none⟩))
section
variable {X : Nat → Prop} {w : World} {db kb n N : Nat} {q : Int} {img : Img} {L : LogD} {S : List By} {U : TreeD} {opss : List (List OpD)}
def OpenR (X : Nat → Prop) (w : World) (db kb n N : Nat) (V : VolD) (e : Ending) (w' : World) : Prop :=
  ∃ vb, e = .returned (.tuple #[.pointer (some ⟨vb, 0, none⟩), .int .i64 0]) ∧ VolM X w' vb db kb n N V ∧ KeepY X w w'
set_option maxRecDepth 100000 in
set_option maxHeartbeats 12800000 in
theorem vol_Open (hE : Env w) (hX : ∀ g, X g → g < w.heap.size) (hlw : Low.low ≤ w.heap.size) (hop : Calls Tryz.prog 17 #[.pointer (some ⟨db, 0, none⟩)] w fun e w' => ∃ lb, e = .returned (.tuple #[.pointer (some ⟨lb, 0, none⟩), .int .i64 0]) ∧ LogM w' lb db kb n img L ∧ KeepT logT w w')
    (hgl : GoodLog n img L) (hl : L.list = S.map snapB ++ opss.map doneB) (hb : BaseT q S U) (hg : GoodT U) (hf : FitT U N) (hc : ChainR U opss) (hN0 : 200000 ≤ N) (hN : N + 2 * cntR opss ≤ 1000000000) :
    Calls Tryz.prog 7 #[.pointer (some ⟨db, 0, none⟩), .int .i64 q] w (OpenR X w db kb n (N + 2 * cntR opss) ⟨finR U opss, L, img, q, fun _ => none⟩) := by
  obtain ⟨R, hR⟩ : ∃ R, R = OpenR X w db kb n (N + 2 * cntR opss) ⟨finR U opss, L, img, q, fun _ => none⟩ := ⟨_, rfl⟩
  rw [← hR]
  have HR := Lib.hid hR; clear hR
  have HE := Lib.hid hE; have HXL := Lib.hid hX; have HLWS := Lib.hid hlw; have HOP := Lib.hid hop; have HGL := Lib.hid hgl; have HBT := Lib.hid hb; have HG := Lib.hid hg; have HF := Lib.hid hf; have HC := Lib.hid hc; have HNN := Lib.hid hN; have HN0 := Lib.hid hN0
  have hlen : L.list.length ≤ 1000000 := by
    have h1 := secsN_len L.list
    have h2 := hgl.off
    have h3 := hgl.six
    have : halfN n ≤ 2047 := by unfold halfN; omega
    omega
  have hlong := hgl.long
  obtain ⟨D, hD⟩ : ∃ D, D = L.list := ⟨_, rfl⟩
  obtain ⟨m, hm⟩ : ∃ m, m = S.length := ⟨_, rfl⟩
  obtain ⟨n2, hn2⟩ : ∃ n2, n2 = D.length := ⟨_, rfl⟩
  have hn2l : n2 ≤ 100000 := by
    have h1 := secsN_len L.list
    have h2 := hgl.off
    have h3 := hgl.six
    have : halfN n ≤ 2047 := by unfold halfN; omega
    rw [hn2, hD]; omega
  rw [← hD] at hlong hl
  have hmn : m ≤ n2 := by rw [hm, hn2, hl]; simp
  have HLONG := Lib.hid hlong; have HLL := Lib.hid hl; have HLEN := Lib.hid hlen; have HD := Lib.hid hD; have HM := Lib.hid hm; have HN2 := Lib.hid hn2
  clear hE hX hlw hop hgl hl hb hg hf hc hN0 hN hlong hlen hD hm hn2
  have hmk := @run_makeMap Tryz.prog
  go_enter Tryz.func7, Tryz.ntmps7
  go_upto_region 5 with (first
    | (go_at_call 17; refine HOP.out.mono ?_; rintro E w1 ⟨lb, rfl, hLM, hkt⟩; have HLM := Lib.hid hLM; have HKT := Lib.hid hkt; clear hLM hkt)
    | (go_at_call 18; refine (tree_New q _).mono ?_; rintro E w2 ⟨tb, mb, A, rfl, hT2, hx2⟩; have HT2 := Lib.hid hT2; have HX2 := Lib.hid hx2; clear hT2 hx2))
  clear hmk
  have hne := HT2.out.fresh_ne
  have hx4 : Ext w2 ((w2.alloc (.map #[] 0)).alloc (.cells #[.pointer (some ⟨tb, 0, none⟩), .pointer (some ⟨lb, 0, none⟩), .int .i64 q, .map (some w2.heap.size), .bool false] 40)) := (Ext.alloc _ _).trans (Ext.alloc _ _)
  have hm4 := (MapF.made keyI w2 3).ext (Ext.alloc _ (.cells #[.pointer (some ⟨tb, 0, none⟩), .pointer (some ⟨lb, 0, none⟩), .int .i64 q, .map (some w2.heap.size), .bool false] 40))
  have hb4 := heap_alloc_new (w2.alloc (.map #[] 0)) (.cells #[.pointer (some ⟨tb, 0, none⟩), .pointer (some ⟨lb, 0, none⟩), .int .i64 q, .map (some w2.heap.size), .bool false] 40)
  have hs4 : (w2.alloc (.map #[] 0)).heap.size = w2.heap.size + 1 := by simp
  rw [hs4] at hb4
  generalize (w2.alloc (.map #[] 0)).alloc (.cells #[.pointer (some ⟨tb, 0, none⟩), .pointer (some ⟨lb, 0, none⟩), .int .i64 q, .map (some w2.heap.size), .bool false] 40) = wc at hx4 hm4 hb4 ⊢
  obtain ⟨vb, hvb⟩ : ∃ z, z = w2.heap.size + 1 := ⟨_, rfl⟩
  rw [← hvb] at hb4 ⊢
  obtain ⟨hb, hhb⟩ : ∃ z, z = w2.heap.size := ⟨_, rfl⟩
  rw [← hhb] at hb4 hm4 hne
  have hxv := HX2.out.trans hx4
  have hlw1 : Low.low ≤ w1.heap.size := Nat.le_trans HLWS.out HKT.out.size
  have hTc := ((HT2.out.low0 hlw1).ext hx4).mono (show 1 ≤ 1000 by omega)
  have HV0 : Hid (VolM X wc vb db kb n 1000 ⟨newT q, L, img, q, fun _ => none⟩) := Lib.hid ⟨tb, lb, hb, mb, A, hb4, hTc, LogC.ext HLM.out hxv, (heldV_none ▸ (hm4.mono (Nat.zero_le _)) : MapF keyI wc 3 hb 1000 (heldV fun _ => none)), hne, newT_good q, (newT_fit q).mono (by omega), HGL.out, ⟨fun hx => by have := HXL.out _ hx; have := HKT.out.size; have := HX2.out.size; omega, fun hx => by have := HXL.out _ hx; have := HKT.out.size; have := HT2.out.low.2.1; omega, fun g hg => by have := HXL.out _ hg; have := HKT.out.size; have := hxv.size; omega⟩, by have := HX2.out.size; omega, by have := HX2.out.size; omega⟩
  have HKY : Hid (KeepY X w wc) := Lib.hid ((KeepY.of_keepT HKT.out (fun t ht => logT_vol t ht)).trans (KeepY.of_ext hxv))
  have HLM2 := Lib.hid (LogC.ext HLM.out hxv)
  have HTC := Lib.hid hTc; have HB4 := Lib.hid hb4; have HHM := Lib.hid (hm4.mono (Nat.zero_le 1000)); have HNE := Lib.hid hne
  have HFRS : Hid (w.heap.size ≤ hb) := Lib.hid (by have := HKT.out.size; have := HX2.out.size; omega)
  have HLVB : Hid (Low.low ≤ vb) := Lib.hid (by have := HX2.out.size; omega)
  have HLWC : Hid (Low.low ≤ wc.heap.size) := Lib.hid (by have := hxv.size; omega)
  clear hlw1 hne hx4 hm4 hb4 hs4 hxv hTc hvb hhb HX2 HT2 HLM
  go_upto_region 6 with (go_at_call 19; refine (log_List HLM2.out HLEN.out (by rw [← HD.out]; exact HLONG.out)).mono ?_; rintro E w3 ⟨ra, rc, rfl, hRM, hx3⟩; have HRM := Lib.hid hRM; have HX3 := Lib.hid hx3; clear hRM hx3)
  rw [← HD.out, ← HN2.out]
  rw [← HD.out] at HRM
  go_wp2_with fail
  go_loopw [10] (fun i wr => ∃ k : Nat, i = .int .i64 k ∧ k ≤ m ∧ Hid (Ext w3 wr)) (fun i _ => m - (intOf i).toNat)
  case atStart => exact ⟨0, rfl, Nat.zero_le _, Lib.hid (Ext.refl _)⟩
  case round =>
    obtain ⟨k, rfl, hk, HX⟩ := hrel
    by_cases hkn : k = n2
    · subst hkn
      have hd0 : decide ((k : Int) < (k : Int)) = false := decide_eq_false (by omega)
      have HKM : Hid (k = m) := Lib.hid (by omega)
      go_upto_region 9 with fail
      obtain ⟨w4, rfl⟩ : ∃ x : World, x = wr := ⟨_, rfl⟩
      have HX4 := HX
      clear HX
      obtain rfl := HKM.out
      have hbk : D.length ≤ rc := HRM.out.cells.1
      have hnk : k ≤ D.length := by have := HN2.out; omega
      by_cases hk0 : k = 0
      · have hd0' : decide ((0 : Int) < (k : Int)) = false := decide_eq_false (by omega)
        have hd0n : decide (0 < k) = false := decide_eq_false (by omega)
        have hS : S = [] := List.eq_nil_of_length_eq_zero (by have := HM.out; omega)
        have hU : U = newT q := by
          rcases HBT.out with h | h
          · exact h.2
          · exact absurd hS h.1
        have hxn := HX3.out.trans HX4.out
        have HVN : Hid (VolM X w4 vb db kb n N ⟨U, L, img, q, fun _ => none⟩) := Lib.hid (by rw [hU]; exact (HV0.out.ext hxn).mono (by have := HN0.out; omega))
        have HKN : Hid (KeepY X w w4) := Lib.hid (HKY.out.trans (KeepY.of_ext hxn))
        have HROW : Hid (RowsM w4 wc.heap.size ra rc (S ++ opss.map doneB)) := Lib.hid (by
          have h := HRM.out.ext HX4.out
          rw [HLL.out] at h
          rw [hS] at h ⊢
          exact h)
        obtain ⟨w5, rfl⟩ : ∃ x : World, x = w4 := ⟨_, rfl⟩
        have HKS := Lib.hid hk0
        clear hk0 hS hU hxn HX3 HX4 HRM HV0 HKY HTC HB4 HHM HLM2
        go_upto_region 19 with fail
        have hop : opss = [] := by
          have h1 := HN2.out
          rw [HLL.out, List.length_append, List.length_map, List.length_map] at h1
          have h2 := HM.out
          exact List.eq_nil_of_length_eq_zero (by omega)
        have hkk : k ≤ rc := by have := HN2.out; omega
        have HOPN := Lib.hid hop; clear hop
        by_cases hrk : rc = k
        all_goals (
          go_wp2_with fail
          go_loopw [90] (fun i wr => i = .int .i64 0 ∧ Hid (wr = w5)) (fun _ _ => 0)
          case atStart => exact ⟨rfl, Lib.hid rfl⟩
          case round =>
            obtain ⟨rfl, HW⟩ := hrel
            obtain rfl := HW.out
            go_wp2_with fail
            rw [HR.out]
            have hv := HVN.out
            have e := HOPN.out
            subst e
            exact ⟨vb, rfl, hv, HKN.out⟩)
      · have hd0' : decide ((0 : Int) < (k : Int)) = true := decide_eq_true (by omega)
        have hd0n : decide (0 < k) = true := decide_eq_true (by omega)
        have hSne : S ≠ [] := fun e => by have := HM.out; rw [e] at this; exact hk0 this
        have HSNE := Lib.hid hSne; clear hSne
        obtain ⟨hLU, hSU⟩ : loadsT q S = some U ∧ SoundT U := by
          rcases HBT.out with h | h
          · exact absurd h.1 HSNE.out
          · exact h.2
        have HLU := Lib.hid hLU; have HSU := Lib.hid hSU; clear hLU hSU
        have HXA : Hid (Ext wc w4) := Lib.hid (HX3.out.trans HX4.out)
        have HRA : Hid (RowsM w4 wc.heap.size ra rc ((D.take 0).map List.tail ++ D.drop 0)) := Lib.hid (HRM.out.ext HX4.out)
        clear HX3 HX4 HRM
        go_upto_region 11 with fail
        go_loopw [60] (fun i wr => ∃ j : Nat, i = .int .i64 j ∧ j ≤ k ∧ Hid (RowsM wr wc.heap.size ra rc ((D.take j).map List.tail ++ D.drop j)) ∧ Hid (Ext wc wr)) (fun i _ => k - (intOf i).toNat)
        case atStart => exact ⟨0, rfl, Nat.zero_le _, HRA, HXA⟩
        case round =>
          clear HRA HXA
          obtain ⟨j, rfl, hj, HRA, HXA⟩ := hrel
          by_cases hjk : j < k
          · have hdj : decide ((j : Int) < (k : Int)) = true := decide_eq_true (by omega)
            have hdjn : decide (j < k) = true := decide_eq_true hjk
            have hjD : j < D.length := by omega
            have hstep := map_tail_step hjD (A := (D.take j).map List.tail ++ D.drop j) rfl
            have hlen2 : ((D.take j).map List.tail ++ D.drop j).length = D.length := by simp; omega
            obtain ⟨_, hcl⟩ := HRA.out.cells
            rcases hcl with hcl | ⟨g, hga, hgb, hgs, hcl⟩
            · rw [hcl] at hlen2; simp at hlen2; omega
            cases hga
            obtain ⟨p, cc, c1, hdm, hlc⟩ := hcl j (by omega)
            have he : ((D.take j).map List.tail ++ D.drop j).getD j [] = D.getD j [] := by
              have h1 : ((D.take j).map List.tail).length = j := by simp; omega
              rw [List.getD_eq_getElem?_getD, List.getElem?_append_right (by omega), h1, Nat.sub_self, List.getElem?_drop, Nat.add_zero, List.getD_eq_getElem?_getD]
            have he2 : D.getD j [] = snapB (S.getD j []) := by
              rw [HLL.out]
              have h1 : j < S.length := by have := HM.out; omega
              simp [List.getD_eq_getElem?_getD, List.getElem?_append_left, h1]
            rw [he, he2] at c1 hdm hlc
            rw [he2] at hstep
            have hcut := data_cut (tk := 1) hdm (by unfold snapB; simp) hlc
            rw [show (snapB (S.getD j [])).drop 1 = S.getD j [] from rfl] at hcut
            obtain ⟨g2, o2, cs2, fr2, rfl, hg2, hc2⟩ := hdm.resolve_left (by unfold snapB; simp)
            have hln : (snapB (S.getD j [])).length = (S.getD j []).length + 1 := rfl
            rw [hln] at c1 hlc
            have HST := Lib.hid hstep; clear hstep hc2 hg2 hcl he he2 hln
            have hjn : (j : Int) < (D.length : Int) := by omega
            have hset := fun p' cc' (h1 : DataM wr p' (S.getD j [])) (h2 : (S.getD j []).length ≤ cc') => HRA.out.set (i := j) (by omega) h1 h2 HLWC.out
            have hsl : (snapB (S.getD j [])).tail = S.getD j [] := rfl
            rw [hsl] at HST
            have HSET := Lib.hid hset; clear hset hsl
            obtain ⟨ln, hlnx⟩ : ∃ z, z = (S.getD j []).length := ⟨_, rfl⟩
            rw [← hlnx] at c1 hlc HSET
            have HLNX := Lib.hid hlnx; clear hlnx
            by_cases hcc : cc = 1
            · rw [if_pos hcc] at hcut
              subst hcc
              obtain rfl : ln = 0 := by omega
              have hrs := HSET.out (some ⟨g2, o2, none⟩) 0 hcut (by omega)
              obtain ⟨g', hge, hgb', hgs', hfz, hrow, hkt⟩ := hrs
              cases hge
              have hx' := ext_ne HXA.out hgb' ((Keep.refl (· ≠ g) wr).setCell (fun _ h => h) j (.slice (some ⟨g2, o2, none⟩) 0 0))
              rw [HST.out] at hrow
              have HRN := Lib.hid hrow; have HXN := Lib.hid hx'
              clear hrow hx' hkt HSET HST hcut HRA HXA
              go_wp2_with fail
              go_roundw
              case rel => exact ⟨j + 1, by go_num, by omega, HRN, HXN⟩
              case measure => simp [intOf]; omega
            · rw [if_neg hcc, Option.map_some, addr_plus] at hcut
              have hrs := HSET.out (some ⟨g2, o2 + 1, none⟩) (cc - 1) hcut (by omega)
              obtain ⟨g', hge, hgb', hgs', hfz, hrow, hkt⟩ := hrs
              cases hge
              have hx' := ext_ne HXA.out hgb' ((Keep.refl (· ≠ g) wr).setCell (fun _ h => h) j (.slice (some ⟨g2, o2 + 1, none⟩) ln (cc - 1)))
              rw [HST.out] at hrow
              have HRN := Lib.hid hrow; have HXN := Lib.hid hx'
              clear hrow hx' hkt HSET HST hcut HRA HXA
              go_wp2_with fail
              go_roundw
              case rel => exact ⟨j + 1, by go_num, by omega, HRN, HXN⟩
              case measure => simp [intOf]; omega
          · have hjk2 : j = k := by omega
            subst hjk2
            have hD2 : (D.take j).map List.tail ++ D.drop j = S ++ opss.map doneB := by
              have h1 : j = (S.map snapB).length := by rw [List.length_map]; exact HM.out
              have h2 : (S.map snapB).map List.tail = S := by simp [Function.comp_def, snapB]
              rw [HLL.out, h1, List.take_left' rfl, List.drop_left' rfl, h2]
            rw [hD2] at HRA
            have hP : Parts wr ra S := by
              have h1 := HRA.out.parts S.length
              rw [List.take_left'] at h1
              · exact h1
              · rfl
            have hsl : ∀ l ∈ S, l.length ≤ 100000 := fun l hl => by
              have h1 : snapB l ∈ D := by rw [HLL.out]; exact List.mem_append_left _ (List.mem_map_of_mem hl)
              have h2 := HLONG.out _ h1
              unfold snapB at h2
              rw [List.length_cons] at h2
              omega
            have hld := tree_Load q ra rc S wr hP hsl (by have := HM.out; omega)
            have hKS : 100000 + S.length ≤ N := by have := HN0.out; have := HM.out; omega
            rw [← HM.out] at hld hKS
            have HLD := Lib.hid hld
            have hB4r := HXA.out.heap HB4.out
            have hjr : j ≤ rc := by omega
            have hjn : j ≤ j := by have := HN2.out; omega
            clear hD2 hP hsl hld
            go_upto_region 18 with (go_at_call 20; refine HLD.out.mono ?_; rintro E w6 hlr; obtain ⟨tb2, mb2, A2, rfl, hT2, hx6⟩ := hlr.good HLU.out HSU.out; have HT2 := Lib.hid hT2; have HX6 := Lib.hid hx6; clear hlr hT2 hx6)
            have hb6 := HX6.out.heap hB4r
            have c0 := blk_cell hb6 0 (.pointer (some ⟨tb, 0, none⟩)) rfl
            have f0 := blk_free hb6 0
            clear hB4r hb6
            go_upto_region 19 with fail
            have hvn := open_base HB4.out HLM2.out HHM.out HGL.out (HXA.out.trans HX6.out) HT2.out HXA.out.size hKS (by have := HN0.out; omega) HG.out HF.out HXL.out HFRS.out (by have := HKY.out.size; exact this) HLVB.out HLWS.out
            have hkn : KeepY X w (w6.setCell ⟨vb, 0, none⟩ (.pointer (some ⟨tb2, 0, none⟩))) := (HKY.out.trans (KeepY.of_ext (HXA.out.trans HX6.out))).trans (KeepY.of_keepT hvn.2 (by decide))
            have hro := (HRA.out.ext HX6.out).keepT hvn.2 (by decide) (by decide)
            generalize w6.setCell ⟨vb, 0, none⟩ (.pointer (some ⟨tb2, 0, none⟩)) = w5 at hvn hkn hro ⊢
            have HVN := Lib.hid hvn.1; have HKN := Lib.hid hkn; have HROW := Lib.hid hro
            obtain ⟨k, rfl⟩ : ∃ k, k = j := ⟨_, rfl⟩
            clear hvn hkn hro c0 f0 HT2 HX6 HXA HRA HLD HV0 HKY HTC HB4 HHM HLM2 hjr hjn
            have hop : opss = [] := by
              have h1 := HN2.out
              rw [HLL.out, List.length_append, List.length_map, List.length_map] at h1
              have h2 := HM.out
              exact List.eq_nil_of_length_eq_zero (by omega)
            have hkk : k ≤ rc := by have := HN2.out; omega
            have HOPN := Lib.hid hop; clear hop
            by_cases hrk : rc = k
            all_goals (
              go_wp2_with fail
              go_loopw [90] (fun i wr => i = .int .i64 0 ∧ Hid (wr = w5)) (fun _ _ => 0)
              case atStart => exact ⟨rfl, Lib.hid rfl⟩
              case round =>
                obtain ⟨rfl, HW⟩ := hrel
                obtain rfl := HW.out
                go_wp2_with fail
                rw [HR.out]
                have hv := HVN.out
                have e := HOPN.out
                subst e
                exact ⟨vb, rfl, hv, HKN.out⟩)
    · have hkD : k < D.length := by have := HN2.out; omega
      obtain ⟨hrcl, hcells⟩ := HRM.out.cells
      rcases hcells with hcells | ⟨g, rfl, hgb, hgs, hcells⟩
      · rw [hcells] at hkD; cases hkD
      obtain ⟨p, cc, c1, hdm, hlc⟩ := hcells k hkD
      have c1 := HX.out.cell c1
      have hi1 : (k : Int) < (n2 : Int) := by omega
      have hd0 : decide ((k : Int) < (n2 : Int)) = true := decide_eq_true hi1
      by_cases hkm : k < m
      · have he : D.getD k [] = snapB (S.getD k []) := by
          rw [HLL.out]
          have h1 : k < S.length := by have := HM.out; omega
          simp [List.getD_eq_getElem?_getD, List.getElem?_append_left, h1]
        rw [he] at c1 hdm
        obtain ⟨g2, o2, cs2, fr2, rfl, hg2, hc2⟩ := hdm.resolve_left (by unfold snapB; simp)
        have c2 := HX.out.cell (hc2 0 (.int .u8 1) rfl)
        rw [Nat.add_zero] at c2
        have hln : (snapB (S.getD k [])).length = (S.getD k []).length + 1 := rfl
        rw [hln] at c1
        generalize (S.getD k []).length = ln at c1
        have hd1 : decide ((0 : Int) < ((ln + 1 : Nat) : Int)) = true := decide_eq_true (by omega)
        have hd2 : (0 : Int) < ((ln + 1 : Nat) : Int) := by omega
        have hd3 : decide (0 < ln + 1) = true := decide_eq_true (by omega)
        have hd4 : decide ((0 : Int) < (ln : Int) + 1) = true := decide_eq_true (by omega)
        have hd5 : (0 : Int) < (ln : Int) + 1 := by omega
        clear hcells hc2 he hdm
        go_wp2_with fail
        have HX4 := HX
        clear HX c1 c2
        go_roundw
        case rel => exact ⟨k + 1, by go_num, by omega, HX4⟩
        case measure => simp [intOf]; omega
      · have HKM : Hid (k = m) := Lib.hid (by omega)
        have he : ∃ x, D.getD k [] = 2 :: x := by
          rw [HLL.out]
          have h1 : k = (S.map snapB).length := by have := HM.out; have := HKM.out; rw [List.length_map]; omega
          have h2 : k < (S.map snapB ++ opss.map doneB).length := by rw [← HLL.out]; exact hkD
          rw [List.length_append] at h2
          rw [List.getD_eq_getElem?_getD, List.getElem?_append_right (by omega)]
          have h3 : k - (S.map snapB).length = 0 := by omega
          rw [h3]
          cases hop : opss with
          | nil => rw [hop] at h2; simp at h2; simp at h1; omega
          | cons x r => exact ⟨packOps x, rfl⟩
        obtain ⟨x, he⟩ := he
        rw [he] at c1 hdm
        obtain ⟨g2, o2, cs2, fr2, rfl, hg2, hc2⟩ := hdm.resolve_left (by simp)
        have c2 := HX.out.cell (hc2 0 (.int .u8 2) rfl)
        rw [Nat.add_zero] at c2
        rw [List.length_cons] at c1
        generalize x.length = ln at c1
        have hd1 : decide ((0 : Int) < ((ln + 1 : Nat) : Int)) = true := decide_eq_true (by omega)
        have hd2 : (0 : Int) < ((ln + 1 : Nat) : Int) := by omega
        have hd3 : decide (0 < ln + 1) = true := decide_eq_true (by omega)
        have hd4 : decide ((0 : Int) < (ln : Int) + 1) = true := decide_eq_true (by omega)
        have hd5 : (0 : Int) < (ln : Int) + 1 := by omega
        clear hcells hc2 he hdm hkm
        go_upto_region 9 with fail
        obtain ⟨w4, rfl⟩ : ∃ x : World, x = wr := ⟨_, rfl⟩
        have HX4 := HX
        clear HX c1 c2
        obtain rfl := HKM.out
        have hbk : D.length ≤ rc := HRM.out.cells.1
        have hnk : k ≤ D.length := by have := HN2.out; omega
        by_cases hk0 : k = 0
        · have hd0' : decide ((0 : Int) < (k : Int)) = false := decide_eq_false (by omega)
          have hd0n : decide (0 < k) = false := decide_eq_false (by omega)
          have hS : S = [] := List.eq_nil_of_length_eq_zero (by have := HM.out; omega)
          have hU : U = newT q := by
            rcases HBT.out with h | h
            · exact h.2
            · exact absurd hS h.1
          have hxn := HX3.out.trans HX4.out
          have HVN : Hid (VolM X w4 vb db kb n N ⟨U, L, img, q, fun _ => none⟩) := Lib.hid (by rw [hU]; exact (HV0.out.ext hxn).mono (by have := HN0.out; omega))
          have HKN : Hid (KeepY X w w4) := Lib.hid (HKY.out.trans (KeepY.of_ext hxn))
          have HROW : Hid (RowsM w4 wc.heap.size (some ⟨g, 0, none⟩) rc (S ++ opss.map doneB)) := Lib.hid (by
            have h := HRM.out.ext HX4.out
            rw [HLL.out] at h
            rw [hS] at h ⊢
            exact h)
          obtain ⟨w5, rfl⟩ : ∃ x : World, x = w4 := ⟨_, rfl⟩
          have HKS := Lib.hid hk0
          clear hk0 hS hU hxn HX3 HX4 HRM HV0 HKY HTC HB4 HHM HLM2
          go_upto_region 19 with fail
          have hlo : opss.length = n2 - k := by
            have h1 := HN2.out
            rw [HLL.out, List.length_append, List.length_map, List.length_map] at h1
            have h2 := HM.out
            omega
          have hD2l : (S ++ opss.map doneB).length = n2 := by
            rw [List.length_append, List.length_map]
            have h2 := HM.out
            omega
          have hrck : ¬ rc = k := by have := HN2.out; omega
          have hkrc : k ≤ rc := by have := HN2.out; omega
          have HLO := Lib.hid hlo; have HD2L := Lib.hid hD2l; clear hlo hD2l
          go_wp2_with fail
          go_loopw [90] (fun i wr => ∃ j : Nat, i = .int .i64 j ∧ j ≤ n2 - k ∧ Hid (VolM X wr vb db kb n (N + 2 * cntR (opss.take j)) ⟨finR U (opss.take j), L, img, q, fun _ => none⟩) ∧ Hid (RowsM wr wc.heap.size (some ⟨g, 0, none⟩) rc (S ++ opss.map doneB)) ∧ Hid (KeepY X w wr)) (fun i _ => (n2 - k) - (intOf i).toNat)
          case atStart => exact ⟨0, rfl, Nat.zero_le _, HVN, HROW, HKN⟩
          case round =>
            clear HVN HROW HKN
            obtain ⟨j, rfl, hj, HVN, HROW, HKN⟩ := hrel
            by_cases hjn : j < n2 - k
            · have hjo : j < opss.length := by have := HLO.out; omega
              obtain ⟨_, hcl⟩ := HROW.out.cells
              rcases hcl with hcl | ⟨g', hga, hgb', hgs', hcl⟩
              · have := HD2L.out; rw [hcl] at this; simp at this; omega
              cases hga
              obtain ⟨p, cc, c1, hdm, hlc⟩ := hcl (k + j) (by have := HD2L.out; omega)
              have he : (S ++ opss.map doneB).getD (k + j) [] = doneB (opss.getD j []) := by
                have h1 : k = S.length := HM.out
                rw [List.getD_eq_getElem?_getD, List.getElem?_append_right (by omega)]
                have h3 : k + j - S.length = j := by omega
                rw [h3]; simp [List.getD_eq_getElem?_getD, List.getElem?_eq_getElem hjo]
              rw [he] at c1 hdm hlc
              obtain ⟨hfo, hok, hpk, hgd⟩ := HC.out j hjo
              have htk := takeR hjo
              have hct := cntR_take (j + 1) opss
              rw [htk, cntR_app] at hct
              have hc1 : cntR [opss.getD j []] = (opss.getD j []).length := by simp [cntR]
              rw [hc1] at hct
              have hag := vol_again (HE.out.keepY HKN.out) HVN.out hdm hlc hfo hok hpk (by have := HNN.out; omega) hgd
              obtain ⟨bl, hbl⟩ : ∃ z, z = (doneB (opss.getD j [])).length := ⟨_, rfl⟩
              rw [← hbl] at c1 hag
              have HAG := Lib.hid hag; have HTK := Lib.hid htk; have HC1 := Lib.hid hc1
              clear hcl he hdm hlc hfo hok hpk hgd htk hct hc1 hag hbl
              have hj1 : (j : Int) < ((n2 - k : Nat) : Int) := by omega
              go_wp2_with (go_at_call 21; refine HAG.out.mono ?_; rintro E w8 ⟨rfl, hv8, hk8⟩; have HV8 := Lib.hid hv8; have HK8 := Lib.hid hk8; clear hv8 hk8)
              have hvn := HV8.out
              rw [show N + 2 * cntR (opss.take j) + 2 * (opss.getD j []).length = N + 2 * cntR (opss.take (j + 1)) by rw [HTK.out, cntR_app, HC1.out]; omega] at hvn
              have e : againT (finR U (opss.take j)) (opss.getD j []) = finR U (opss.take (j + 1)) := by rw [HTK.out, finR_snoc]
              have HVM : Hid (VolM X w8 vb db kb n (N + 2 * cntR (opss.take (j + 1))) ⟨finR U (opss.take (j + 1)), L, img, q, fun _ => none⟩) := Lib.hid (by rw [← e]; exact hvn)
              have HRW8 := Lib.hid (HROW.out.keepC HK8.out (by decide) (by decide))
              have HKY8 : Hid (KeepY X w w8) := Lib.hid (HKN.out.trans (HK8.out.mono (by decide) (fun _ h => h)))
              clear hvn e
              go_roundw
              case rel => exact ⟨j + 1, by go_num, by omega, HVM, HRW8, HKY8⟩
              case measure => simp [intOf]; omega
            · have hje : opss.take j = opss := List.take_of_length_le (by have := HLO.out; omega)
              have hv := HVN.out
              rw [hje] at hv
              have HV := Lib.hid hv; clear hv hje
              have hj1 : ¬ (j : Int) < ((n2 - k : Nat) : Int) := by omega
              go_wp2_with fail
              rw [HR.out]
              exact ⟨vb, rfl, HV.out, HKN.out⟩
        · have hd0' : decide ((0 : Int) < (k : Int)) = true := decide_eq_true (by omega)
          have hd0n : decide (0 < k) = true := decide_eq_true (by omega)
          have hSne : S ≠ [] := fun e => by have := HM.out; rw [e] at this; exact hk0 this
          have HSNE := Lib.hid hSne; clear hSne
          obtain ⟨hLU, hSU⟩ : loadsT q S = some U ∧ SoundT U := by
            rcases HBT.out with h | h
            · exact absurd h.1 HSNE.out
            · exact h.2
          have HLU := Lib.hid hLU; have HSU := Lib.hid hSU; clear hLU hSU
          have HXA : Hid (Ext wc w4) := Lib.hid (HX3.out.trans HX4.out)
          have HRA : Hid (RowsM w4 wc.heap.size (some ⟨g, 0, none⟩) rc ((D.take 0).map List.tail ++ D.drop 0)) := Lib.hid (HRM.out.ext HX4.out)
          clear HX3 HX4 HRM
          go_upto_region 11 with fail
          go_loopw [60] (fun i wr => ∃ j : Nat, i = .int .i64 j ∧ j ≤ k ∧ Hid (RowsM wr wc.heap.size (some ⟨g, 0, none⟩) rc ((D.take j).map List.tail ++ D.drop j)) ∧ Hid (Ext wc wr)) (fun i _ => k - (intOf i).toNat)
          case atStart => exact ⟨0, rfl, Nat.zero_le _, HRA, HXA⟩
          case round =>
            clear HRA HXA
            obtain ⟨j, rfl, hj, HRA, HXA⟩ := hrel
            by_cases hjk : j < k
            · have hdj : decide ((j : Int) < (k : Int)) = true := decide_eq_true (by omega)
              have hdjn : decide (j < k) = true := decide_eq_true hjk
              have hjD : j < D.length := by omega
              have hstep := map_tail_step hjD (A := (D.take j).map List.tail ++ D.drop j) rfl
              have hlen2 : ((D.take j).map List.tail ++ D.drop j).length = D.length := by simp; omega
              obtain ⟨_, hcl⟩ := HRA.out.cells
              rcases hcl with hcl | ⟨g, hga, hgb, hgs, hcl⟩
              · rw [hcl] at hlen2; simp at hlen2; omega
              cases hga
              obtain ⟨p, cc, c1, hdm, hlc⟩ := hcl j (by omega)
              have he : ((D.take j).map List.tail ++ D.drop j).getD j [] = D.getD j [] := by
                have h1 : ((D.take j).map List.tail).length = j := by simp; omega
                rw [List.getD_eq_getElem?_getD, List.getElem?_append_right (by omega), h1, Nat.sub_self, List.getElem?_drop, Nat.add_zero, List.getD_eq_getElem?_getD]
              have he2 : D.getD j [] = snapB (S.getD j []) := by
                rw [HLL.out]
                have h1 : j < S.length := by have := HM.out; omega
                simp [List.getD_eq_getElem?_getD, List.getElem?_append_left, h1]
              rw [he, he2] at c1 hdm hlc
              rw [he2] at hstep
              have hcut := data_cut (tk := 1) hdm (by unfold snapB; simp) hlc
              rw [show (snapB (S.getD j [])).drop 1 = S.getD j [] from rfl] at hcut
              obtain ⟨g2, o2, cs2, fr2, rfl, hg2, hc2⟩ := hdm.resolve_left (by unfold snapB; simp)
              have hln : (snapB (S.getD j [])).length = (S.getD j []).length + 1 := rfl
              rw [hln] at c1 hlc
              have HST := Lib.hid hstep; clear hstep hc2 hg2 hcl he he2 hln
              have hjn : (j : Int) < (D.length : Int) := by omega
              have hset := fun p' cc' (h1 : DataM wr p' (S.getD j [])) (h2 : (S.getD j []).length ≤ cc') => HRA.out.set (i := j) (by omega) h1 h2 HLWC.out
              have hsl : (snapB (S.getD j [])).tail = S.getD j [] := rfl
              rw [hsl] at HST
              have HSET := Lib.hid hset; clear hset hsl
              obtain ⟨ln, hlnx⟩ : ∃ z, z = (S.getD j []).length := ⟨_, rfl⟩
              rw [← hlnx] at c1 hlc HSET
              have HLNX := Lib.hid hlnx; clear hlnx
              by_cases hcc : cc = 1
              · rw [if_pos hcc] at hcut
                subst hcc
                obtain rfl : ln = 0 := by omega
                have hrs := HSET.out (some ⟨g2, o2, none⟩) 0 hcut (by omega)
                obtain ⟨g', hge, hgb', hgs', hfz, hrow, hkt⟩ := hrs
                cases hge
                have hx' := ext_ne HXA.out hgb' ((Keep.refl (· ≠ g) wr).setCell (fun _ h => h) j (.slice (some ⟨g2, o2, none⟩) 0 0))
                rw [HST.out] at hrow
                have HRN := Lib.hid hrow; have HXN := Lib.hid hx'
                clear hrow hx' hkt HSET HST hcut HRA HXA
                go_wp2_with fail
                go_roundw
                case rel => exact ⟨j + 1, by go_num, by omega, HRN, HXN⟩
                case measure => simp [intOf]; omega
              · rw [if_neg hcc, Option.map_some, addr_plus] at hcut
                have hrs := HSET.out (some ⟨g2, o2 + 1, none⟩) (cc - 1) hcut (by omega)
                obtain ⟨g', hge, hgb', hgs', hfz, hrow, hkt⟩ := hrs
                cases hge
                have hx' := ext_ne HXA.out hgb' ((Keep.refl (· ≠ g) wr).setCell (fun _ h => h) j (.slice (some ⟨g2, o2 + 1, none⟩) ln (cc - 1)))
                rw [HST.out] at hrow
                have HRN := Lib.hid hrow; have HXN := Lib.hid hx'
                clear hrow hx' hkt HSET HST hcut HRA HXA
                go_wp2_with fail
                go_roundw
                case rel => exact ⟨j + 1, by go_num, by omega, HRN, HXN⟩
                case measure => simp [intOf]; omega
            · have hjk2 : j = k := by omega
              subst hjk2
              have hD2 : (D.take j).map List.tail ++ D.drop j = S ++ opss.map doneB := by
                have h1 : j = (S.map snapB).length := by rw [List.length_map]; exact HM.out
                have h2 : (S.map snapB).map List.tail = S := by simp [Function.comp_def, snapB]
                rw [HLL.out, h1, List.take_left' rfl, List.drop_left' rfl, h2]
              rw [hD2] at HRA
              have hP : Parts wr (some ⟨g, 0, none⟩) S := by
                have h1 := HRA.out.parts S.length
                rw [List.take_left'] at h1
                · exact h1
                · rfl
              have hsl : ∀ l ∈ S, l.length ≤ 100000 := fun l hl => by
                have h1 : snapB l ∈ D := by rw [HLL.out]; exact List.mem_append_left _ (List.mem_map_of_mem hl)
                have h2 := HLONG.out _ h1
                unfold snapB at h2
                rw [List.length_cons] at h2
                omega
              have hld := tree_Load q (some ⟨g, 0, none⟩) rc S wr hP hsl (by have := HM.out; omega)
              have hKS : 100000 + S.length ≤ N := by have := HN0.out; have := HM.out; omega
              rw [← HM.out] at hld hKS
              have HLD := Lib.hid hld
              have hB4r := HXA.out.heap HB4.out
              have hjr : j ≤ rc := by omega
              have hjn : j ≤ n2 := by have := HN2.out; omega
              clear hD2 hP hsl hld
              go_upto_region 18 with (go_at_call 20; refine HLD.out.mono ?_; rintro E w6 hlr; obtain ⟨tb2, mb2, A2, rfl, hT2, hx6⟩ := hlr.good HLU.out HSU.out; have HT2 := Lib.hid hT2; have HX6 := Lib.hid hx6; clear hlr hT2 hx6)
              have hb6 := HX6.out.heap hB4r
              have c0 := blk_cell hb6 0 (.pointer (some ⟨tb, 0, none⟩)) rfl
              have f0 := blk_free hb6 0
              clear hB4r hb6
              go_upto_region 19 with fail
              have hvn := open_base HB4.out HLM2.out HHM.out HGL.out (HXA.out.trans HX6.out) HT2.out HXA.out.size hKS (by have := HN0.out; omega) HG.out HF.out HXL.out HFRS.out (by have := HKY.out.size; exact this) HLVB.out HLWS.out
              have hkn : KeepY X w (w6.setCell ⟨vb, 0, none⟩ (.pointer (some ⟨tb2, 0, none⟩))) := (HKY.out.trans (KeepY.of_ext (HXA.out.trans HX6.out))).trans (KeepY.of_keepT hvn.2 (by decide))
              have hro := (HRA.out.ext HX6.out).keepT hvn.2 (by decide) (by decide)
              generalize w6.setCell ⟨vb, 0, none⟩ (.pointer (some ⟨tb2, 0, none⟩)) = w5 at hvn hkn hro ⊢
              have HVN := Lib.hid hvn.1; have HKN := Lib.hid hkn; have HROW := Lib.hid hro
              obtain ⟨k, rfl⟩ : ∃ k, k = j := ⟨_, rfl⟩
              clear hvn hkn hro c0 f0 HT2 HX6 HXA HRA HLD HV0 HKY HTC HB4 HHM HLM2 hjr hjn
              have hlo : opss.length = n2 - k := by
                have h1 := HN2.out
                rw [HLL.out, List.length_append, List.length_map, List.length_map] at h1
                have h2 := HM.out
                omega
              have hD2l : (S ++ opss.map doneB).length = n2 := by
                rw [List.length_append, List.length_map]
                have h2 := HM.out
                omega
              have hrck : ¬ rc = k := by have := HN2.out; omega
              have hkrc : k ≤ rc := by have := HN2.out; omega
              have HLO := Lib.hid hlo; have HD2L := Lib.hid hD2l; clear hlo hD2l
              go_wp2_with fail
              go_loopw [90] (fun i wr => ∃ j : Nat, i = .int .i64 j ∧ j ≤ n2 - k ∧ Hid (VolM X wr vb db kb n (N + 2 * cntR (opss.take j)) ⟨finR U (opss.take j), L, img, q, fun _ => none⟩) ∧ Hid (RowsM wr wc.heap.size (some ⟨g, 0, none⟩) rc (S ++ opss.map doneB)) ∧ Hid (KeepY X w wr)) (fun i _ => (n2 - k) - (intOf i).toNat)
              case atStart => exact ⟨0, rfl, Nat.zero_le _, HVN, HROW, HKN⟩
              case round =>
                clear HVN HROW HKN
                obtain ⟨j, rfl, hj, HVN, HROW, HKN⟩ := hrel
                by_cases hjn : j < n2 - k
                · have hjo : j < opss.length := by have := HLO.out; omega
                  obtain ⟨_, hcl⟩ := HROW.out.cells
                  rcases hcl with hcl | ⟨g', hga, hgb', hgs', hcl⟩
                  · have := HD2L.out; rw [hcl] at this; simp at this; omega
                  cases hga
                  obtain ⟨p, cc, c1, hdm, hlc⟩ := hcl (k + j) (by have := HD2L.out; omega)
                  have he : (S ++ opss.map doneB).getD (k + j) [] = doneB (opss.getD j []) := by
                    have h1 : k = S.length := HM.out
                    rw [List.getD_eq_getElem?_getD, List.getElem?_append_right (by omega)]
                    have h3 : k + j - S.length = j := by omega
                    rw [h3]; simp [List.getD_eq_getElem?_getD, List.getElem?_eq_getElem hjo]
                  rw [he] at c1 hdm hlc
                  obtain ⟨hfo, hok, hpk, hgd⟩ := HC.out j hjo
                  have htk := takeR hjo
                  have hct := cntR_take (j + 1) opss
                  rw [htk, cntR_app] at hct
                  have hc1 : cntR [opss.getD j []] = (opss.getD j []).length := by simp [cntR]
                  rw [hc1] at hct
                  have hag := vol_again (HE.out.keepY HKN.out) HVN.out hdm hlc hfo hok hpk (by have := HNN.out; omega) hgd
                  obtain ⟨bl, hbl⟩ : ∃ z, z = (doneB (opss.getD j [])).length := ⟨_, rfl⟩
                  rw [← hbl] at c1 hag
                  have HAG := Lib.hid hag; have HTK := Lib.hid htk; have HC1 := Lib.hid hc1
                  clear hcl he hdm hlc hfo hok hpk hgd htk hct hc1 hag hbl
                  have hj1 : (j : Int) < ((n2 - k : Nat) : Int) := by omega
                  go_wp2_with (go_at_call 21; refine HAG.out.mono ?_; rintro E w8 ⟨rfl, hv8, hk8⟩; have HV8 := Lib.hid hv8; have HK8 := Lib.hid hk8; clear hv8 hk8)
                  have hvn := HV8.out
                  rw [show N + 2 * cntR (opss.take j) + 2 * (opss.getD j []).length = N + 2 * cntR (opss.take (j + 1)) by rw [HTK.out, cntR_app, HC1.out]; omega] at hvn
                  have e : againT (finR U (opss.take j)) (opss.getD j []) = finR U (opss.take (j + 1)) := by rw [HTK.out, finR_snoc]
                  have HVM : Hid (VolM X w8 vb db kb n (N + 2 * cntR (opss.take (j + 1))) ⟨finR U (opss.take (j + 1)), L, img, q, fun _ => none⟩) := Lib.hid (by rw [← e]; exact hvn)
                  have HRW8 := Lib.hid (HROW.out.keepC HK8.out (by decide) (by decide))
                  have HKY8 : Hid (KeepY X w w8) := Lib.hid (HKN.out.trans (HK8.out.mono (by decide) (fun _ h => h)))
                  clear hvn e
                  go_roundw
                  case rel => exact ⟨j + 1, by go_num, by omega, HVM, HRW8, HKY8⟩
                  case measure => simp [intOf]; omega
                · have hje : opss.take j = opss := List.take_of_length_le (by have := HLO.out; omega)
                  have hv := HVN.out
                  rw [hje] at hv
                  have HV := Lib.hid hv; clear hv hje
                  have hj1 : ¬ (j : Int) < ((n2 - k : Nat) : Int) := by omega
                  go_wp2_with fail
                  rw [HR.out]
                  exact ⟨vb, rfl, HV.out, HKN.out⟩
end
end Go.Proofs.YtlpjmkkinlcbnaaGreatDoor
