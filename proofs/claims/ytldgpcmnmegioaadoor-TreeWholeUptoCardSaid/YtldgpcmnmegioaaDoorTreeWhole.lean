/- The walk of farrierlaw06.TreeWhole. -/
import Derived.Test.YtldgpcmnmegioaaDoorAlive06
import Derived.Test.YtldgpcmnmegioaaDoorTreeFew
namespace Go.Proofs.YtldgpcmnmegioaaDoor
open Go.RowKit
theorem onesT_snoc : ∀ (l : List OpD) (T : TreeD) (o : OpD), onesT T (l ++ [o]) = if (onesT T l).2 = 0 then doT (onesT T l).1 [o] else onesT T l
  | [], T, o => by
    show onesT T [o] = if (0 : Int) = 0 then doT T [o] else _
    rw [if_pos rfl]
    unfold onesT
    split
    · rename_i h
      unfold onesT
      rw [← h]
    · rfl
  | x :: l, T, o => by
    have e1 : onesT T (x :: l ++ [o]) = if (doT T [x]).2 = 0 then onesT (doT T [x]).1 (l ++ [o]) else doT T [x] := rfl
    have e2 : onesT T (x :: l) = if (doT T [x]).2 = 0 then onesT (doT T [x]).1 l else doT T [x] := rfl
    rw [e1, e2]
    split
    · exact onesT_snoc l _ o
    · rfl
set_option maxRecDepth 100000 in
set_option maxHeartbeats 25600000 in
theorem tree_whole (a : Option Addr) (c : Nat) (B : List BatchD) (a2 : Option Addr) (c2 : Nat) (L2 : List (OpD × OpA)) (w : World) (hE : Env w) (hB : BatchL w a B) (hL2 : OpsL w a2 L2) (hs : sumB2 B + (1 + L2.length) ≤ 2000000) (hl : B.length ≤ 1099511627776) :
    Calls Tryd.prog 3 #[.slice a B.length c, .slice a2 L2.length c2] w fun e w' => e = .returned (.bool true) ∧ Ext w w' := by
  obtain ⟨R, hR⟩ : ∃ R : Ending → World → Prop, R = fun e w' => e = .returned (.bool true) ∧ Ext w w' := ⟨_, rfl⟩
  rw [← hR]
  have HR := Lib.hid hR; clear hR
  have HAL := Lib.hid (alive06 w hE)
  have HE := Lib.hid hE; clear hE
  have hfw := fun W (k : Ext w W) => tree_few a c B W (hB.ext k) (by omega) hl
  have HB := Lib.hid hB; clear hB
  have HL2 := Lib.hid hL2; clear hL2
  obtain ⟨n, hn⟩ : ∃ n, n = B.length := ⟨_, rfl⟩
  obtain ⟨n2, hn2⟩ : ∃ n, n = L2.length := ⟨_, rfl⟩
  rw [← hn] at hfw ⊢
  rw [← hn2] at hs ⊢
  have HFW := Lib.hid hfw; clear hfw
  have HN := Lib.hid hn; clear hn
  have HN2 := Lib.hid hn2; clear hn2
  go_enter Tryd.func3, Tryd.ntmps3
  go_upto_region 5 with (first
    | (go_at_call 5; refine HAL.out.mono ?_; rintro E w1 ⟨rfl, hx⟩; have HX1 := Lib.hid hx; clear hx)
    | (go_at_call 6; refine Hid.out ?_))
  refine Lib.hid ?_
  refine (HFW.out _ HX1.out).mono ?_
  rintro E w2 ⟨⟨q1, rfl⟩, hx⟩
  have HX2 := Lib.hid (HX1.out.trans hx); clear hx HFW HX1 HAL
  cases q1 with
  | false =>
    go_wp2_with fail
    rw [HR.out]
    exact ⟨rfl, HX2.out⟩
  | true =>
    go_upto_region 5 with (go_at_call 6; refine Hid.out ?_)
    refine Lib.hid ?_
    have hx3 := Ext.alloc w2 (.cells #[.slice a2 n2 c2, .slice none 0 0] 28)
    have hb3 := heap_alloc_new w2 (.cells #[.slice a2 n2 c2, .slice none 0 0] 28)
    generalize w2.alloc (.cells #[.slice a2 n2 c2, .slice none 0 0] 28) = w3 at hx3 hb3 ⊢
    have hbl : BatchL w3 (some ⟨w2.heap.size, 0, none⟩) [⟨L2, a2, c2, none, 0, 0⟩] := by
      refine Or.inr ⟨_, 0, rfl, (Array.getElem?_eq_some_iff.1 hb3).1, fun i hi => ?_⟩
      obtain rfl : i = 0 := by simpa using hi
      have h0 := blk_cell hb3 0 (Value.slice a2 n2 c2) rfl
      rw [HN2.out] at h0
      exact ⟨⟨h0, blk_cell hb3 1 _ rfl⟩, HL2.out.ext (HX2.out.trans hx3)⟩
    refine (tree_few (some ⟨w2.heap.size, 0, none⟩) 1 [⟨L2, a2, c2, none, 0, 0⟩] w3 hbl (by have := HN2.out; simp [sumB2]; omega) (by simp)).mono ?_
    rintro E w4 ⟨⟨q2, rfl⟩, hx⟩
    have HX4 := Lib.hid (HX2.out.trans (hx3.trans hx)); clear hx hx3 hb3 hbl HX2
    cases q2 with
    | false =>
      go_wp2_with fail
      rw [HR.out]
      exact ⟨rfl, HX4.out⟩
    | true =>
      have hnew := at_New 1048576 w4
      obtain ⟨S, hS⟩ : ∃ S, S = w4.heap.size := ⟨_, rfl⟩
      rw [← hS] at hnew
      have HNEW := Lib.hid hnew; clear hnew
      have HS : Hid (w.heap.size ≤ S) := Lib.hid (by rw [hS]; exact HX4.out.size)
      clear hS
      go_upto_region 6 with (go_at_call 7; refine HNEW.out.mono ?_; rintro E w5 ⟨tb, rfl, hT, hx⟩; have HT := Lib.hid hT; have HX := Lib.hid (HX4.out.trans hx); clear hT hx)
      clear HNEW HX4
      go_wp2_with fail
      go_loopw [37] (fun i wr => ∃ (k : Nat) (T : TreeD), i = .int .i64 k ∧ k ≤ n ∧ Hid (TreeAt wr S tb (2 + 2 * sumB2 (B.take k)) T) ∧ Hid (T.ids.length ≤ 128 ∧ T.quota = 1048576) ∧ Hid (Ext w wr)) (fun i _ => n - (intOf i).toNat)
      case atStart => exact ⟨0, newT 1048576, rfl, Nat.zero_le _, HT, Lib.hid ⟨by simp [newT], by simp [newT]; omega⟩, HX⟩
      case round =>
        clear HT HX
        obtain ⟨k, T, rfl, hk, HT, HQ, HX⟩ := hrel
        have hsl := sumB2_le B k
        by_cases hlt : k < n
        · have hkL : k < B.length := by have := HN.out; omega
          have hst := sumB2_take B hkL
          have hsl1 := sumB2_le B (k + 1)
          obtain ⟨g, off, rfl, _, ⟨c0, c1⟩, hops⟩ := (HB.out.ext HX.out).at hkL
          generalize B.getD k bz = x at c0 c1 hops hst
          obtain ⟨xL, xa, xc, ra, rn, rc⟩ := x
          simp only at c0 c1 hops hst
          have HST := Lib.hid hst; clear hst
          have HOPS := Lib.hid hops; clear hops
          have hs0 : sumB2 (B.take k) + (1 + xL.length) ≤ 2000000 := by have := HST.out; omega
          go_upto_region 9 with (fail)
          clear c0 c1
          have hx_w6 : Ext wr (wr.alloc (.cells #[.slice xa xL.length xc, .slice ra rn rc] 28)) := (Ext.alloc _ _)
          have hf_P := heap_alloc_new wr (.cells #[.slice xa xL.length xc, .slice ra rn rc] 28)
          generalize wr.alloc (.cells #[.slice xa xL.length xc, .slice ra rn rc] 28) = w6 at hx_w6 hf_P ⊢
          obtain ⟨P, h_P⟩ : ∃ x, x = wr.heap.size := ⟨_, rfl⟩
          rw [← h_P] at hf_P
          try rw [← h_P]
          have hs_P : wr.heap.size ≤ P := by omega
          clear h_P
          have d0 := blk_cell hf_P 0 (Value.slice xa xL.length xc) rfl
          have hdo := at_Do xa xc xL (HE.out.ext (HX.out.trans hx_w6)) (HT.out.ext hx_w6) (HOPS.out.ext hx_w6) (by omega)
          have HDO := Lib.hid hdo; clear hdo
          have HX6 := Lib.hid (HX.out.trans hx_w6); clear hx_w6 hs_P hf_P
          have htb := HT.out.low.1
          go_wp2_with (go_at_call 8; refine HDO.out.mono ?_; rintro E w7 ⟨rfl, hT, hk7⟩; have HT7 := Lib.hid hT; have HX7 := Lib.hid (ext_do HX6.out (by have := HS.out; omega) hk7); clear hT hk7)
          go_roundw
          case rel =>
            refine ⟨k + 1, (doT T (xL.map Prod.fst)).1, by go_num, by omega, Lib.hid ?_, Lib.hid ⟨doT_count HQ.out.1 _, by rw [doT_quota]; exact HQ.out.2⟩, HX7⟩
            obtain ⟨g1, g2, g3⟩ := HT7.out
            exact ⟨g1, g2.mono (by have := HST.out; omega), by obtain ⟨mb, A, hm⟩ := g3; exact ⟨mb, A, hm.mono (by have := HST.out; omega)⟩⟩
          case measure => simp [intOf]; omega
        · obtain rfl : n = k := by omega
          rw [List.take_of_length_le (by have := HN.out; omega)] at HT hsl
          obtain ⟨N, hN⟩ : ∃ N, N = 2 + 2 * sumB2 B := ⟨_, rfl⟩
          rw [← hN] at HT
          have hNb : N + 2 * n2 ≤ 10000000 := by omega
          clear hN hsl hlt hk
          obtain ⟨S2, hS2⟩ : ∃ S, S = wr.heap.size := ⟨_, rfl⟩
          have hcl := at_Clone HT.out (by omega)
          rw [← hS2] at hcl
          have HCL := Lib.hid hcl; clear hcl
          have HS2 : Hid (w.heap.size ≤ S2 ∧ tb < S2) := Lib.hid (by rw [hS2]; exact ⟨HX.out.size, HT.out.low.2⟩)
          clear hS2
          go_upto_region 12 with (go_at_call 9; refine HCL.out.mono ?_; rintro E w7 ⟨ub, rfl, hU, hx⟩; have HU := Lib.hid hU; replace HT := Lib.hid (HT.out.ext hx); replace HX := Lib.hid (HX.out.trans hx); clear hU hx)
          clear HCL
          have hub := HU.out.low.1
          have hne : tb ≠ ub := by have := HS2.out.2; omega
          go_wp2_with fail
          go_loopw [9, 50] (fun v i wr => ∃ (k : Nat) (ev : Int), v = .int .i64 ev ∧ i = .int .i64 k ∧ k ≤ n2 ∧ Hid (ev = (onesT T ((L2.map Prod.fst).take k)).2) ∧ Hid (TreeAt wr S2 ub (N + 2 * k) (onesT T ((L2.map Prod.fst).take k)).1) ∧ Hid (TreeAt wr S tb N T) ∧ Hid (Ext w wr)) (fun _ i _ => n2 - (intOf i).toNat)
          case atStart => exact ⟨0, 0, rfl, rfl, Nat.zero_le _, Lib.hid rfl, HU, HT, HX⟩
          case round =>
            clear HU HT HX
            obtain ⟨k, ev, rfl, rfl, hk, HEV, HU, HT, HX⟩ := hrel
            by_cases hlt : k < n2
            · have hkL : k < L2.length := by have := HN2.out; omega
              obtain ⟨g, off, rfl, _, ⟨c0, c1, c2', c3⟩, hby⟩ := (HL2.out.ext HX.out).at hkL
              have htk : (L2.map Prod.fst).take (k + 1) = (L2.map Prod.fst).take k ++ [(L2.getD k oz).1] := by
                rw [List.take_succ_eq_append_getElem (by rw [List.length_map]; exact hkL), List.getElem_map, List.getD_eq_getElem?_getD, List.getElem?_eq_getElem hkL]
                rfl
              have hsn := onesT_snoc ((L2.map Prod.fst).take k) T (L2.getD k oz).1
              rw [← htk] at hsn
              clear htk
              generalize L2.getD k oz = x at c0 c1 c2' c3 hby hsn
              obtain ⟨⟨kd, pt, ds, dt⟩, ⟨oa, oc⟩⟩ := x
              simp only at c0 c1 c2' c3 hby hsn
              obtain ⟨U, hU⟩ : ∃ U, U = (onesT T ((L2.map Prod.fst).take k)).1 := ⟨_, rfl⟩
              rw [← hU] at hsn
              have HU2 := HU
              rw [← hU] at HU2
              have HEV2 := Lib.hid hU; clear hU
              have HSN := Lib.hid hsn; clear hsn
              have HBY := Lib.hid hby; clear hby
              go_upto_region 16 with (fail)
              clear c0 c1 c2' c3
              have hx_w8 : Ext wr (wr.alloc (.cells #[.int .i64 kd, .string (bs pt), .string (bs ds), .slice oa dt.length oc] 36)) := (Ext.alloc _ _)
              have hf_Q := heap_alloc_new wr (.cells #[.int .i64 kd, .string (bs pt), .string (bs ds), .slice oa dt.length oc] 36)
              generalize wr.alloc (.cells #[.int .i64 kd, .string (bs pt), .string (bs ds), .slice oa dt.length oc] 36) = w8 at hx_w8 hf_Q ⊢
              obtain ⟨Q, h_Q⟩ : ∃ x, x = wr.heap.size := ⟨_, rfl⟩
              rw [← h_Q] at hf_Q
              try rw [← h_Q]
              have hs_Q : wr.heap.size ≤ Q := by omega
              clear h_Q
              have d0 := blk_cell hf_Q 0 (Value.int .i64 kd) rfl
              have d1 := blk_cell hf_Q 1 (Value.string (bs pt)) rfl
              have d2 := blk_cell hf_Q 2 (Value.string (bs ds)) rfl
              have d3 := blk_cell hf_Q 3 (Value.slice oa dt.length oc) rfl
              have HX8 := Lib.hid hx_w8; clear hx_w8 hs_Q hf_Q
              have hev := HEV.out
              by_cases hz : ev = 0
              · have HZ := Lib.hid hz
                go_upto_region 18 with (go_at_call 8; refine Hid.out ?_)
                refine Lib.hid ?_
                clear d0 d1 d2 d3
                have hx9 := Ext.alloc w8 (.cells #[.int .i64 kd, .string (bs pt), .string (bs ds), .slice oa dt.length oc] 36)
                have hb9 := heap_alloc_new w8 (.cells #[.int .i64 kd, .string (bs pt), .string (bs ds), .slice oa dt.length oc] 36)
                generalize w8.alloc (.cells #[.int .i64 kd, .string (bs pt), .string (bs ds), .slice oa dt.length oc] 36) = w9 at hx9 hb9 ⊢
                have hops : OpsL w9 (some ⟨w8.heap.size, 0, none⟩) [(⟨kd, pt, ds, dt⟩, ⟨oa, oc⟩)] := ops_blk hb9 (by
                  intro z hz
                  simp only [List.mem_cons, List.not_mem_nil, or_false] at hz
                  subst hz
                  exact HBY.out.ext (HX8.out.trans hx9))
                refine (at_Do (some ⟨w8.heap.size, 0, none⟩) 1 [(⟨kd, pt, ds, dt⟩, ⟨oa, oc⟩)] (HE.out.ext (HX.out.trans (HX8.out.trans hx9))) (HU2.out.ext (HX8.out.trans hx9)) hops (by simp only [List.length_cons, List.length_nil]; omega)).mono ?_
                rintro E w10 ⟨rfl, hU10, hk10⟩
                have hx10 := ext_do (HX.out.trans (HX8.out.trans hx9)) (by have := HS2.out.1; omega) hk10
                have hT10 := (HT.out.ext (HX8.out.trans hx9)).other (HU2.out.ext (HX8.out.trans hx9)) hne hk10
                simp only [List.map_cons, List.map_nil, List.length_cons, List.length_nil] at hU10 ⊢
                have hsn := HSN.out
                rw [← HEV.out, if_pos HZ.out] at hsn
                have HSN2 := Lib.hid hsn
                have HU10 := Lib.hid hU10
                have HX10 := Lib.hid hx10
                have HT10 := Lib.hid hT10
                clear hU10 hx10 hT10 hk10 hops hb9 hx9 hsn hev hz
                obtain ⟨rr, hrr⟩ : ∃ rr, rr = doT U [⟨kd, pt, ds, dt⟩] := ⟨_, rfl⟩
                rw [← hrr] at HSN2 HU10 ⊢
                have HRR := Lib.hid hrr; clear hrr
                go_wp2_with fail
                go_roundw
                case rel =>
                  refine ⟨k + 1, rr.2, rfl, by go_num, by omega, Lib.hid ?_, Lib.hid ?_, HT10, HX10⟩
                  · rw [HSN2.out]
                  · rw [HSN2.out]; exact HU10.out
                case measure => simp [intOf]; omega
              · have hsn := HSN.out
                rw [← HEV.out, if_neg hz] at hsn
                have HSN2 := Lib.hid hsn; clear hsn hev
                go_wp2_with fail
                go_roundw
                case rel =>
                  refine ⟨k + 1, ev, rfl, by go_num, by omega, Lib.hid ?_, Lib.hid ?_, Lib.hid (HT.out.ext HX8.out), Lib.hid (HX.out.trans HX8.out)⟩
                  · rw [HSN2.out]; exact HEV.out
                  · rw [HSN2.out]
                    obtain ⟨g1, g2, mb, A, g3⟩ := HU.out.ext HX8.out
                    exact ⟨g1, g2.mono (by omega), mb, A, g3.mono (by omega)⟩
                case measure => simp [intOf]; omega
            · obtain rfl : n2 = k := by omega
              rw [List.take_of_length_le (by rw [List.length_map]; have := HN2.out; omega)] at HEV HU
              clear hlt hk
              have hlaw := whole_law HT.out.1 HT.out.2.1 HQ.out.1 (by have := HQ.out.2; omega) (L2.map Prod.fst)
              obtain ⟨U, hU⟩ : ∃ U, U = (onesT T (L2.map Prod.fst)).1 := ⟨_, rfl⟩
              rw [← hU] at HU hlaw
              rw [← HEV.out] at hlaw
              clear hU
              have hcl := at_Clone HT.out (by omega)
              obtain ⟨S3, hS3⟩ : ∃ S, S = wr.heap.size := ⟨_, rfl⟩
              rw [← hS3] at hcl
              have HCL := Lib.hid hcl; clear hcl
              have HS3 : Hid (tb < S3) := Lib.hid (by rw [hS3]; exact HT.out.low.2)
              clear hS3
              have hno := fun W (k : Ext wr W) => at_Nodes (HT.out.ext k)
              have HNO := Lib.hid hno; clear hno
              have hus := fun W (k : Ext wr W) => at_Used (HT.out.ext k) (by omega)
              have HUS := Lib.hid hus; clear hus
              go_upto_region 20 with (first
                | (go_at_call 9; refine HCL.out.mono ?_; rintro E w11 ⟨vb, rfl, hV, hx⟩; have HV := Lib.hid hV; have HX11 := Lib.hid hx; clear hV hx)
                | (go_at_call 10; refine (HNO.out _ HX11.out).mono ?_; rintro E w12 ⟨rfl, hx⟩; replace HV := Lib.hid (HV.out.ext hx); have HX12 := Lib.hid (HX11.out.trans hx); clear hx)
                | (go_at_call 11; refine (HUS.out _ HX12.out).mono ?_; rintro E w13 ⟨rfl, hx⟩; replace HV := Lib.hid (HV.out.ext hx); have HX13 := Lib.hid (HX12.out.trans hx); clear hx))
              replace HT := Lib.hid (HT.out.ext HX13.out)
              replace HU := Lib.hid (HU.out.ext HX13.out)
              replace HX := Lib.hid (HX.out.trans HX13.out)
              clear HCL HNO HUS HX11 HX12 HX13
              have hvb := HV.out.low.1
              have hnv : tb ≠ vb := by have := HS3.out; omega
              have hdo := at_Do a2 c2 L2 (HE.out.ext HX.out) HT.out (HL2.out.ext HX.out) (by have := HN2.out; omega)
              rw [← HN2.out] at hdo
              have HDO := Lib.hid hdo; clear hdo
              obtain ⟨fr, hfr⟩ : ∃ fr, fr = doT T (L2.map Prod.fst) := ⟨_, rfl⟩
              rw [← hfr] at hlaw HDO
              clear hfr
              obtain ⟨Tf, f⟩ := fr
              simp only at hlaw HDO
              have HLAW := Lib.hid hlaw; clear hlaw
              have htb := HT.out.low.1
              go_upto_region 21 with (go_at_call 8; refine HDO.out.mono ?_; rintro E w14 ⟨rfl, hT, hk⟩; replace HU := Lib.hid (HU.out.other HT.out (fun e => hne e.symm) hk); replace HV := Lib.hid (HV.out.other HT.out (fun e => hnv e.symm) hk); replace HX := Lib.hid (ext_do HX.out (by have := HS.out; omega) hk); replace HT := Lib.hid hT; clear hT hk)
              clear HDO
              have hnt := fun W (k : Ext w14 W) => at_Nodes (HT.out.ext k)
              have HNT := Lib.hid hnt; clear hnt
              have hnu := fun W (k : Ext w14 W) => at_Nodes (HU.out.ext k)
              have HNU := Lib.hid hnu; clear hnu
              have hut := fun W (k : Ext w14 W) => at_Used (HT.out.ext k) (by omega)
              have HUT := Lib.hid hut; clear hut
              have huu := fun W (k : Ext w14 W) => at_Used (HU.out.ext k) (by omega)
              have HUU := Lib.hid huu; clear huu
              by_cases hor : ev = 0 ∨ f = 0
              · obtain ⟨l1, l2⟩ := HLAW.out.1 hor
                by_cases hef : ev = f
                · have hTU := l2 hef
                  subst hef
                  subst hTU
                  have h0 : ev = 0 := hor.elim id id
                  clear l1 l2 hor
                  go_upto_region 24 with fail
                  go_wp2_with (go_at_call 10; refine Hid.out ?_)
                  refine Lib.hid ?_
                  refine (HNT.out _ (Ext.refl _)).mono ?_
                  rintro E w15 ⟨rfl, hx15⟩
                  have HX15 := Lib.hid hx15; clear hx15
                  go_wp2_with (go_at_call 10; refine Hid.out ?_)
                  refine Lib.hid ?_
                  refine (HNU.out _ HX15.out).mono ?_
                  rintro E w16 ⟨rfl, hx16⟩
                  have HX16 := Lib.hid (HX15.out.trans hx16); clear hx16
                  go_wp2_with (go_at_call 11; refine Hid.out ?_)
                  refine Lib.hid ?_
                  refine (HUT.out _ HX16.out).mono ?_
                  rintro E w17 ⟨rfl, hx17⟩
                  have HX17 := Lib.hid (HX16.out.trans hx17); clear hx17
                  go_wp2_with (go_at_call 11; refine Hid.out ?_)
                  refine Lib.hid ?_
                  refine (HUU.out _ HX17.out).mono ?_
                  rintro E w18 ⟨rfl, hx18⟩
                  have HX18 := Lib.hid (HX17.out.trans hx18); clear hx18
                  go_wp2_with fail
                  rw [HR.out]
                  exact ⟨rfl, HX.out.trans HX18.out⟩
                · have h7 := l1 hef
                  subst h7
                  have hf0 : f = 0 := by omega
                  subst hf0
                  clear l1 l2 hor hef
                  go_wp2_with fail
                  rw [HR.out]
                  exact ⟨rfl, HX.out⟩
              · have hf0 : f ≠ 0 := fun e => hor (Or.inr e)
                have he0 : ev ≠ 0 := fun e => hor (Or.inl e)
                have hTf := HLAW.out.2 hf0
                subst hTf
                clear hor HNU HUU
                have hf1 := fun p W (k : Ext w14 W) => at_Find p (HE.out.ext (HX.out.trans k)) (HT.out.ext k) (by omega)
                have HF1 := Lib.hid hf1; clear hf1
                have hf2 := fun p W (k : Ext w14 W) => at_Find p (HE.out.ext (HX.out.trans k)) (HV.out.ext k) (by omega)
                have HF2 := Lib.hid hf2; clear hf2
                go_upto_region 25 with fail
                go_wp2_with fail
                go_loopw [102] (fun i wr => ∃ (k : Nat), i = .int .i64 k ∧ k ≤ n2 ∧ Hid (Ext w14 wr)) (fun i _ => n2 - (intOf i).toNat)
                case atStart => exact ⟨0, rfl, Nat.zero_le _, Lib.hid (Ext.refl _)⟩
                case round =>
                  obtain ⟨k, rfl, hk, HXk⟩ := hrel
                  by_cases hlt : k < n2
                  · have hkL : k < L2.length := by have := HN2.out; omega
                    obtain ⟨g, off, rfl, _, ⟨c0, c1, c2', c3⟩, _⟩ := (HL2.out.ext (HX.out.trans HXk.out)).at hkL
                    generalize L2.getD k oz = x at c0 c1 c2' c3
                    obtain ⟨⟨kd, pt, ds, dt⟩, ⟨oa, oc⟩⟩ := x
                    simp only at c0 c1 c2' c3
                    go_upto_region 28 with (fail)
                    clear c0 c1 c2' c3
                    have hx_w20 : Ext wr (wr.alloc (.cells #[.int .i64 kd, .string (bs pt), .string (bs ds), .slice oa dt.length oc] 36)) := (Ext.alloc _ _)
                    have hf_Z := heap_alloc_new wr (.cells #[.int .i64 kd, .string (bs pt), .string (bs ds), .slice oa dt.length oc] 36)
                    generalize wr.alloc (.cells #[.int .i64 kd, .string (bs pt), .string (bs ds), .slice oa dt.length oc] 36) = w20 at hx_w20 hf_Z ⊢
                    obtain ⟨Z, h_Z⟩ : ∃ x, x = wr.heap.size := ⟨_, rfl⟩
                    rw [← h_Z] at hf_Z
                    try rw [← h_Z]
                    have hs_Z : wr.heap.size ≤ Z := by omega
                    clear h_Z
                    have d1 := blk_cell hf_Z 1 (Value.string (bs pt)) rfl
                    have HX20 := Lib.hid (HXk.out.trans hx_w20)
                    clear hx_w20 hs_Z hf_Z
                    go_wp2_with (go_at_call 12; refine Hid.out ?_)
                    refine Lib.hid ?_
                    refine (HF1.out pt _ HX20.out).mono ?_
                    rintro E w21 ⟨rfl, hx21⟩
                    have e1 := hx21.cell d1
                    have HX21 := Lib.hid (HX20.out.trans hx21); clear hx21
                    have hf2p := HF2.out pt
                    generalize findT Tf pt = fi at hf2p ⊢
                    have HF2P := Lib.hid hf2p; clear hf2p d1
                    go_wp2_with (go_at_call 12; refine Hid.out ?_)
                    refine Lib.hid ?_
                    refine (HF2P.out _ HX21.out).mono ?_
                    rintro E w22 ⟨rfl, hx22⟩
                    have HX22 := Lib.hid (HX21.out.trans hx22); clear hx22 e1
                    go_wp2_with fail
                    go_roundw
                    case rel => exact ⟨k + 1, by go_num, by omega, HX22⟩
                    case measure => simp [intOf]; omega
                  · clear HF1 HF2
                    go_upto_region 33 with fail
                    go_wp2_with (go_at_call 10; refine Hid.out ?_)
                    refine Lib.hid ?_
                    refine (HNT.out _ HXk.out).mono ?_
                    rintro E w15 ⟨rfl, hx15⟩
                    have HX15 := Lib.hid (HXk.out.trans hx15); clear hx15
                    go_wp2_with (go_at_call 11; refine Hid.out ?_)
                    refine Lib.hid ?_
                    refine (HUT.out _ HX15.out).mono ?_
                    rintro E w16 ⟨rfl, hx16⟩
                    have HX16 := Lib.hid (HX15.out.trans hx16); clear hx16
                    go_wp2_with fail
                    rw [HR.out]
                    exact ⟨rfl, HX.out.trans HX16.out⟩
end Go.Proofs.YtldgpcmnmegioaaDoor
