/- The walk of farrierlaw12.DepAgain. -/
import Derived.Test.YtnclibfhbngkjaaGreatDoorDepHeld
import Derived.Test.YtnclibfhbngkjaaGreatDoorDepAlive
namespace Go.Proofs.YtnclibfhbngkjaaGreatDoor
open Go.RowKit
attribute [local go_sem ↓] Go.wp_at_zero Go.wp_at_succ
set_option maxRecDepth 100000 in
set_option maxHeartbeats 25600000 in
/-- A change that may be done may not be done again at once. -/
theorem dep_again (a : Option Addr) (c : Nat) (L : List (ChD × ChA)) (w : World) (hE : EnvN w) (hL : ChL w a L) (hl : L.length ≤ 4398046511104) :
    Calls Tryz.prog 6 #[.slice a L.length c] w fun e w' => e = .returned (.bool true) ∧ Ext w w' := by
  obtain ⟨R, hR⟩ : ∃ R : Ending → World → Prop, R = fun e w' => e = .returned (.bool true) ∧ Ext w w' := ⟨_, rfl⟩
  rw [← hR]
  have HR := Lib.hid hR; clear hR
  have HL := Lib.hid hL; clear hL
  have HE := Lib.hid hE; clear hE
  have hsm := fun W (k : Ext w W) => dep_small a c L W (HL.out.ext k) hl
  unfold SmallsR at hsm
  obtain ⟨n, hn⟩ : ∃ n, n = L.length := ⟨_, rfl⟩
  rw [← hn] at hl hsm ⊢
  have HN := Lib.hid hn; clear hn
  cases hb : smallAll L with
  | false =>
    rw [hb] at hsm
    simp only [Bool.false_eq_true, if_false] at hsm
    have HSM := Lib.hid hsm; clear hsm
    go_enter Tryz.func6, Tryz.ntmps6
    go_wp2_with (first
      | (go_at_call 22; refine (alive12 _ HE.out).mono ?_; rintro E w1 ⟨rfl, hx1⟩; have HX1 := Lib.hid hx1; clear hx1)
      | (go_at_call 23; refine (HSM.out _ HX1.out).mono ?_; rintro E w2 ⟨rfl, hx2⟩; have HX2 := Lib.hid hx2; clear hx2))
    rw [HR.out]
    exact ⟨rfl, HX1.out.trans HX2.out⟩
  | true =>
    rw [hb] at hsm
    simp only [if_true] at hsm
    have HSM := Lib.hid hsm; clear hsm
    have HSA := Lib.hid hb; clear hb
    go_enter Tryz.func6, Tryz.ntmps6
    go_upto_region 6 with (first
      | (go_at_call 22; refine (alive12 _ HE.out).mono ?_; rintro E w1 ⟨rfl, hx1⟩; have HX1 := Lib.hid hx1; clear hx1)
      | (go_at_call 23; refine (HSM.out _ HX1.out).mono ?_; rintro E w2 ⟨rfl, hx2⟩; have HX2 := Lib.hid hx2; clear hx2)
      | (go_at_call 13; refine (ex_new _).mono ?_; rintro E w3 ⟨⟨b0, A0, rfl, hm⟩, hx3⟩; have HM0 := Lib.hid hm; have HX3 := Lib.hid hx3; clear hm hx3))
    have hx_w4 : Ext w3 (w3.alloc (.cells #[.map (some b0)] 42)) := (Ext.alloc _ _)
    have hf_B := heap_alloc_new w3 (.cells #[.map (some b0)] 42)
    generalize w3.alloc (.cells #[.map (some b0)] 42) = w4 at hx_w4 hf_B ⊢
    obtain ⟨B, h_B⟩ : ∃ x, x = w3.heap.size := ⟨_, rfl⟩
    rw [← h_B] at hf_B
    try rw [← h_B]
    have hs_B : w3.heap.size ≤ B := by omega
    clear h_B
    have HX4 := Lib.hid ((HX1.out.trans (HX2.out.trans HX3.out)).trans hx_w4)
    have HBL : Hid (w.heap.size ≤ B) := Lib.hid (Nat.le_trans (HX1.out.trans (HX2.out.trans HX3.out)).size hs_B)
    have hH4 : HoldAt w4 B 0 := ⟨b0, noneF, A0, hf_B, HM0.out.ext hx_w4, held_none⟩
    have HH4 := Lib.hid hH4; clear hH4 hf_B hx_w4 hs_B
    go_wp2_with fail
    go_loopw [29] (fun i wr => ∃ k : Nat, i = .int .i64 k ∧ k ≤ n ∧ Hid (HoldAt wr B (sumCh (L.take k))) ∧ Hid (Ext w wr)) (fun i _ => n - (intOf i).toNat)
    case atStart => exact ⟨0, rfl, Nat.zero_le _, HH4, HX4⟩
    case round =>
      obtain ⟨k, rfl, hk, hH, hX⟩ := hrel
      by_cases hlt : k < n
      · have hkL : k < L.length := by have := HN.out; omega
        obtain ⟨g, off, rfl, _, ⟨c0, c1⟩, hm⟩ := (HL.out.ext hX.out).at hkL
        have hsc := smallAll_c HSA.out hkL
        have hsl : sumCh (L.take k) ≤ 60 := Nat.le_trans (sumCh_all L k) (smallAll_sum HSA.out)
        have hst := setCh_take hkL
        have hsk := sumCh_mono L (j := k) (k := k + 1) (by omega)
        obtain ⟨x, hx⟩ : ∃ x, x = L.getD k cz := ⟨_, rfl⟩
        rw [← hx] at c0 c1 hm hsc hst
        clear hx
        obtain ⟨⟨come, go⟩, ⟨ca, cc, ga, gc⟩⟩ := x
        simp only at c0 c1
        have HM := Lib.hid hm; clear hm
        have HSC := Lib.hid hsc; clear hsc
        have HST := Lib.hid hst; clear hst
        have HSK := Lib.hid hsk; clear hsk
        go_upto_region 9 with (fail)
        clear c0 c1
        have hx_w5 : Ext wr (wr.alloc (.cells #[.slice ca come.length cc, .slice ga go.length gc] 61)) := (Ext.alloc _ _)
        have hf_F := heap_alloc_new wr (.cells #[.slice ca come.length cc, .slice ga go.length gc] 61)
        generalize wr.alloc (.cells #[.slice ca come.length cc, .slice ga go.length gc] 61) = w5 at hx_w5 hf_F ⊢
        obtain ⟨F, h_F⟩ : ∃ x, x = wr.heap.size := ⟨_, rfl⟩
        rw [← h_F] at hf_F
        try rw [← h_F]
        have hs_F : wr.heap.size ≤ F := by omega
        clear h_F
        obtain ⟨b, f, A, hB, hM, hF⟩ := hH.out
        have b0 := blk_cell (hx_w5.heap hB) 0 (Value.map (some b)) rfl
        have d0 := blk_cell hf_F 0 (Value.slice ca come.length cc) rfl
        have d1 := blk_cell hf_F 1 (Value.slice ga go.length gc) rfl
        have haf := after_held b (sumCh (L.take k)) f A (⟨come, go⟩, ⟨ca, cc, ga, gc⟩) w5 (HE.out.ext (hX.out.trans hx_w5)) (hM.ext hx_w5) hF (HM.out.ext hx_w5) HSC.out (by omega)
        have HAF := Lib.hid haf; clear haf
        have HFB := Lib.hid hf_F; clear hf_F
        have HB := Lib.hid hB; clear hB
        have HX5 := Lib.hid hx_w5; clear hx_w5
        clear hM hs_F
        go_upto_region 10 with (go_at_call 24; refine HAF.out.mono ?_; rintro E w6 ⟨hx6, pm, y, rfl, hor⟩; obtain ⟨y1, y2, y3⟩ := y; unfold faultV; have HX6 := Lib.hid hx6; have HOR := Lib.hid hor; clear hx6 hor)
        try simp only at HOR ⊢
        clear b0 d0 d1 HAF
        have hx_w7 : Ext w6 ((w6.alloc (.cells #[.map pm] 42)).alloc (.cells #[.int .i64 (y1 : Int), .string (bs y2), .string (bs y3)] 63)) := ((Ext.alloc _ _).trans (Ext.alloc _ _))
        have hf_P := (Ext.alloc (w6.alloc (.cells #[.map pm] 42)) (.cells #[.int .i64 (y1 : Int), .string (bs y2), .string (bs y3)] 63)).heap (heap_alloc_new w6 (.cells #[.map pm] 42))
        have hf_Q := heap_alloc_new (w6.alloc (.cells #[.map pm] 42)) (.cells #[.int .i64 (y1 : Int), .string (bs y2), .string (bs y3)] 63)
        simp only [World.size_alloc] at hf_Q
        generalize (w6.alloc (.cells #[.map pm] 42)).alloc (.cells #[.int .i64 (y1 : Int), .string (bs y2), .string (bs y3)] 63) = w7 at hx_w7 hf_P hf_Q ⊢
        obtain ⟨P, h_P⟩ : ∃ x, x = w6.heap.size := ⟨_, rfl⟩
        obtain ⟨Q, h_Q⟩ : ∃ x, x = w6.heap.size + 1 := ⟨_, rfl⟩
        rw [← h_Q] at hf_Q
        rw [← h_P] at hf_P
        try rw [← h_Q, ← h_P]
        have hs_P : w6.heap.size ≤ P := by omega
        have hs_Q : w6.heap.size ≤ Q := by omega
        clear h_P h_Q
        have e0 := blk_cell hf_Q 0 (Value.int .i64 (y1 : Int)) rfl
        have HFP := Lib.hid hf_P; clear hf_P
        have HFQ := Lib.hid hf_Q; clear hf_Q
        have HX7 := Lib.hid (HX5.out.trans (HX6.out.trans hx_w7))
        have HX67 := Lib.hid hx_w7; clear hx_w7 hs_P hs_Q
        by_cases h0 : y1 = 0
        · have hd : (((y1 : Nat) : Int) == 0) = true := by rw [beq_iff_eq]; omega
          have hd' : (((y1 : Nat) : Int) != 0) = false := by rw [bne_eq_false_iff_eq]; omega
          obtain ⟨hok, b2, A2, rfl, hM2⟩ : AfterOK f (comeL (⟨come, go⟩, ⟨ca, cc, ga, gc⟩)) go ∧ ∃ b2 A2, pm = some b2 ∧ EntsM w6 b2 (sumCh (L.take k) + (comeL (⟨come, go⟩, ⟨ca, cc, ga, gc⟩)).length) (outF f (comeL (⟨come, go⟩, ⟨ca, cc, ga, gc⟩)) go) A2 := by
            rcases HOR.out with ⟨h, _⟩ | ⟨_, h1, h2⟩
            · exact absurd h0 h
            · exact ⟨h1, h2⟩
          have HOK := Lib.hid hok; clear hok
          have HM2 := Lib.hid hM2; clear hM2 h0
          have hBB := HX7.out.heap HB.out
          have b1 := blk_cell hBB 0 (Value.map (some b)) rfl
          have b2f := blk_free hBB 0
          have p0 := blk_cell HFP.out 0 (Value.map (some b2)) rfl
          go_upto_region 11 with (fail)
          clear hd hd' e0
          have hag := after_again b2 (sumCh (L.take k) + (comeL (⟨come, go⟩, ⟨ca, cc, ga, gc⟩)).length) f A2 (⟨come, go⟩, ⟨ca, cc, ga, gc⟩) w7 (HE.out.ext (hX.out.trans HX7.out)) (HM2.out.ext HX67.out) HOK.out (HM.out.ext HX7.out) HSC.out (by have := HST.out; have h2 := sumCh_all L (k + 1); have h3 := smallAll_sum HSA.out; omega)
          have HAG := Lib.hid hag; clear hag
          have d0 := blk_cell ((HX6.out.trans HX67.out).heap HFB.out) 0 (Value.slice ca come.length cc) rfl
          have d1 := blk_cell ((HX6.out.trans HX67.out).heap HFB.out) 1 (Value.slice ga go.length gc) rfl
          clear b1 b2f hBB
          go_upto_region 12 with (go_at_call 24; refine HAG.out.mono ?_; rintro E w8 ⟨⟨z, hz, rfl⟩, hx8⟩; obtain ⟨z1, z2, z3⟩ := z; unfold faultV; have HX8 := Lib.hid hx8; have HZ := Lib.hid hz; clear hx8 hz)
          try simp only at HZ ⊢
          clear p0 d0 d1 HAG
          have hx_w9 : Ext w8 ((w8.alloc (.cells #[.map none] 42)).alloc (.cells #[.int .i64 (z1 : Int), .string (bs z2), .string (bs z3)] 63)) := ((Ext.alloc _ _).trans (Ext.alloc _ _))
          have hf_P2 := (Ext.alloc (w8.alloc (.cells #[.map none] 42)) (.cells #[.int .i64 (z1 : Int), .string (bs z2), .string (bs z3)] 63)).heap (heap_alloc_new w8 (.cells #[.map none] 42))
          have hf_Q2 := heap_alloc_new (w8.alloc (.cells #[.map none] 42)) (.cells #[.int .i64 (z1 : Int), .string (bs z2), .string (bs z3)] 63)
          simp only [World.size_alloc] at hf_Q2
          generalize (w8.alloc (.cells #[.map none] 42)).alloc (.cells #[.int .i64 (z1 : Int), .string (bs z2), .string (bs z3)] 63) = w9 at hx_w9 hf_P2 hf_Q2 ⊢
          obtain ⟨P2, h_P2⟩ : ∃ x, x = w8.heap.size := ⟨_, rfl⟩
          obtain ⟨Q2, h_Q2⟩ : ∃ x, x = w8.heap.size + 1 := ⟨_, rfl⟩
          rw [← h_Q2] at hf_Q2
          rw [← h_P2] at hf_P2
          try rw [← h_Q2, ← h_P2]
          have hs_P2 : w8.heap.size ≤ P2 := by omega
          have hs_Q2 : w8.heap.size ≤ Q2 := by omega
          clear h_P2 h_Q2
          have e1 := blk_cell hf_Q2 0 (Value.int .i64 (z1 : Int)) rfl
          have HX9 := Lib.hid (HX8.out.trans hx_w9); clear hx_w9 hf_P2 hf_Q2 hs_P2 hs_Q2
          have p0 := blk_cell (HX9.out.heap HFP.out) 0 (Value.map (some b2)) rfl
          have hBB := (HX7.out.trans HX9.out).heap HB.out
          have b1 := blk_cell hBB 0 (Value.map (some b)) rfl
          have b2f := blk_free hBB 0
          have hHn : HoldAt (w9.setCell ⟨B, 0, none⟩ (.map (some b2))) B (sumCh (L.take (k + 1))) := HoldAt.set hBB ((HM2.out.ext (HX67.out.trans HX9.out)).mono HST.out) HOK.out.2
          have HHN := Lib.hid hHn; clear hHn hBB
          rcases HZ.out with hz | hz
          · have h1 : (((z1 : Nat) : Int) != 15) = false := by rw [bne_eq_false_iff_eq]; omega
            clear hz
            go_wp2_with fail
            exact ⟨⟨k + 1, by go_num, by omega, HHN, Lib.hid (set_ext (hX.out.trans (HX7.out.trans HX9.out)) HBL.out)⟩, by simp [intOf]; omega⟩
          · have h1 : (((z1 : Nat) : Int) != 15) = true := by rw [bne_iff_ne]; omega
            have h2 : (((z1 : Nat) : Int) != 8) = false := by rw [bne_eq_false_iff_eq]; omega
            clear hz
            go_wp2_with fail
            exact ⟨⟨k + 1, by go_num, by omega, HHN, Lib.hid (set_ext (hX.out.trans (HX7.out.trans HX9.out)) HBL.out)⟩, by simp [intOf]; omega⟩
        · have hd : (((y1 : Nat) : Int) == 0) = false := by rw [beq_eq_false_iff_ne]; omega
          have hd' : (((y1 : Nat) : Int) != 0) = true := by rw [bne_iff_ne]; omega
          clear h0
          go_wp2_with fail
          exact ⟨⟨k + 1, by go_num, by omega, Lib.hid ((hH.out.ext HX7.out).mono HSK.out), Lib.hid (hX.out.trans HX7.out)⟩, by simp [intOf]; omega⟩
      · obtain rfl : k = n := by omega
        obtain ⟨b, f, A, hB, hM, hF⟩ := hH.out
        have hN60 : sumCh (L.take k) ≤ 60 := Nat.le_trans (sumCh_all L k) (smallAll_sum HSA.out)
        obtain ⟨N, hNN⟩ : ∃ N, N = sumCh (L.take k) := ⟨_, rfl⟩
        rw [← hNN] at hM hN60
        clear hNN hH hlt hk hl
        obtain ⟨w5, rfl⟩ : ∃ w5 : World, w5 = wr := ⟨_, rfl⟩
        have hbm : ∀ W, Ext w5 W → BaseM W (.agg #[.map (some b)]) N f := fun W k => Or.inr ⟨b, A, rfl, hM.ext k⟩
        have HBM := Lib.hid hbm; clear hbm
        have hnm := fun W (k : Ext w5 W) => base_names (.agg #[.map (some b)]) N f W (HBM.out W k) (by omega)
        have HNM := Lib.hid hnm; clear hnm
        have b1 := blk_cell hB 0 (Value.map (some b)) rfl
        have HB := Lib.hid hB; clear hB
        have HM := Lib.hid hM; clear hM
        have HF := Lib.hid hF; clear hF
        have HX5 := hX; clear hX
        go_wp2_with (go_at_call 20; refine (HNM.out _ (Ext.refl _)).mono ?_; rintro E w6 ⟨sa, sc, ss, rfl, hss, hown, hsl, hx6⟩; have HSS := Lib.hid hss; have HST := Lib.hid hown.strs.1; have HX6 := Lib.hid hx6; clear hss hown hx6)
        obtain ⟨m, hmm⟩ : ∃ m, m = ss.length := ⟨_, rfl⟩
        rw [← hmm] at hsl ⊢
        have HMM := Lib.hid hmm; clear hmm
        clear b1
        go_loopw [61] (fun i wr => ∃ k : Nat, i = .int .i64 k ∧ k ≤ m ∧ Hid (Ext w6 wr)) (fun i _ => m - (intOf i).toNat)
        case atStart => exact ⟨0, rfl, Nat.zero_le _, Lib.hid (Ext.refl _)⟩
        case round =>
          obtain ⟨k, rfl, hk, hX⟩ := hrel
          by_cases hlt : k < m
          · have hkL : k < ss.length := by have := HMM.out; omega
            obtain ⟨g, off, rfl, _, hc⟩ := (HST.out.ext hX.out).at (by intro e; rw [e] at hkL; simp at hkL)
            have c0 := hc k hkL
            clear hc
            obtain ⟨x, hx⟩ : ∃ x, x = ss.getD k [] := ⟨_, rfl⟩
            rw [← hx] at c0
            have hxs : x ∈ ss := by rw [hx, List.getD_eq_getElem?_getD, List.getElem?_eq_getElem hkL]; simp
            clear hx
            have hxl : x.length ≤ 60 := by
              obtain ⟨e, hfe⟩ := Option.isSome_iff_exists.1 ((HSS.out.2.2 x).1 hxs)
              have hge := HF.out.1 x e hfe
              have := right_lens hge.2.1
              rw [← hge.1]; omega
            have HXS := Lib.hid hxs; clear hxs
            have b1 := blk_cell ((HX6.out.trans hX.out).heap HB.out) 0 (Value.map (some b)) rfl
            go_wp2_with (go_at_call 20; refine (HNM.out _ (HX6.out.trans hX.out)).mono ?_; rintro E w7 ⟨ta, tc, tt, rfl, htt, hown, _, hx7⟩; rw [htt.eq HSS.out] at hown; rw [htt.eq HSS.out, ← HMM.out]; have HTT := Lib.hid hown.strs.1; have HX7 := Lib.hid hx7; clear htt hown hx7)
            clear b1 c0
            have HX57 := Lib.hid (HX6.out.trans (hX.out.trans HX7.out))
            go_loopw [12, 68] (fun d i wr => ∃ (j : Nat) (q : Bool), d = .bool q ∧ i = .int .i64 j ∧ j ≤ m ∧ Hid (q = neededB f (ss.take j) x) ∧ Hid (Ext w7 wr)) (fun _ i _ => m - (intOf i).toNat)
            case atStart => exact ⟨0, false, rfl, rfl, Nat.zero_le _, Lib.hid rfl, Lib.hid (Ext.refl _)⟩
            case round =>
              obtain ⟨j, q, rfl, rfl, hj, hQ, hXj⟩ := hrel
              by_cases hjl : j < m
              · have hjL : j < ss.length := by have := HMM.out; omega
                obtain ⟨g, off, rfl, _, hc⟩ := (HTT.out.ext hXj.out).at (by intro e; rw [e] at hjL; simp at hjL)
                have c0 := hc j hjL
                clear hc
                obtain ⟨y, hy⟩ : ∃ y, y = ss.getD j [] := ⟨_, rfl⟩
                rw [← hy] at c0
                have hys : y ∈ ss := by rw [hy, List.getD_eq_getElem?_getD, List.getElem?_eq_getElem hjL]; simp
                obtain ⟨e, hfe⟩ := Option.isSome_iff_exists.1 ((HSS.out.2.2 y).1 hys)
                have hge := HF.out.1 y e hfe
                have hfl := right_lens hge.2.1
                have hyl : y.length ≤ 100000 := by rw [← hge.1]; omega
                have hget := base_get (.agg #[.map (some b)]) N f y wr (HBM.out _ (HX57.out.trans hXj.out)) HF.out.1 hyl
                rw [hfe] at hget
                have hn8 := hfl.2.1
                have HGT := Lib.hid hget; clear hget
                have HFE := Lib.hid hfe; clear hfe
                have HYY := Lib.hid hy; clear hy
                clear hge hfl hys hyl
                have b1 := blk_cell ((HX57.out.trans hXj.out).heap HB.out) 0 (Value.map (some b)) rfl
                go_upto_region 24 with (go_at_call 19; refine HGT.out.mono ?_; rintro E w8 ⟨B8, rfl, hent, _, hx8⟩; obtain ⟨en, ec, ef, eu, ecn, ecc, ecf, ecu⟩ := B8; unfold pkgV; have HEN := Lib.hid hent; have HX8 := Lib.hid hx8; clear hent hx8)
                simp only [Option.getD_some] at HEN ⊢
                clear b1 c0 HGT
                have hx_w9 : Ext w8 (w8.alloc (.cells #[.string (bs e.name), .string (bs e.ver), .slice en e.needs.length ecn, .slice ec e.conf.length ecc, .slice ef e.files.length ecf, .slice eu e.units.length ecu] 37)) := (Ext.alloc _ _)
                have hf_G := heap_alloc_new w8 (.cells #[.string (bs e.name), .string (bs e.ver), .slice en e.needs.length ecn, .slice ec e.conf.length ecc, .slice ef e.files.length ecf, .slice eu e.units.length ecu] 37)
                generalize w8.alloc (.cells #[.string (bs e.name), .string (bs e.ver), .slice en e.needs.length ecn, .slice ec e.conf.length ecc, .slice ef e.files.length ecf, .slice eu e.units.length ecu] 37) = w9 at hx_w9 hf_G ⊢
                obtain ⟨G, h_G⟩ : ∃ x, x = w8.heap.size := ⟨_, rfl⟩
                rw [← h_G] at hf_G
                try rw [← h_G]
                have hs_G : w8.heap.size ≤ G := by omega
                clear h_G
                have n2 := blk_cell hf_G 2 (Value.slice en e.needs.length ecn) rfl
                have HEN9 := Lib.hid (HEN.out.ext hx_w9)
                have HX9 := Lib.hid ((hXj.out.trans HX8.out).trans hx_w9)
                clear hx_w9 hf_G hs_G HEN
                go_wp2_with fail
                clear n2
                go_loopw [12, 81] (fun d i wr => ∃ (t : Nat) (r : Bool), d = .bool r ∧ i = .int .i64 t ∧ t ≤ e.needs.length ∧ Hid (r = (q || (!decide (y = x) && (e.needs.take t).any fun z => decide (z.name = x)))) ∧ Hid (Ext w9 wr)) (fun _ i _ => e.needs.length - (intOf i).toNat)
                case atStart => exact ⟨0, q, rfl, rfl, Nat.zero_le _, Lib.hid (by simp), Lib.hid (Ext.refl _)⟩
                case round =>
                  obtain ⟨t, r, rfl, rfl, ht, hRR, hXt⟩ := hrel
                  by_cases htl : t < e.needs.length
                  · obtain ⟨g2, off2, rfl, _, h1, h2, h3⟩ := (HEN9.out.needs.ext hXt.out).at htl
                    obtain ⟨z, hz⟩ : ∃ z, z = e.needs.getD t nz := ⟨_, rfl⟩
                    rw [← hz] at h1 h2 h3
                    have hstep : (e.needs.take (t + 1)).any (fun z => decide (z.name = x)) = ((e.needs.take t).any (fun z => decide (z.name = x)) || decide (z.name = x)) := by
                      rw [List.take_succ_eq_append_getElem htl, List.any_append, hz]
                      simp [List.getD_eq_getElem?_getD, List.getElem?_eq_getElem htl]
                    clear hz
                    obtain ⟨zn, zw, zv⟩ := z
                    simp only at h1 h2 h3 hstep
                    have HSTEP := Lib.hid hstep; clear hstep
                    go_upto_region 27 with (fail)
                    clear h1 h2 h3
                    have hx_wA : Ext wr (wr.alloc (.cells #[.string (bs zn), .int .i64 zw, .string (bs zv)] 68)) := (Ext.alloc _ _)
                    have hf_H := heap_alloc_new wr (.cells #[.string (bs zn), .int .i64 zw, .string (bs zv)] 68)
                    generalize wr.alloc (.cells #[.string (bs zn), .int .i64 zw, .string (bs zv)] 68) = wA at hx_wA hf_H ⊢
                    obtain ⟨H, h_H⟩ : ∃ x, x = wr.heap.size := ⟨_, rfl⟩
                    rw [← h_H] at hf_H
                    try rw [← h_H]
                    have hs_H : wr.heap.size ≤ H := by omega
                    clear h_H
                    have z0 := blk_cell hf_H 0 (Value.string (bs zn)) rfl
                    have HXA := Lib.hid (hXt.out.trans hx_wA)
                    clear hx_wA hf_H hs_H
                    cases r with
                    | true =>
                      go_wp2_with fail
                      refine ⟨⟨t + 1, true, rfl, by go_num, by omega, Lib.hid ?_, HXA⟩, by simp [intOf]; omega⟩
                      have h := hRR.out
                      rw [HSTEP.out, Bool.and_or_distrib_left, ← Bool.or_assoc, ← h]
                      rfl
                    | false =>
                      by_cases hzx : zn = x
                      · have hq1 := bs_beq_eq hzx
                        by_cases hyx : y = x
                        · have hq2 := bs_beq_eq hyx
                          have HZX := Lib.hid hzx; have HYX := Lib.hid hyx; clear hzx hyx
                          go_wp2_with fail
                          refine ⟨⟨t + 1, false, rfl, by go_num, by omega, Lib.hid ?_, HXA⟩, by simp [intOf]; omega⟩
                          have h := hRR.out
                          rw [decide_eq_true HYX.out] at h ⊢
                          simpa using h
                        · have hq2 := bs_beq_ne hyx
                          have HZX := Lib.hid hzx; have HYX := Lib.hid hyx; clear hzx hyx
                          go_wp2_with fail
                          refine ⟨⟨t + 1, true, rfl, by go_num, by omega, Lib.hid ?_, HXA⟩, by simp [intOf]; omega⟩
                          rw [HSTEP.out, decide_eq_false HYX.out, decide_eq_true HZX.out]
                          simp
                      · have hq1 := bs_beq_ne hzx
                        have HZX := Lib.hid hzx; clear hzx
                        go_wp2_with fail
                        refine ⟨⟨t + 1, false, rfl, by go_num, by omega, Lib.hid ?_, HXA⟩, by simp [intOf]; omega⟩
                        have h := hRR.out
                        rw [HSTEP.out, decide_eq_false HZX.out, Bool.or_false]
                        exact h
                  · obtain rfl : t = e.needs.length := by omega
                    go_wp2_with fail
                    refine ⟨⟨j + 1, r, rfl, by go_num, by omega, Lib.hid ?_, Lib.hid (HX9.out.trans hXt.out)⟩, by simp [intOf]; omega⟩
                    have h := hRR.out
                    rw [List.take_length] at h
                    unfold neededB
                    rw [List.take_succ_eq_append_getElem hjL, List.any_append, h, hQ.out]
                    have e1 : ss[j] = y := by rw [HYY.out]; simp [List.getD_eq_getElem?_getD, List.getElem?_eq_getElem hjL]
                    rw [e1]
                    simp only [List.any_cons, List.any_nil, Bool.or_false]
                    rw [HFE.out]
                    rfl
              · obtain rfl : j = m := by omega
                have hq := hQ.out
                rw [List.take_of_length_le (by have := HMM.out; omega)] at hq
                have HQ2 := Lib.hid hq; clear hq hQ
                have b1 := blk_cell ((HX57.out.trans hXj.out).heap HB.out) 0 (Value.map (some b)) rfl
                have hst := fun W (h : W = wr.alloc (.cells #[.string (bs x)] 9)) => after_held b N f A (⟨[], [x]⟩, ⟨none, 0, some ⟨wr.heap.size, 0, none⟩, 1⟩) W (by rw [h]; exact HE.out.ext (HX5.out.trans (HX57.out.trans (hXj.out.trans (Ext.alloc _ _))))) (by rw [h]; exact HM.out.ext (HX57.out.trans (hXj.out.trans (Ext.alloc _ _)))) HF.out ⟨Or.inl rfl, by
                    rw [h]
                    refine Or.inr ⟨wr.heap.size, 0, rfl, by simp, fun i hi => ?_⟩
                    have : i = 0 := by simpa using hi
                    subst this
                    exact cell_new wr _ _ 0 _ rfl, by simp, by simp, by simp, by simp⟩ ⟨by simp, by intro s hs; simp only [List.mem_singleton] at hs; subst hs; exact hxl, by simp⟩ (by omega)
                have HSTT := Lib.hid hst; clear hst
                go_upto_region 31 with (go_at_call 24; refine (HSTT.out _ rfl).mono ?_; rintro E wA ⟨hxA, pm, y, rfl, hor⟩; obtain ⟨y1, y2, y3⟩ := y; unfold faultV; have HXA := Lib.hid ((Ext.alloc wr _).trans hxA); have HOR := Lib.hid hor; clear hxA hor)
                try simp only at HOR ⊢
                clear b1 HSTT
                have hx_wB : Ext wA ((wA.alloc (.cells #[.map pm] 42)).alloc (.cells #[.int .i64 (y1 : Int), .string (bs y2), .string (bs y3)] 63)) := ((Ext.alloc _ _).trans (Ext.alloc _ _))
                have hf_P := (Ext.alloc (wA.alloc (.cells #[.map pm] 42)) (.cells #[.int .i64 (y1 : Int), .string (bs y2), .string (bs y3)] 63)).heap (heap_alloc_new wA (.cells #[.map pm] 42))
                have hf_Q := heap_alloc_new (wA.alloc (.cells #[.map pm] 42)) (.cells #[.int .i64 (y1 : Int), .string (bs y2), .string (bs y3)] 63)
                simp only [World.size_alloc] at hf_Q
                generalize (wA.alloc (.cells #[.map pm] 42)).alloc (.cells #[.int .i64 (y1 : Int), .string (bs y2), .string (bs y3)] 63) = wB at hx_wB hf_P hf_Q ⊢
                obtain ⟨P, h_P⟩ : ∃ x, x = wA.heap.size := ⟨_, rfl⟩
                obtain ⟨Q, h_Q⟩ : ∃ x, x = wA.heap.size + 1 := ⟨_, rfl⟩
                rw [← h_Q] at hf_Q
                rw [← h_P] at hf_P
                try rw [← h_Q, ← h_P]
                have hs_P : wA.heap.size ≤ P := by omega
                have hs_Q : wA.heap.size ≤ Q := by omega
                clear h_P h_Q
                have e0 := blk_cell hf_Q 0 (Value.int .i64 (y1 : Int)) rfl
                have HXB := Lib.hid (hX.out.trans (HX7.out.trans (hXj.out.trans (HXA.out.trans hx_wB))))
                clear hx_wB hf_P hf_Q hs_P hs_Q
                have hgo := go_ok HF.out HSS.out HXS.out
                rw [← neededB_iff] at hgo
                have hq1 : ((((y1 : Nat) : Int) == 0) == q) = false := by
                  rw [HQ2.out]
                  rcases HOR.out with ⟨h, hno, _⟩ | ⟨h, hok, _⟩
                  · have e1 : (((y1 : Nat) : Int) == 0) = false := by rw [beq_eq_false_iff_ne]; omega
                    have e2 : neededB f ss x = true := by
                      cases hnb : neededB f ss x
                      · exact absurd (hgo.2 (by rw [hnb]; simp)) hno
                      · rfl
                    rw [e1, e2]; rfl
                  · have e1 : (((y1 : Nat) : Int) == 0) = true := by
                      have : y1 = 0 := congrArg FaultD.code h
                      rw [beq_iff_eq]; omega
                    have e2 : neededB f ss x = false := by
                      have := hgo.1 hok
                      simpa using this
                    rw [e1, e2]; rfl
                clear hgo
                go_wp2_with fail
                exact ⟨⟨k + 1, by go_num, by omega, HXB⟩, by simp [intOf]; omega⟩
          · go_wp2_with fail
            rw [HR.out]
            exact ⟨rfl, HX5.out.trans (HX6.out.trans hX.out)⟩
end Go.Proofs.YtnclibfhbngkjaaGreatDoor
