/- The walk of farrierlaw12.DepHolds. -/
import Derived.Test.YtnclibfhbngkjaaGreatDoorDepCount
import Derived.Test.YtnclibfhbngkjaaGreatDoorDepAlive
namespace Go.Proofs.YtnclibfhbngkjaaGreatDoor
open Go.RowKit
attribute [local go_sem ↓] Go.wp_at_zero Go.wp_at_succ
theorem FilesE.keep_map {w w' : World} {B : Nat} {es : Array MapEntry} {cl : Nat} {a : Option Addr} {L : List FileD} (h : FilesE w a L) (k : Keep (· ≠ B) w w') (hB : w.heap[B]? = some (.map es cl)) : FilesE w' a L :=
  (EntM.keep_map (p := ⟨[], [], [], [], L, []⟩) (A := ⟨none, none, a, none, 0, 0, 0, 0⟩) ⟨Or.inl rfl, Or.inl rfl, h, Or.inl rfl⟩ k hB).files
theorem ext_apart {p q : By} (h : q ≠ p ++ 47 :: q.drop (p.length + 1)) : (((bs q).extract 0 ((bs p).size + 1)).toList == (bs p ++ ⟨#[47]⟩).toList) = false := by
  have e1 : ((bs q).extract 0 ((bs p).size + 1)).toList = q.take (p.length + 1) := by
    rw [extract_bs, bs_toList, bs_data, bs_size]
    simp
  have e2 : (bs p ++ ⟨#[47]⟩ : ByteArray).toList = p ++ [47] := by
    rw [show (⟨#[47]⟩ : ByteArray) = bs [47] from rfl, bs_append, bs_toList]
  rw [e1, e2, beq_eq_false_iff_ne]
  intro e
  apply h
  have := List.take_append_drop (p.length + 1) q
  rw [e] at this
  rw [List.append_assoc] at this
  exact this.symm
theorem path_len {p : PkgD} (h : rightP p = true) {g : FileD} (hg : g ∈ p.files) : g.path.length ≤ 100000 := by
  unfold rightP at h
  simp only [Bool.and_eq_true] at h
  have := filesTo_all h.2.2.2.2
  rw [List.take_length] at this
  have := this g hg
  unfold fileR at this
  simp only [Bool.and_eq_true] at this
  exact (Nat.le_trans (rightL_40 this.1) (by omega))
theorem paths_len {f : BaseF} {ss : List By} (hf : GoodF f) (h : NamesF f ss) {p : By} (hp : p ∈ pathsF f ss) : p.length ≤ 100000 := Nat.le_trans (rightL_40 (paths_right hf h hp)) (by omega)
set_option maxRecDepth 100000 in
set_option maxHeartbeats 25600000 in
/-- Of packages that may be there together the needs are met, and no two have the same file. -/
theorem dep_holds (a : Option Addr) (c : Nat) (L : List (ChD × ChA)) (w : World) (hE : EnvN w) (hL : ChL w a L) (hl : L.length ≤ 4398046511104) :
    Calls Tryz.prog 5 #[.slice a L.length c] w fun e w' => e = .returned (.bool true) ∧ Ext w w' := by
  obtain ⟨R, hR⟩ : ∃ R : Ending → World → Prop, R = fun e w' => e = .returned (.bool true) ∧ Ext w w' := ⟨_, rfl⟩
  rw [← hR]
  have HR := Lib.hid hR; clear hR
  have HL := Lib.hid hL; clear hL
  have HE := Lib.hid hE; clear hE
  have hsm := fun W (k : Ext w W) => dep_small a c L W (HL.out.ext k) hl
  unfold SmallsR at hsm
  obtain ⟨n, hn⟩ : ∃ n, n = L.length := ⟨_, rfl⟩
  rw [← hn] at hl hsm ⊢
  have HN := Lib.hid hn; clear hn
  cases hb : smallAll L with
  | false =>
    rw [hb] at hsm
    simp only [Bool.false_eq_true, if_false] at hsm
    have HSM := Lib.hid hsm; clear hsm
    go_enter Tryz.func5, Tryz.ntmps5
    go_wp2_with (first
      | (go_at_call 22; refine (alive12 _ HE.out).mono ?_; rintro E w1 ⟨rfl, hx1⟩; have HX1 := Lib.hid hx1; clear hx1)
      | (go_at_call 23; refine (HSM.out _ HX1.out).mono ?_; rintro E w2 ⟨rfl, hx2⟩; have HX2 := Lib.hid hx2; clear hx2))
    rw [HR.out]
    exact ⟨rfl, HX1.out.trans HX2.out⟩
  | true =>
    rw [hb] at hsm
    simp only [if_true] at hsm
    have HSM := Lib.hid hsm; clear hsm
    have HSA := Lib.hid hb; clear hb
    go_enter Tryz.func5, Tryz.ntmps5
    go_upto_region 6 with (first
      | (go_at_call 22; refine (alive12 _ HE.out).mono ?_; rintro E w1 ⟨rfl, hx1⟩; have HX1 := Lib.hid hx1; clear hx1)
      | (go_at_call 23; refine (HSM.out _ HX1.out).mono ?_; rintro E w2 ⟨rfl, hx2⟩; have HX2 := Lib.hid hx2; clear hx2)
      | (go_at_call 13; refine (ex_new _).mono ?_; rintro E w3 ⟨⟨b0, A0, rfl, hm⟩, hx3⟩; have HM0 := Lib.hid hm; have HX3 := Lib.hid hx3; clear hm hx3))
    have hx_w4 : Ext w3 (w3.alloc (.cells #[.map (some b0)] 42)) := (Ext.alloc _ _)
    have hf_B := heap_alloc_new w3 (.cells #[.map (some b0)] 42)
    generalize w3.alloc (.cells #[.map (some b0)] 42) = w4 at hx_w4 hf_B ⊢
    obtain ⟨B, h_B⟩ : ∃ x, x = w3.heap.size := ⟨_, rfl⟩
    rw [← h_B] at hf_B
    try rw [← h_B]
    have hs_B : w3.heap.size ≤ B := by omega
    clear h_B
    have HX4 := Lib.hid ((HX1.out.trans (HX2.out.trans HX3.out)).trans hx_w4)
    have HBL : Hid (w.heap.size ≤ B) := Lib.hid (Nat.le_trans (HX1.out.trans (HX2.out.trans HX3.out)).size hs_B)
    have hH4 : HoldAt w4 B 0 := ⟨b0, noneF, A0, hf_B, HM0.out.ext hx_w4, held_none⟩
    have HH4 := Lib.hid hH4; clear hH4 hf_B hx_w4 hs_B
    go_wp2_with fail
    go_loopw [34] (fun i wr => ∃ k : Nat, i = .int .i64 k ∧ k ≤ n ∧ Hid (HoldAt wr B (sumCh (L.take k))) ∧ Hid (Ext w wr)) (fun i _ => n - (intOf i).toNat)
    case atStart => exact ⟨0, rfl, Nat.zero_le _, HH4, HX4⟩
    case round =>
      obtain ⟨k, rfl, hk, hH, hX⟩ := hrel
      by_cases hlt : k < n
      · have hkL : k < L.length := by have := HN.out; omega
        obtain ⟨g, off, rfl, _, ⟨c0, c1⟩, hm⟩ := (HL.out.ext hX.out).at hkL
        have hsc := smallAll_c HSA.out hkL
        have hsl : sumCh (L.take k) ≤ 60 := Nat.le_trans (sumCh_all L k) (smallAll_sum HSA.out)
        have hst := setCh_take hkL
        have hsk := sumCh_mono L (j := k) (k := k + 1) (by omega)
        obtain ⟨x, hx⟩ : ∃ x, x = L.getD k cz := ⟨_, rfl⟩
        rw [← hx] at c0 c1 hm hsc hst
        clear hx
        obtain ⟨⟨come, go⟩, ⟨ca, cc, ga, gc⟩⟩ := x
        simp only at c0 c1
        have HM := Lib.hid hm; clear hm
        have HSC := Lib.hid hsc; clear hsc
        have HST := Lib.hid hst; clear hst
        have HSK := Lib.hid hsk; clear hsk
        go_upto_region 9 with (fail)
        clear c0 c1
        have hx_w5 : Ext wr (wr.alloc (.cells #[.slice ca come.length cc, .slice ga go.length gc] 61)) := (Ext.alloc _ _)
        have hf_F := heap_alloc_new wr (.cells #[.slice ca come.length cc, .slice ga go.length gc] 61)
        generalize wr.alloc (.cells #[.slice ca come.length cc, .slice ga go.length gc] 61) = w5 at hx_w5 hf_F ⊢
        obtain ⟨F, h_F⟩ : ∃ x, x = wr.heap.size := ⟨_, rfl⟩
        rw [← h_F] at hf_F
        try rw [← h_F]
        have hs_F : wr.heap.size ≤ F := by omega
        clear h_F
        obtain ⟨b, f, A, hB, hM, hF⟩ := hH.out
        have b0 := blk_cell (hx_w5.heap hB) 0 (Value.map (some b)) rfl
        have d0 := blk_cell hf_F 0 (Value.slice ca come.length cc) rfl
        have d1 := blk_cell hf_F 1 (Value.slice ga go.length gc) rfl
        have haf := after_held b (sumCh (L.take k)) f A (⟨come, go⟩, ⟨ca, cc, ga, gc⟩) w5 (HE.out.ext (hX.out.trans hx_w5)) (hM.ext hx_w5) hF (HM.out.ext hx_w5) HSC.out (by omega)
        have HAF := Lib.hid haf; clear haf
        have HFB := Lib.hid hf_F; clear hf_F
        have HB := Lib.hid hB; clear hB
        have HX5 := Lib.hid hx_w5; clear hx_w5
        clear hM hs_F
        go_upto_region 10 with (go_at_call 24; refine HAF.out.mono ?_; rintro E w6 ⟨hx6, pm, y, rfl, hor⟩; obtain ⟨y1, y2, y3⟩ := y; unfold faultV; have HX6 := Lib.hid hx6; have HOR := Lib.hid hor; clear hx6 hor)
        try simp only at HOR ⊢
        clear b0 d0 d1 HAF
        have hx_w7 : Ext w6 ((w6.alloc (.cells #[.map pm] 42)).alloc (.cells #[.int .i64 (y1 : Int), .string (bs y2), .string (bs y3)] 63)) := ((Ext.alloc _ _).trans (Ext.alloc _ _))
        have hf_P := (Ext.alloc (w6.alloc (.cells #[.map pm] 42)) (.cells #[.int .i64 (y1 : Int), .string (bs y2), .string (bs y3)] 63)).heap (heap_alloc_new w6 (.cells #[.map pm] 42))
        have hf_Q := heap_alloc_new (w6.alloc (.cells #[.map pm] 42)) (.cells #[.int .i64 (y1 : Int), .string (bs y2), .string (bs y3)] 63)
        simp only [World.size_alloc] at hf_Q
        generalize (w6.alloc (.cells #[.map pm] 42)).alloc (.cells #[.int .i64 (y1 : Int), .string (bs y2), .string (bs y3)] 63) = w7 at hx_w7 hf_P hf_Q ⊢
        obtain ⟨P, h_P⟩ : ∃ x, x = w6.heap.size := ⟨_, rfl⟩
        obtain ⟨Q, h_Q⟩ : ∃ x, x = w6.heap.size + 1 := ⟨_, rfl⟩
        rw [← h_Q] at hf_Q
        rw [← h_P] at hf_P
        try rw [← h_Q, ← h_P]
        have hs_P : w6.heap.size ≤ P := by omega
        have hs_Q : w6.heap.size ≤ Q := by omega
        clear h_P h_Q
        have e0 := blk_cell hf_Q 0 (Value.int .i64 (y1 : Int)) rfl
        have HFP := Lib.hid hf_P; clear hf_P
        have HFQ := Lib.hid hf_Q; clear hf_Q
        have HX7 := Lib.hid (HX5.out.trans (HX6.out.trans hx_w7))
        have HX67 := Lib.hid hx_w7; clear hx_w7 hs_P hs_Q
        by_cases h0 : y1 = 0
        · have hd : (((y1 : Nat) : Int) == 0) = true := by rw [beq_iff_eq]; omega
          have hd' : (((y1 : Nat) : Int) != 0) = false := by rw [bne_eq_false_iff_eq]; omega
          obtain ⟨hok, b2, A2, rfl, hM2⟩ : AfterOK f (comeL (⟨come, go⟩, ⟨ca, cc, ga, gc⟩)) go ∧ ∃ b2 A2, pm = some b2 ∧ EntsM w6 b2 (sumCh (L.take k) + (comeL (⟨come, go⟩, ⟨ca, cc, ga, gc⟩)).length) (outF f (comeL (⟨come, go⟩, ⟨ca, cc, ga, gc⟩)) go) A2 := by
            rcases HOR.out with ⟨h, _⟩ | ⟨_, h1, h2⟩
            · exact absurd h0 h
            · exact ⟨h1, h2⟩
          have HOK := Lib.hid hok; clear hok
          have HM2 := Lib.hid hM2; clear hM2 h0
          have hBB := HX7.out.heap HB.out
          have b1 := blk_cell hBB 0 (Value.map (some b)) rfl
          have b2f := blk_free hBB 0
          have p0 := blk_cell HFP.out 0 (Value.map (some b2)) rfl
          clear e0
          have hHn : HoldAt (w7.setCell ⟨B, 0, none⟩ (.map (some b2))) B (sumCh (L.take (k + 1))) := HoldAt.set hBB ((HM2.out.ext HX67.out).mono HST.out) HOK.out.2
          have HHN := Lib.hid hHn; clear hHn hBB
          have e0 := blk_cell HFQ.out 0 (Value.int .i64 (y1 : Int)) rfl
          go_wp2_with fail
          exact ⟨⟨k + 1, by go_num, by omega, HHN, Lib.hid (set_ext (hX.out.trans HX7.out) HBL.out)⟩, by simp [intOf]; omega⟩
        · have hd : (((y1 : Nat) : Int) == 0) = false := by rw [beq_eq_false_iff_ne]; omega
          have hd' : (((y1 : Nat) : Int) != 0) = true := by rw [bne_iff_ne]; omega
          clear h0
          go_wp2_with fail
          exact ⟨⟨k + 1, by go_num, by omega, Lib.hid ((hH.out.ext HX7.out).mono HSK.out), Lib.hid (hX.out.trans HX7.out)⟩, by simp [intOf]; omega⟩
      · obtain rfl : k = n := by omega
        obtain ⟨b, f, A, hB, hM, hF⟩ := hH.out
        have hN60 : sumCh (L.take k) ≤ 60 := Nat.le_trans (sumCh_all L k) (smallAll_sum HSA.out)
        obtain ⟨N, hNN⟩ : ∃ N, N = sumCh (L.take k) := ⟨_, rfl⟩
        rw [← hNN] at hM hN60
        clear hNN hH hlt hk hl
        obtain ⟨w5, rfl⟩ : ∃ w5 : World, w5 = wr := ⟨_, rfl⟩
        have hbm : ∀ W, Ext w5 W → BaseM W (.agg #[.map (some b)]) N f := fun W k => Or.inr ⟨b, A, rfl, hM.ext k⟩
        have HBM := Lib.hid hbm; clear hbm
        have hxa := Ext.alloc w5 (.map #[] 0)
        have hma := MapF.made keyS w5 9
        have hnm := base_names (.agg #[.map (some b)]) N f (w5.alloc (.map #[] 0)) (HBM.out _ hxa) (by omega)
        have b1 := blk_cell (hxa.heap hB) 0 (Value.map (some b)) rfl
        obtain ⟨M0, hM0⟩ : ∃ x, x = w5.heap.size := ⟨_, rfl⟩
        have HB := Lib.hid hB; clear hB
        have HF := Lib.hid hF; clear hF
        have HX5 := hX; clear hX hM
        have HXA := Lib.hid hxa; clear hxa
        have HMA := Lib.hid hma; clear hma
        have HNM := Lib.hid hnm; clear hnm
        have hmk := @run_makeMap Tryz.prog
        go_wp2_with (go_at_call 20; refine HNM.out.mono ?_; rintro E w6 ⟨sa, sc, ss, rfl, hss, hown, hsl, hx6⟩; have HSS := Lib.hid hss; have HOW := Lib.hid hown; have HX6 := Lib.hid hx6; clear hss hown hx6)
        clear hmk
        obtain ⟨m, hmm⟩ : ∃ m, m = ss.length := ⟨_, rfl⟩
        rw [← hmm] at hsl ⊢
        have HMM := Lib.hid hmm; clear hmm
        clear b1
        have hma6 : MapF keyS w6 9 M0 0 (cntF []) := by
          rw [hM0]
          exact (HMA.out.ext HX6.out).same (by funext x; simp [cntF])
        have how6 : OwnS w6 (M0 + 1) sa sc ss := by
          have h := HOW.out
          rw [World.size_alloc, ← hM0] at h
          exact h
        rw [← hM0]
        have HM0 := Lib.hid hM0; clear hM0
        have HMA6 := Lib.hid hma6; clear hma6
        have HOW6 := Lib.hid how6; clear how6
        have HX6A := Lib.hid (HXA.out.trans HX6.out)
        go_loopw [53] (fun i wr => ∃ k : Nat, i = .int .i64 k ∧ k ≤ m ∧ Hid (MapF keyS wr 9 M0 (12 * k) (cntF (pathsF f (ss.take k)))) ∧ Hid (OwnS wr (M0 + 1) sa sc ss) ∧ Hid (Ext w5 wr)) (fun i _ => m - (intOf i).toNat)
        case atStart => exact ⟨0, rfl, Nat.zero_le _, HMA6, HOW6, HX6A⟩
        case round =>
          obtain ⟨k, rfl, hk, hMP, hOW, hX⟩ := hrel
          by_cases hlt : k < m
          · have hkL : k < ss.length := by have := HMM.out; omega
            obtain ⟨g, off, rfl, _, hc⟩ := (hOW.out.strs.1).at (by intro e; rw [e] at hkL; simp at hkL)
            have c0 := hc k hkL
            clear hc
            obtain ⟨x, hx⟩ : ∃ x, x = ss.getD k [] := ⟨_, rfl⟩
            rw [← hx] at c0
            have hxs : x ∈ ss := by rw [hx, List.getD_eq_getElem?_getD, List.getElem?_eq_getElem hkL]; simp
            have HXE := Lib.hid hx; clear hx
            obtain ⟨e, hfe⟩ := Option.isSome_iff_exists.1 ((HSS.out.2.2 x).1 hxs)
            have hge := HF.out.1 x e hfe
            have hfl := right_lens hge.2.1
            have hxl : x.length ≤ 100000 := by rw [← hge.1]; omega
            have hget := base_get (.agg #[.map (some b)]) N f x wr (HBM.out _ hX.out) HF.out.1 hxl
            rw [hfe] at hget
            have hck := (HF.out.ok HSS.out).2.1 x hxs
            rw [hfe] at hck
            simp only [Option.getD_some] at hck
            have HRT := Lib.hid hge.2.1
            have HCK := Lib.hid hck; clear hck
            have hn8 := hfl.2.1
            have hc8 := hfl.2.2.1
            have hf8 := hfl.2.2.2.1
            have HGT := Lib.hid hget; clear hget
            have HFE := Lib.hid hfe; clear hfe
            clear hge hfl hxs hxl
            have b1 := blk_cell (hX.out.heap HB.out) 0 (Value.map (some b)) rfl
            go_upto_region 18 with (go_at_call 19; refine HGT.out.mono ?_; rintro E w8 ⟨B8, rfl, hent, _, hx8⟩; obtain ⟨en, ec, ef, eu, ecn, ecc, ecf, ecu⟩ := B8; unfold pkgV; have HEN := Lib.hid hent; have HX8 := Lib.hid hx8; clear hent hx8)
            simp only [Option.getD_some] at HEN ⊢
            clear b1 c0 HGT
            have hx_w9 : Ext w8 (w8.alloc (.cells #[.string (bs e.name), .string (bs e.ver), .slice en e.needs.length ecn, .slice ec e.conf.length ecc, .slice ef e.files.length ecf, .slice eu e.units.length ecu] 37)) := (Ext.alloc _ _)
            have hf_G := heap_alloc_new w8 (.cells #[.string (bs e.name), .string (bs e.ver), .slice en e.needs.length ecn, .slice ec e.conf.length ecc, .slice ef e.files.length ecf, .slice eu e.units.length ecu] 37)
            generalize w8.alloc (.cells #[.string (bs e.name), .string (bs e.ver), .slice en e.needs.length ecn, .slice ec e.conf.length ecc, .slice ef e.files.length ecf, .slice eu e.units.length ecu] 37) = w9 at hx_w9 hf_G ⊢
            obtain ⟨G, h_G⟩ : ∃ x, x = w8.heap.size := ⟨_, rfl⟩
            rw [← h_G] at hf_G
            try rw [← h_G]
            have hs_G : w8.heap.size ≤ G := by omega
            clear h_G
            have HG9 := Lib.hid hf_G
            have n2 := blk_cell hf_G 2 (Value.slice en e.needs.length ecn) rfl
            have HEN9 := Lib.hid (HEN.out.ext hx_w9)
            have HX9 := Lib.hid (HX8.out.trans hx_w9)
            clear hx_w9 hf_G hs_G HEN
            go_wp2_with fail
            clear n2
            go_loopw [66] (fun i wr => ∃ t : Nat, i = .int .i64 t ∧ t ≤ e.needs.length ∧ Hid (Ext w9 wr)) (fun i _ => e.needs.length - (intOf i).toNat)
            case atStart => exact ⟨0, rfl, Nat.zero_le _, Lib.hid (Ext.refl _)⟩
            case round =>
              obtain ⟨t, rfl, ht, hXt⟩ := hrel
              by_cases htl : t < e.needs.length
              · obtain ⟨g2, off2, rfl, _, h1, h2, h3⟩ := (HEN9.out.needs.ext hXt.out).at htl
                have hnl := need_len HRT.out htl
                obtain ⟨z, hz⟩ : ∃ z, z = e.needs.getD t nz := ⟨_, rfl⟩
                rw [← hz] at h1 h2 h3 hnl
                have hnb : needBad f z = false := HCK.out.1 z (by rw [hz, List.getD_eq_getElem?_getD, List.getElem?_eq_getElem htl]; simp)
                clear hz
                obtain ⟨zn, zw, zv⟩ := z
                simp only at h1 h2 h3 hnl
                have hsome : (f zn).isSome = true := by
                  unfold needBad at hnb
                  cases hq : f zn
                  · simp [hq] at hnb
                  · rfl
                clear hnb
                have how := fun W (k : Ext wr W) => base_get (.agg #[.map (some b)]) N f zn W (HBM.out _ (hX.out.trans (HX9.out.trans (hXt.out.trans k)))) HF.out.1 hnl.1
                rw [hsome] at how
                obtain ⟨y, hy⟩ : ∃ y, y = (f zn).getD pz := ⟨_, rfl⟩
                rw [← hy] at how
                have HOWG := Lib.hid how; clear how hnl hsome hy
                go_upto_region 21 with (fail)
                clear h1 h2 h3
                have hx_wA : Ext wr (wr.alloc (.cells #[.string (bs zn), .int .i64 zw, .string (bs zv)] 68)) := (Ext.alloc _ _)
                have hf_H := heap_alloc_new wr (.cells #[.string (bs zn), .int .i64 zw, .string (bs zv)] 68)
                generalize wr.alloc (.cells #[.string (bs zn), .int .i64 zw, .string (bs zv)] 68) = wA at hx_wA hf_H ⊢
                obtain ⟨H, h_H⟩ : ∃ x, x = wr.heap.size := ⟨_, rfl⟩
                rw [← h_H] at hf_H
                try rw [← h_H]
                have hs_H : wr.heap.size ≤ H := by omega
                clear h_H
                have z0 := blk_cell hf_H 0 (Value.string (bs zn)) rfl
                have HXA1 := Lib.hid hx_wA
                have HXT := Lib.hid (hXt.out.trans hx_wA)
                have b1 := blk_cell ((hX.out.trans (HX9.out.trans HXT.out)).heap HB.out) 0 (Value.map (some b)) rfl
                clear hx_wA hf_H hs_H
                go_wp2_with (go_at_call 19; refine (HOWG.out _ HXA1.out).mono ?_; rintro E wB ⟨B8, rfl, _, _, hx8⟩; obtain ⟨bn, bc, bf, bu, dn, dc, df, du⟩ := B8; unfold pkgV; have HXB := Lib.hid hx8; clear hx8)
                exact ⟨⟨t + 1, by go_num, by omega, Lib.hid (HXT.out.trans (HXB.out.trans (Ext.alloc _ _)))⟩, by simp [intOf]; omega⟩
              · obtain rfl : t = e.needs.length := by omega
                have n3 := blk_cell (hXt.out.heap HG9.out) 3 (Value.slice ec e.conf.length ecc) rfl
                go_wp2_with fail
                clear n3
                obtain ⟨wo, rfl⟩ : ∃ wo : World, wo = wr := ⟨_, rfl⟩
                go_loopw [83] (fun i wr => ∃ t : Nat, i = .int .i64 t ∧ t ≤ e.conf.length ∧ Hid (Ext w9 wr)) (fun i _ => e.conf.length - (intOf i).toNat)
                case atStart => exact ⟨0, rfl, Nat.zero_le _, hXt⟩
                case round =>
                  obtain ⟨t, rfl, ht2, hXc⟩ := hrel
                  by_cases htl : t < e.conf.length
                  · obtain ⟨g2, off2, rfl, _, hcs⟩ := (HEN9.out.conf.ext hXc.out).at (by intro h; rw [h] at htl; simp at htl)
                    have a0 := hcs t htl
                    clear hcs
                    have hcl := conf_len HRT.out htl
                    obtain ⟨z, hz⟩ : ∃ z, z = e.conf.getD t [] := ⟨_, rfl⟩
                    rw [← hz] at a0 hcl
                    have hno : (f z).isSome = false := HCK.out.2 z (by rw [hz, List.getD_eq_getElem?_getD, List.getElem?_eq_getElem htl]; simp)
                    clear hz
                    have how := base_get (.agg #[.map (some b)]) N f z wr (HBM.out _ (hX.out.trans (HX9.out.trans hXc.out))) HF.out.1 hcl
                    rw [hno] at how
                    obtain ⟨y, hy⟩ : ∃ y, y = (f z).getD pz := ⟨_, rfl⟩
                    rw [← hy] at how
                    have HOWG := Lib.hid how; clear how hcl hno hy
                    have b1 := blk_cell ((hX.out.trans (HX9.out.trans hXc.out)).heap HB.out) 0 (Value.map (some b)) rfl
                    go_wp2_with (go_at_call 19; refine HOWG.out.mono ?_; rintro E wB ⟨B8, rfl, _, _, hx8⟩; obtain ⟨bn, bc, bf, bu, dn, dc, df, du⟩ := B8; unfold pkgV; have HXB := Lib.hid hx8; clear hx8)
                    exact ⟨⟨t + 1, by go_num, by omega, Lib.hid (hXc.out.trans (HXB.out.trans (Ext.alloc _ _)))⟩, by simp [intOf]; omega⟩
                  · obtain rfl : t = e.conf.length := by omega
                    have n4 := blk_cell (hXc.out.heap HG9.out) 4 (Value.slice ef e.files.length ecf) rfl
                    have hmp := hMP.out.ext (HX9.out.trans hXc.out)
                    have how := hOW.out.ext (HX9.out.trans hXc.out)
                    have hfm := HEN9.out.files.ext hXc.out
                    have hxw := hX.out.trans (HX9.out.trans hXc.out)
                    have HMP2 := Lib.hid hmp
                    have HOW2 := Lib.hid how
                    have HFM2 := Lib.hid hfm
                    have HXW2 := Lib.hid hxw
                    clear hmp how hfm hxw
                    go_wp2_with fail
                    clear n4
                    obtain ⟨wf, rfl⟩ : ∃ wf : World, wf = wr := ⟨_, rfl⟩
                    go_loopw [98] (fun i wr => ∃ t : Nat, i = .int .i64 t ∧ t ≤ e.files.length ∧ Hid (MapF keyS wr 9 M0 (12 * k + t) (cntF (pathsF f (ss.take k) ++ (e.files.take t).map FileD.path))) ∧ Hid (OwnS wr (M0 + 1) (some ⟨g, off, none⟩) sc ss) ∧ Hid (FilesE wr ef e.files) ∧ Hid (Ext w5 wr)) (fun i _ => e.files.length - (intOf i).toNat)
                    case atStart => exact ⟨0, rfl, Nat.zero_le _, by simpa using HMP2, HOW2, HFM2, HXW2⟩
                    case round =>
                      obtain ⟨t, rfl, ht3, hMPt, hOWt, hFMt, hXf⟩ := hrel
                      by_cases htl : t < e.files.length
                      · obtain ⟨g2, off2, rfl, _, h1, h2, h3⟩ := hFMt.out.at htl
                        obtain ⟨z, hz⟩ : ∃ z, z = e.files.getD t fz := ⟨_, rfl⟩
                        rw [← hz] at h1 h2 h3
                        have hpl : z.path.length ≤ 100000 := path_len HRT.out (by rw [hz, List.getD_eq_getElem?_getD, List.getElem?_eq_getElem htl]; simp)
                        have HZ := Lib.hid hz; clear hz
                        obtain ⟨zp, zc, zd⟩ := z
                        simp only at h1 h2 h3 hpl
                        go_upto_region 35 with (fail)
                        clear h1 h2 h3
                        have hx_wA : Ext wr (wr.alloc (.cells #[.string (bs zp), .bool zc, .int .u32 (le32 zd : Nat)] 71)) := (Ext.alloc _ _)
                        have hf_H := heap_alloc_new wr (.cells #[.string (bs zp), .bool zc, .int .u32 (le32 zd : Nat)] 71)
                        generalize wr.alloc (.cells #[.string (bs zp), .bool zc, .int .u32 (le32 zd : Nat)] 71) = wA at hx_wA hf_H ⊢
                        obtain ⟨H, h_H⟩ : ∃ x, x = wr.heap.size := ⟨_, rfl⟩
                        rw [← h_H] at hf_H
                        try rw [← h_H]
                        have hs_H : wr.heap.size ≤ H := by omega
                        clear h_H
                        have z0 := blk_cell hf_H 0 (Value.string (bs zp)) rfl
                        have hmpa := hMPt.out.ext hx_wA
                        have HFMA := Lib.hid (hFMt.out.ext hx_wA)
                        have HOWA := Lib.hid (hOWt.out.ext hx_wA)
                        have HXFA := Lib.hid (hXf.out.trans hx_wA)
                        have hkey := key_by hpl
                        obtain ⟨D, hD⟩ : ∃ D, D = pathsF f (ss.take k) ++ (e.files.take t).map FileD.path := ⟨_, rfl⟩
                        rw [← hD] at hmpa
                        have HD := Lib.hid hD; clear hD
                        have hwrap : IntKind.i64.wrap (((D.count zp : Nat) : Int) + 1) = ((D.count zp : Nat) : Int) + 1 := by
                          have h1 := List.count_le_length (a := zp) (l := D)
                          have h2 := pathsF_len HF.out.1 (ss.take k) (fun y hy => (HSS.out.2.2 y).1 (List.mem_of_mem_take hy))
                          have h3 : D.length ≤ 12 * m + 12 := by
                            rw [HD.out, List.length_append, List.length_map, List.length_take]
                            have := List.length_take_le k ss
                            omega
                          exact IntWalk.i64_in _ (by omega)
                        have HMPA := Lib.hid hmpa
                        clear hx_wA hf_H hs_H
                        obtain ⟨wB, hrun, hmB, hkB⟩ := hmpa.store (t := 66) str_keyed Tryz.underlying66 (by unfold maxLen; omega) keyS_inj (.int .i64 (((D.count zp : Nat) : Int) + 1)) hkey
                        obtain ⟨es, cl, hblk⟩ := hmpa.block
                        have HMB := Lib.hid hmB; have HKB := Lib.hid hkB; have HBLK := Lib.hid hblk
                        clear hmB hkB hblk
                        go_wp2_with (first
                          | (at_lookup; refine wpList_look_F rfl _ _ 66 rfl 3 str_keyed Tryz.underlying66 _ (Tryz.zeroValue3 _) M0 (12 * k + t) (cntF D) rfl hmpa _ zp rfl hkey ?_; rw [cntF_get]; go_frame)
                          | go_in)
                        refine ⟨⟨t + 1, by go_num, by omega, Lib.hid (HMB.out.same ?_), Lib.hid (ownsRow_keep HOWA.out HKB.out (fun g _ _ hb _ => by show g ≠ M0; omega)), Lib.hid (HFMA.out.keep_map HKB.out HBLK.out), Lib.hid ?_⟩, by simp [intOf]; omega⟩
                        · rw [cntF_step, HD.out, List.append_assoc, List.take_succ_eq_append_getElem htl, List.map_append]
                          have e1 : e.files[t] = ⟨zp, zc, zd⟩ := by
                            rw [HZ.out]
                            simp [List.getD_eq_getElem?_getD, List.getElem?_eq_getElem htl]
                          rw [e1]
                          rfl
                        · exact ((Keep.of_ext (S := fun j => j < w5.heap.size) HXFA.out).andThen HKB.out (fun j hj _ => by have := HM0.out; show j ≠ M0; omega)).ext_lt
                      · obtain rfl : t = e.files.length := by omega
                        go_wp2_with fail
                        refine ⟨⟨k + 1, by go_num, by omega, Lib.hid ((hMPt.out.mono (by omega)).same ?_), hOWt, hXf⟩, by simp [intOf]; omega⟩
                        rw [List.take_length, List.take_succ_eq_append_getElem hkL, pathsF_snoc]
                        have e1 : ss[k] = x := by rw [HXE.out]; simp [List.getD_eq_getElem?_getD, List.getElem?_eq_getElem hkL]
                        rw [e1, HFE.out]
                        rfl
          · obtain rfl : k = m := by omega
            have hmn := hMP.out
            rw [List.take_of_length_le (by have := HMM.out; omega)] at hmn
            have hml := hmn.lt
            have HMPN := Lib.hid hmn
            clear hMP hmn
            have hcs := HF.out.ok HSS.out
            have hnd := paths_nodup HF.out.1 HSS.out hcs
            have HND := Lib.hid hnd; clear hnd
            have HCS := Lib.hid hcs; clear hcs
            go_wp2_with (first
              | (at_range; refine wpList_range_F rfl _ 66 rfl 3 str_keyed Tryz.underlying66 M0 (12 * k) (cntF (pathsF f ss)) rfl HMPN.out ?_; intro w0 c0 hg0 hx0 hs0)
              | go_in)
            go_frame
            obtain ⟨r, hr⟩ : ∃ r, r = wr.heap.size := ⟨_, rfl⟩
            rw [← hr] at hg0 ⊢
            have HMR : Hid (M0 ≠ r) := Lib.hid (by omega)
            have HRW : Hid (w5.heap.size ≤ r) := Lib.hid (by rw [hr]; exact hX.out.size)
            have HX0 := Lib.hid (hX.out.trans hx0)
            have HG0 := Lib.hid hg0
            clear hr hx0 hg0 hs0 hml hX hOW
            go_loopw [] (fun wr => ∃ (left : By → Bool) (cnt : Nat), Hid (MapG keyS wr 9 M0 r (12 * k) (cntF (pathsF f ss)) left cnt) ∧ Hid (Ext w5 wr)) (fun wr => wr.rangeLeft M0 r)
            case atStart => exact ⟨_, c0, HG0, HX0⟩
            case round =>
              obtain ⟨left, cnt, hg, hX⟩ := hrel
              have HGC := Lib.hid hg.out.count
              go_wp2_with (first
                | (at_next; refine wpList_next_F rfl _ rfl str_keyed (fun x => .string (bs x)) keyS_inj inv_str M0 r (12 * k) (cntF (pathsF f ss)) left cnt rfl hg.out ?_ ?_)
                | go_in)
              · intro hl
                clear hl
                go_wp2_with fail
                rw [HR.out]
                exact ⟨rfl, HX5.out.trans hX.out⟩
              · intro p v w1' cnt1 hkey hlp hfp hg1 hlt1 hk1 hs1 hen
                obtain ⟨hpm, rfl⟩ := cntF_one HND.out hfp
                have HPM := Lib.hid hpm; clear hpm
                have hx1' : Ext w5 w1' := ((Keep.of_ext (S := fun j => j < w5.heap.size) hX.out).andThen hk1 (fun j hj _ => by have := HRW.out; show j ≠ r; omega)).ext_lt
                have hml := hg1.map.lt
                have hrl := hg1.lt
                have HG1 := Lib.hid hg1
                have HX1' := Lib.hid hx1'
                have HLT1 := Lib.hid hlt1
                clear hg1 hx1' hk1 hs1 hkey hlp hfp hlt1
                go_wp2_with (first
                  | (at_range; refine wpList_range_F rfl _ 66 rfl 3 str_keyed Tryz.underlying66 M0 (12 * k) (cntF (pathsF f ss)) rfl HG1.out.map ?_; intro w0' c0' hg0 hx0 hs0)
                  | go_in)
                go_frame
                obtain ⟨r2, hr2⟩ : ∃ r2, r2 = w1'.heap.size := ⟨_, rfl⟩
                rw [← hr2] at hg0 ⊢
                have HMR2 : Hid (M0 ≠ r2 ∧ r ≠ r2) := Lib.hid (by omega)
                have HRW2 : Hid (w5.heap.size ≤ r2) := Lib.hid (by rw [hr2]; exact HX1'.out.size)
                have HX0' := Lib.hid (HX1'.out.trans hx0)
                have HG0' := Lib.hid hg0
                have HG10 := Lib.hid (HG1.out.ext hx0)
                clear hr2 hx0 hg0 hs0 hml hrl
                go_loopw [] (fun wr => ∃ (left2 : By → Bool) (cnt2 : Nat), Hid (MapG keyS wr 9 M0 r2 (12 * k) (cntF (pathsF f ss)) left2 cnt2) ∧ Hid (MapG keyS wr 9 M0 r (12 * k) (cntF (pathsF f ss)) (fun z => left z && !decide (z = p)) cnt1) ∧ Hid (Ext w5 wr)) (fun wr => wr.rangeLeft M0 r2)
                case atStart => exact ⟨_, c0', HG0', HG10, HX0'⟩
                case round =>
                  obtain ⟨left2, cnt2, hg2, hgo, hX2⟩ := hrel
                  have HGC2 := Lib.hid hg2.out.count
                  go_wp2_with (first
                    | (at_next; refine wpList_next_F rfl _ rfl str_keyed (fun x => .string (bs x)) keyS_inj inv_str M0 r2 (12 * k) (cntF (pathsF f ss)) left2 cnt2 rfl hg2.out ?_ ?_)
                    | go_in)
                  · intro hl
                    clear hl
                    go_wp2_with fail
                    go_roundw
                    case rel => exact ⟨_, cnt1, hgo, hX2⟩
                    case measure =>
                      rw [hgo.out.count, HGC.out]
                      exact HLT1.out
                  · intro q v w3' cnt3 hkey hlq hfq hg3 hlt3 hk3 hs3 hen2
                    obtain ⟨hqm, rfl⟩ := cntF_one HND.out hfq
                    have hx3 : Ext w5 w3' := ((Keep.of_ext (S := fun j => j < w5.heap.size) hX2.out).andThen hk3 (fun j hj _ => by have := HRW2.out; show j ≠ r2; omega)).ext_lt
                    have hgo3 := hgo.out.keep hk3 HMR2.out.1 HMR2.out.2
                    have hap := paths_apart (r := q.drop (p.length + 1)) HF.out.1 HSS.out HCS.out HPM.out hqm
                    have hpl : p.length ≤ 100000 := paths_len HF.out.1 HSS.out HPM.out
                    have hql : q.length ≤ 100000 := paths_len HF.out.1 HSS.out hqm
                    have HG3 := Lib.hid hg3; have HX3 := Lib.hid hx3; have HGO3 := Lib.hid hgo3; have HLT3 := Lib.hid hlt3
                    clear hg3 hx3 hgo3 hkey hlq hfq hk3 hs3 hqm hlt3
                    by_cases hll : p.length < q.length
                    · have hd : decide (((bs p).size : Int) < ((bs q).size : Int)) = true := decide_eq_true (by rw [bs_size, bs_size]; omega)
                      have hps : (bs p).size ≤ 100000 := by rw [bs_size]; exact hpl
                      have hqs : (bs p).size + 1 ≤ (bs q).size := by rw [bs_size, bs_size]; omega
                      have hcmp := ext_apart hap
                      clear hap
                      go_wp2_with fail
                      go_roundw
                      case rel => exact ⟨_, cnt3, HG3, HGO3, HX3⟩
                      case measure =>
                        rw [HG3.out.count, HGC2.out]
                        exact HLT3.out
                    · have hd : decide (((bs p).size : Int) < ((bs q).size : Int)) = false := decide_eq_false (by rw [bs_size, bs_size]; omega)
                      go_wp2_with fail
                      go_roundw
                      case rel => exact ⟨_, cnt3, HG3, HGO3, HX3⟩
                      case measure =>
                        rw [HG3.out.count, HGC2.out]
                        exact HLT3.out
end Go.Proofs.YtnclibfhbngkjaaGreatDoor
