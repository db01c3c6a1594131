/- dep.Check: what is wrong with packages that are to be there together. -/
import Derived.Test.YtnclibfhbngkjaaGreatDoorDepFiles
import Derived.Test.YtnclibfhbngkjaaGreatDoorVerFit
namespace Go.Proofs.YtnclibfhbngkjaaGreatDoor
open Go.RowKit
attribute [local go_sem ↓] Go.wp_at_zero Go.wp_at_succ
theorem need_len {p : PkgD} (h : rightP p = true) {j : Nat} (hj : j < p.needs.length) : (p.needs.getD j nz).name.length ≤ 100000 ∧ (p.needs.getD j nz).ver.length ≤ 1000 := by
  unfold rightP at h
  simp only [Bool.and_eq_true] at h
  have := (List.all_eq_true.1 h.2.1) (p.needs.getD j nz) (by rw [List.getD_eq_getElem?_getD, List.getElem?_eq_getElem hj]; simp)
  unfold needR at this
  simp only [Bool.and_eq_true, Bool.or_eq_true, decide_eq_true_eq] at this
  have h12 := nameL_12 this.1
  refine ⟨by omega, ?_⟩
  rcases this.2 with e | e
  · rw [e.2]; simp
  · have := verR_30 e.2; omega
theorem conf_len {p : PkgD} (h : rightP p = true) {j : Nat} (hj : j < p.conf.length) : (p.conf.getD j []).length ≤ 100000 := by
  unfold rightP at h
  simp only [Bool.and_eq_true] at h
  have := (List.all_eq_true.1 h.2.2.1) (p.conf.getD j []) (by rw [List.getD_eq_getElem?_getD, List.getElem?_eq_getElem hj]; simp)
  unfold confR at this
  simp only [Bool.and_eq_true] at this
  have h12 := nameL_12 this.1
  omega
theorem ver_len {p : PkgD} (h : rightP p = true) : p.ver.length ≤ 1000 := by
  unfold rightP headP at h
  simp only [Bool.and_eq_true, decide_eq_true_eq] at h
  have := verR_30 h.1.2.1
  omega
theorem check_found {f : BaseF} {ss : List By} {x : By} {y : FaultD} {k : Nat} (h24 : ss.length ≤ 24) (hk : k < ss.length) (hx : x = ss.getD k []) (h0 : (ss.take k).findSome? (entFault f) = none) (h : entFault f x = some y) : checkD f ss = y := by
  have h1 : entsFault f ss = some y := some_hit (d := []) hk h0 (by rw [← hx]; exact h)
  unfold checkD
  rw [if_neg (by omega), h1]
theorem check_files {f : BaseF} {ss : List By} (h24 : ss.length ≤ 24) (h0 : ss.findSome? (entFault f) = none) : checkD f ss = (pathsFault f ss).getD okD := by
  have h1 : entsFault f ss = none := h0
  unfold checkD
  rw [if_neg (by omega), h1]
  cases pathsFault f ss <;> rfl
theorem ent_need {f : BaseF} {x : By} {e : PkgD} {j : Nat} (hfe : f x = some e) (hj : j < e.needs.length) (h0 : needsFault f x (e.needs.take j) = none) (hb : needBad f (e.needs.getD j nz) = true) : entFault f x = some ⟨16, x, (e.needs.getD j nz).name⟩ := by
  unfold entFault
  rw [hfe]
  have h1 : needsFault f x e.needs = some ⟨16, x, (e.needs.getD j nz).name⟩ := by
    unfold needsFault at h0 ⊢
    exact some_hit (d := nz) hj h0 (by rw [hb]; rfl)
  simp only [Option.getD_some]
  rw [h1]
theorem ent_conf {f : BaseF} {x : By} {e : PkgD} {j : Nat} (hfe : f x = some e) (hn : needsFault f x e.needs = none) (hj : j < e.conf.length) (h0 : confFault f x (e.conf.take j) = none) (hb : (f (e.conf.getD j [])).isSome = true) : entFault f x = some ⟨17, x, e.conf.getD j []⟩ := by
  unfold entFault
  rw [hfe]
  simp only [Option.getD_some]
  rw [hn]
  unfold confFault at h0 ⊢
  exact some_hit (d := []) hj h0 (by rw [hb]; rfl)
theorem ent_ok {f : BaseF} {x : By} {e : PkgD} (hfe : f x = some e) (hn : needsFault f x e.needs = none) (hc : confFault f x e.conf = none) : entFault f x = none := by
  unfold entFault
  rw [hfe]
  simp only [Option.getD_some]
  rw [hn, hc]
theorem fits_by (a b : By) (way : Int) (ha : a.length ≤ 1000) (hb : b.length ≤ 1000) (w : World) (hE : EnvN w) :
    Calls Tryz.prog 82 #[.string (bs a), .int .i64 way, .string (bs b)] w fun e w' => e = .returned (.bool (fitsV (verL a) (verL b) way)) ∧ Ext w w' := by
  have h := ver_fits (bs a) (bs b) way (by rw [bs_size]; exact ha) (by rw [bs_size]; exact hb) w hE
  rw [bs_data, bs_data] at h
  exact h
set_option maxRecDepth 100000 in
set_option maxHeartbeats 12800000 in
theorem dep_check (v : Value) (N : Nat) (f : BaseF) (w : World) (hE : EnvN w) (hb : BaseM w v N f) (hg : GoodF f) (hN : N ≤ 100000) :
    Calls Tryz.prog 62 #[v] w fun e w' => ∃ ss, NamesF f ss ∧ e = .returned (faultV (checkD f ss)) ∧ Ext w w' := by
  obtain ⟨R, hR⟩ : ∃ R : Ending → World → Prop, R = fun e w' => ∃ ss, NamesF f ss ∧ e = .returned (faultV (checkD f ss)) ∧ Ext w w' := ⟨_, rfl⟩
  rw [← hR]
  have HR := Lib.hid hR; clear hR
  obtain ⟨pm, A0, rfl, _⟩ := hb.parts
  have HE := Lib.hid hE; clear hE
  have hx1 : Ext w ((w.alloc (.cells #[.map pm] 42)).alloc (.cells #[.int .i64 0, .string ⟨#[]⟩, .string ⟨#[]⟩] 63)) := (Ext.alloc _ _).trans (Ext.alloc _ _)
  have hb1 := (Ext.alloc _ (.cells #[.int .i64 0, .string ⟨#[]⟩, .string ⟨#[]⟩] 63)).heap (heap_alloc_new w (.cells #[.map pm] 42))
  have hr1 := heap_alloc_new (w.alloc (.cells #[.map pm] 42)) (.cells #[.int .i64 0, .string ⟨#[]⟩, .string ⟨#[]⟩] 63)
  rw [World.size_alloc] at hr1
  go_enter Tryz.func62, Tryz.ntmps62
  go_upto_region 1 with (fail)
  generalize (w.alloc (.cells #[.map pm] 42)).alloc (.cells #[.int .i64 0, .string ⟨#[]⟩, .string ⟨#[]⟩] 63) = w1 at hx1 hb1 hr1 ⊢
  obtain ⟨BX, hBX⟩ : ∃ x, x = w.heap.size := ⟨_, rfl⟩
  obtain ⟨RS, hRS⟩ : ∃ x, x = w.heap.size + 1 := ⟨_, rfl⟩
  rw [← hRS] at hr1
  rw [← hBX] at hb1
  have HZ : Hid (BX = w.heap.size ∧ RS = w.heap.size + 1) := Lib.hid ⟨hBX, hRS⟩
  rw [← hRS, ← hBX]
  clear hRS hBX
  have p0 := blk_cell hb1 0 (Value.map pm) rfl
  have HB := Lib.hid (hb.ext hx1); clear hb
  have HG := Lib.hid hg; clear hg
  have HX1 := Lib.hid hx1; clear hx1
  have HR1 := Lib.hid hr1; clear hr1
  have HB1 := Lib.hid hb1; clear hb1
  have hw := base_names (.agg #[.map pm]) N f w1 HB.out hN
  have HW := Lib.hid hw; clear hw
  go_upto_region 2 with (first
    | (go_at_call 20; refine HW.out.mono ?_; rintro E w2 ⟨sa, sc, ss, rfl, hss, hown, hsl, hx2⟩; have HSS := Lib.hid hss; clear hss; have HST := Lib.hid hown.strs.1; clear hown; have HX2 := Lib.hid hx2; clear hx2))
  clear p0 HW
  obtain ⟨n, hnn⟩ : ∃ n, n = ss.length := ⟨_, rfl⟩
  rw [← hnn] at hsl ⊢
  have HN := Lib.hid hnn; clear hnn
  by_cases h24 : 24 < n
  · have hdc : decide ((24 : Int) < (n : Int)) = true := decide_eq_true (by omega)
    have H24 := Lib.hid h24; clear h24
    go_upto_region 3 with (fail)
    have hrr := HX2.out.heap HR1.out
    have r0 := blk_cell hrr 0 (Value.int .i64 0) rfl
    have r1 := blk_cell hrr 1 (Value.string ⟨#[]⟩) rfl
    have r2 := blk_cell hrr 2 (Value.string ⟨#[]⟩) rfl
    have g0 := blk_free hrr 0
    have g1 := blk_free hrr 1
    have g2 := blk_free hrr 2
    obtain ⟨hs6, hbut⟩ := set3f hrr (.int .i64 7) (.string ⟨#[]⟩) (.string ⟨#[]⟩)
    have HS6 := Lib.hid hs6; clear hs6
    have HBT := Lib.hid hbut; clear hbut hrr
    go_wp2_with fail
    have q0 := blk_cell HS6.out 0 (Value.int .i64 7) rfl
    have q1 := blk_cell HS6.out 1 (Value.string ⟨#[]⟩) rfl
    have q2 := blk_cell HS6.out 2 (Value.string ⟨#[]⟩) rfl
    refine bodyPost_ret (v := .agg #[.int .i64 7, .string ⟨#[]⟩, .string ⟨#[]⟩]) (by simp [results, Tryz.results62, go_sem, q0, q1, q2]) rfl ?_
    rw [HR.out]
    have hz := HZ.out
    have hrl : RS < w1.heap.size := (Array.getElem?_eq_some_iff.1 HR1.out).1
    refine ⟨ss, HSS.out, ?_, ?_⟩
    · have h : checkD f ss = ⟨7, [], []⟩ := by
        unfold checkD
        rw [if_pos (by have h1 := HN.out; have h2 := H24.out; omega)]
      rw [h]
      rfl
    exact (((Keep.of_ext (S := fun j => j < w.heap.size) (HX1.out.trans (HX2.out))).andThen (Keep.of_but HBT.out) (fun j hj _ => by show j ≠ RS; omega))).ext_lt
  · have hdc : decide ((24 : Int) < (n : Int)) = false := decide_eq_false (by omega)
    have H24 := Lib.hid h24; clear h24
    go_wp2_with fail
    clear hdc
    go_loopw [24] (fun i wr => ∃ k : Nat, i = .int .i64 k ∧ k ≤ n ∧ Hid ((ss.take k).findSome? (entFault f) = none) ∧ Hid (Ext w2 wr)) (fun i _ => n - (intOf i).toNat)
    case atStart => exact ⟨0, rfl, Nat.zero_le _, Lib.hid rfl, Lib.hid (Ext.refl _)⟩
    case round =>
      obtain ⟨k, rfl, hk, hF, hX⟩ := hrel
      by_cases hlt : k < n
      · have hkL : k < ss.length := by have := HN.out; omega
        obtain ⟨g, off, rfl, _, hc⟩ := (HST.out.ext hX.out).at (by intro e; rw [e] at hkL; simp at hkL)
        have c0 := hc k hkL
        clear hc
        obtain ⟨x, hx⟩ : ∃ x, x = ss.getD k [] := ⟨_, rfl⟩
        rw [← hx] at c0
        have hxs : x ∈ ss := by rw [hx, List.getD_eq_getElem?_getD, List.getElem?_eq_getElem hkL]; simp
        have HX := Lib.hid hx; clear hx
        obtain ⟨e, hfe⟩ := Option.isSome_iff_exists.1 ((HSS.out.2.2 x).1 hxs)
        have hge := HG.out x e hfe
        have hfl2 := right_lens hge.2.1
        have hxl : x.length ≤ 100000 := by rw [← hge.1]; omega
        have hget := fun W (k : Ext wr W) => base_get (.agg #[.map pm]) N f x W (HB.out.ext (HX2.out.trans (hX.out.trans k))) HG.out hxl
        rw [hfe] at hget
        have HGT := Lib.hid hget; clear hget
        have HFE := Lib.hid hfe; clear hfe
        have HRT := Lib.hid hge.2.1
        have hn8 := hfl2.2.1
        have hc8 := hfl2.2.2.1
        clear hge hfl2 hxs hxl
        have q0 := blk_cell ((HX2.out.trans hX.out).heap HB1.out) 0 (Value.map pm) rfl
        go_upto_region 8 with (first
          | (go_at_call 19; refine (HGT.out _ (Ext.refl _)).mono ?_; rintro E w3 ⟨A, rfl, hent, _, hx3⟩; obtain ⟨an, ac, af, au, cn, cc, cf, cu⟩ := A; unfold pkgV; have HEN := Lib.hid hent; have HX3 := Lib.hid hx3; clear hent hx3))
        simp only [Option.getD_some] at HEN ⊢
        clear q0 c0 HGT
        have hx4 := Ext.alloc w3 (.cells #[.string (bs e.name), .string (bs e.ver), .slice an e.needs.length cn, .slice ac e.conf.length cc, .slice af e.files.length cf, .slice au e.units.length cu] 37)
        have hf4 := heap_alloc_new w3 (.cells #[.string (bs e.name), .string (bs e.ver), .slice an e.needs.length cn, .slice ac e.conf.length cc, .slice af e.files.length cf, .slice au e.units.length cu] 37)
        generalize w3.alloc (.cells #[.string (bs e.name), .string (bs e.ver), .slice an e.needs.length cn, .slice ac e.conf.length cc, .slice af e.files.length cf, .slice au e.units.length cu] 37) = w4 at hx4 hf4 ⊢
        obtain ⟨F, hFF⟩ : ∃ x, x = w3.heap.size := ⟨_, rfl⟩
        rw [← hFF] at hf4 ⊢
        clear hFF
        have d4 := blk_cell hf4 2 (Value.slice an e.needs.length cn) rfl
        have HF4 := Lib.hid hf4
        have HX4 := Lib.hid ((hX.out.trans HX3.out).trans hx4)
        have HEN4 := Lib.hid (HEN.out.ext hx4); clear hx4 hf4 HEN
        go_wp2_with fail
        clear d4
        go_loopw [37] (fun i wr => ∃ j : Nat, i = .int .i64 j ∧ j ≤ e.needs.length ∧ Hid (needsFault f x (e.needs.take j) = none) ∧ Hid (Ext w4 wr)) (fun i _ => e.needs.length - (intOf i).toNat)
        case atStart => exact ⟨0, rfl, Nat.zero_le _, Lib.hid rfl, Lib.hid (Ext.refl _)⟩
        case round =>
          obtain ⟨j, rfl, hj, hFj, hXj⟩ := hrel
          by_cases hjl : j < e.needs.length
          · obtain ⟨g2, off2, rfl, _, h1, h2, h3⟩ := (HEN4.out.needs.ext hXj.out).at hjl
            have hnl := need_len HRT.out hjl
            obtain ⟨m, hm⟩ : ∃ m, m = e.needs.getD j nz := ⟨_, rfl⟩
            rw [← hm] at h1 h2 h3 hnl
            obtain ⟨mn, mw, mv⟩ := m
            simp only at h1 h2 h3 hnl
            obtain ⟨hnl1, hnl2⟩ := hnl
            have HMM := Lib.hid hm; clear hm
            go_upto_region 11 with (fail)
            clear h1 h2 h3
            have hx5 := Ext.alloc wr (.cells #[.string (bs mn), .int .i64 mw, .string (bs mv)] 68)
            have hf5 := heap_alloc_new wr (.cells #[.string (bs mn), .int .i64 mw, .string (bs mv)] 68)
            generalize wr.alloc (.cells #[.string (bs mn), .int .i64 mw, .string (bs mv)] 68) = w5 at hx5 hf5 ⊢
            obtain ⟨G, hGG⟩ : ∃ x, x = wr.heap.size := ⟨_, rfl⟩
            rw [← hGG] at hf5 ⊢
            clear hGG
            have HF5 := Lib.hid hf5
            have f0 := blk_cell hf5 0 (Value.string (bs mn)) rfl
            have HX5 := Lib.hid (HX4.out.trans (hXj.out.trans hx5))
            have HX5' := Lib.hid (hXj.out.trans hx5); clear hx5 hf5
            have q0 := blk_cell ((HX2.out.trans HX5.out).heap HB1.out) 0 (Value.map pm) rfl
            have how := base_get (.agg #[.map pm]) N f mn w5 (HB.out.ext (HX2.out.trans HX5.out)) HG.out hnl1
            obtain ⟨y, hy⟩ : ∃ y, y = (f mn).getD pz := ⟨_, rfl⟩
            obtain ⟨z, hz0⟩ : ∃ z, z = (f mn).isSome := ⟨_, rfl⟩
            rw [← hy, ← hz0] at how
            have HOW := Lib.hid how; clear how
            have HY := Lib.hid hy; clear hy
            have HZZ := Lib.hid hz0; clear hz0
            go_upto_region 12 with (first
              | (go_at_call 19; refine HOW.out.mono ?_; rintro E w6 ⟨A, rfl, _, _, hx6⟩; obtain ⟨bn, bc, bf, bu, dn, dc, df, du⟩ := A; unfold pkgV; have HX6 := Lib.hid hx6; clear hx6))
            clear q0 f0 HOW
            try simp only
            have hx7 := Ext.alloc w6 (.cells #[.string (bs y.name), .string (bs y.ver), .slice bn y.needs.length dn, .slice bc y.conf.length dc, .slice bf y.files.length df, .slice bu y.units.length du] 37)
            have hf7 := heap_alloc_new w6 (.cells #[.string (bs y.name), .string (bs y.ver), .slice bn y.needs.length dn, .slice bc y.conf.length dc, .slice bf y.files.length df, .slice bu y.units.length du] 37)
            generalize w6.alloc (.cells #[.string (bs y.name), .string (bs y.ver), .slice bn y.needs.length dn, .slice bc y.conf.length dc, .slice bf y.files.length df, .slice bu y.units.length du] 37) = w7 at hx7 hf7 ⊢
            obtain ⟨Y, hYY⟩ : ∃ x, x = w6.heap.size := ⟨_, rfl⟩
            rw [← hYY] at hf7 ⊢
            clear hYY
            have HX7 := Lib.hid (HX5.out.trans (HX6.out.trans hx7))
            have HX7' := Lib.hid (HX5'.out.trans (HX6.out.trans hx7))
            have HF7 := Lib.hid ((HX6.out.trans hx7).heap HF5.out); clear hx7
            have y1 := blk_cell hf7 1 (Value.string (bs y.ver)) rfl
            clear hf7
            have f0 := blk_cell HF7.out 0 (Value.string (bs mn)) rfl
            have f1 := blk_cell HF7.out 1 (Value.int .i64 mw) rfl
            have f2 := blk_cell HF7.out 2 (Value.string (bs mv)) rfl
            cases z with
            | false =>
              have HBAD : Hid (needBad f (e.needs.getD j nz) = true) := Lib.hid (by
                rw [← HMM.out]
                unfold needBad
                simp only
                have h := HZZ.out
                cases hfm : f mn with
                | none => rfl
                | some y' => rw [hfm] at h; cases h)
              go_upto_region 13 with (fail)
              have hrr := (HX2.out.trans HX7.out).heap HR1.out
              have r0 := blk_cell hrr 0 (Value.int .i64 0) rfl
              have r1 := blk_cell hrr 1 (Value.string ⟨#[]⟩) rfl
              have r2 := blk_cell hrr 2 (Value.string ⟨#[]⟩) rfl
              have g0 := blk_free hrr 0
              have g1 := blk_free hrr 1
              have g2 := blk_free hrr 2
              obtain ⟨hs6, hbut⟩ := set3f hrr (.int .i64 16) (.string (bs x)) (.string (bs mn))
              have HS6 := Lib.hid hs6; clear hs6
              have HBT := Lib.hid hbut; clear hbut hrr
              go_wp2_with fail
              have q0 := blk_cell HS6.out 0 (Value.int .i64 16) rfl
              have q1 := blk_cell HS6.out 1 (Value.string (bs x)) rfl
              have q2 := blk_cell HS6.out 2 (Value.string (bs mn)) rfl
              refine bodyPost_ret (v := .agg #[.int .i64 16, .string (bs x), .string (bs mn)]) (by simp [results, Tryz.results62, go_sem, q0, q1, q2]) rfl ?_
              rw [HR.out]
              have hz := HZ.out
              have hrl : RS < w1.heap.size := (Array.getElem?_eq_some_iff.1 HR1.out).1
              refine ⟨ss, HSS.out, ?_, ?_⟩
              · rw [check_found (by have h1 := HN.out; have h2 := H24.out; omega) hkL HX.out hF.out (ent_need HFE.out hjl hFj.out HBAD.out), ← HMM.out]
                rfl
              exact (((Keep.of_ext (S := fun j => j < w.heap.size) (HX1.out.trans (HX2.out.trans HX7.out))).andThen (Keep.of_but HBT.out) (fun j hj _ => by show j ≠ RS; omega))).ext_lt
            | true =>
              have hfm : f mn = some y := by
                have h := HZZ.out
                have h' := HY.out
                cases hfm : f mn with
                | none => rw [hfm] at h; cases h
                | some y' => rw [hfm] at h'; exact congrArg some h'.symm
              have hyl := ver_len (HG.out mn y hfm).2.1
              have hft := fits_by y.ver mv mw hyl hnl2 w7 (HE.out.ext (HX1.out.trans (HX2.out.trans HX7.out)))
              have hnb : needBad f (e.needs.getD j nz) = !fitsV (verL y.ver) (verL mv) mw := by
                rw [← HMM.out]
                unfold needBad
                simp only
                rw [hfm]
              have HFM := Lib.hid hfm; clear hfm hyl
              obtain ⟨q, hq⟩ : ∃ q, q = fitsV (verL y.ver) (verL mv) mw := ⟨_, rfl⟩
              rw [← hq] at hft hnb
              have HFT := Lib.hid hft; clear hft hq
              have HNB := Lib.hid hnb; clear hnb
              cases q with
              | false =>
                go_upto_region 13 with (first
                  | (go_at_call 82; refine HFT.out.mono ?_; rintro E w8 ⟨rfl, hx8⟩; have f8 := blk_cell (hx8.heap HF7.out) 0 (Value.string (bs mn)) rfl; have HX8 := Lib.hid hx8; clear hx8))
                have hrr := (HX2.out.trans (HX7.out.trans HX8.out)).heap HR1.out
                have r0 := blk_cell hrr 0 (Value.int .i64 0) rfl
                have r1 := blk_cell hrr 1 (Value.string ⟨#[]⟩) rfl
                have r2 := blk_cell hrr 2 (Value.string ⟨#[]⟩) rfl
                have g0 := blk_free hrr 0
                have g1 := blk_free hrr 1
                have g2 := blk_free hrr 2
                obtain ⟨hs6, hbut⟩ := set3f hrr (.int .i64 16) (.string (bs x)) (.string (bs mn))
                have HS6 := Lib.hid hs6; clear hs6
                have HBT := Lib.hid hbut; clear hbut hrr
                go_wp2_with fail
                have q0 := blk_cell HS6.out 0 (Value.int .i64 16) rfl
                have q1 := blk_cell HS6.out 1 (Value.string (bs x)) rfl
                have q2 := blk_cell HS6.out 2 (Value.string (bs mn)) rfl
                refine bodyPost_ret (v := .agg #[.int .i64 16, .string (bs x), .string (bs mn)]) (by simp [results, Tryz.results62, go_sem, q0, q1, q2]) rfl ?_
                rw [HR.out]
                have hz := HZ.out
                have hrl : RS < w1.heap.size := (Array.getElem?_eq_some_iff.1 HR1.out).1
                refine ⟨ss, HSS.out, ?_, ?_⟩
                · rw [check_found (by have h1 := HN.out; have h2 := H24.out; omega) hkL HX.out hF.out (ent_need HFE.out hjl hFj.out (by rw [HNB.out]; rfl)), ← HMM.out]
                  rfl
                exact (((Keep.of_ext (S := fun j => j < w.heap.size) (HX1.out.trans (HX2.out.trans (HX7.out.trans HX8.out)))).andThen (Keep.of_but HBT.out) (fun j hj _ => by show j ≠ RS; omega))).ext_lt
              | true =>
                go_wp2_with (first
                  | (go_at_call 82; refine HFT.out.mono ?_; rintro E w8 ⟨rfl, hx8⟩; have HX8 := Lib.hid hx8; clear hx8))
                refine ⟨⟨j + 1, by go_num, by omega, Lib.hid ?_, Lib.hid (HX7'.out.trans HX8.out)⟩, by simp [intOf]; omega⟩
                have h := hFj.out
                unfold needsFault at h ⊢
                rw [some_snoc (d := nz) hjl h, HNB.out]
                rfl
          · obtain rfl : j = e.needs.length := by omega
            have hFn := hFj.out
            rw [List.take_length] at hFn
            have HFN := Lib.hid hFn; clear hFn
            have d4 := blk_cell (hXj.out.heap HF4.out) 3 (Value.slice ac e.conf.length cc) rfl
            go_wp2_with fail
            clear d4
            obtain ⟨wo, rfl⟩ : ∃ wo : World, wo = wr := ⟨_, rfl⟩
            have HXo := Lib.hid (HX4.out.trans hXj.out)
            go_loopw [68] (fun i wr => ∃ j : Nat, i = .int .i64 j ∧ j ≤ e.conf.length ∧ Hid (confFault f x (e.conf.take j) = none) ∧ Hid (Ext wo wr)) (fun i _ => e.conf.length - (intOf i).toNat)
            case atStart => exact ⟨0, rfl, Nat.zero_le _, Lib.hid rfl, Lib.hid (Ext.refl _)⟩
            case round =>
              obtain ⟨j, rfl, hj2, hFc, hXc⟩ := hrel
              by_cases hjl : j < e.conf.length
              · obtain ⟨g2, off2, rfl, _, hcc⟩ := ((HEN4.out.conf.ext hXj.out).ext hXc.out).at (by intro e0; rw [e0] at hjl; simp at hjl)
                have h1 := hcc j hjl
                clear hcc
                have hcl := conf_len HRT.out hjl
                obtain ⟨m, hm⟩ : ∃ m, m = e.conf.getD j [] := ⟨_, rfl⟩
                rw [← hm] at h1 hcl
                have HMM := Lib.hid hm; clear hm
                have q0 := blk_cell ((HX2.out.trans (HXo.out.trans hXc.out)).heap HB1.out) 0 (Value.map pm) rfl
                have how := base_get (.agg #[.map pm]) N f m wr (HB.out.ext (HX2.out.trans (HXo.out.trans hXc.out))) HG.out hcl
                obtain ⟨y, hy⟩ : ∃ y, y = (f m).getD pz := ⟨_, rfl⟩
                obtain ⟨z, hz0⟩ : ∃ z, z = (f m).isSome := ⟨_, rfl⟩
                rw [← hy, ← hz0] at how
                have HOW := Lib.hid how; clear how hy
                have HZZ := Lib.hid hz0; clear hz0
                cases z with
                | true =>
                  go_upto_region 20 with (first
                    | (go_at_call 19; refine HOW.out.mono ?_; rintro E w6 ⟨A, rfl, _, _, hx6⟩; obtain ⟨bn, bc, bf, bu, dn, dc, df, du⟩ := A; unfold pkgV; have HX6 := Lib.hid hx6; clear hx6))
                  clear q0 h1 HOW
                  try simp only
                  have hx7 := Ext.alloc w6 (.cells #[.string (bs y.name), .string (bs y.ver), .slice bn y.needs.length dn, .slice bc y.conf.length dc, .slice bf y.files.length df, .slice bu y.units.length du] 37)
                  generalize w6.alloc (.cells #[.string (bs y.name), .string (bs y.ver), .slice bn y.needs.length dn, .slice bc y.conf.length dc, .slice bf y.files.length df, .slice bu y.units.length du] 37) = w7 at hx7 ⊢
                  have HX7 := Lib.hid ((HXo.out.trans hXc.out).trans (HX6.out.trans hx7)); clear hx7
                  have hrr := (HX2.out.trans HX7.out).heap HR1.out
                  have r0 := blk_cell hrr 0 (Value.int .i64 0) rfl
                  have r1 := blk_cell hrr 1 (Value.string ⟨#[]⟩) rfl
                  have r2 := blk_cell hrr 2 (Value.string ⟨#[]⟩) rfl
                  have g0 := blk_free hrr 0
                  have g1 := blk_free hrr 1
                  have g2 := blk_free hrr 2
                  obtain ⟨hs6, hbut⟩ := set3f hrr (.int .i64 17) (.string (bs x)) (.string (bs m))
                  have HS6 := Lib.hid hs6; clear hs6
                  have HBT := Lib.hid hbut; clear hbut hrr
                  go_wp2_with fail
                  have q0 := blk_cell HS6.out 0 (Value.int .i64 17) rfl
                  have q1 := blk_cell HS6.out 1 (Value.string (bs x)) rfl
                  have q2 := blk_cell HS6.out 2 (Value.string (bs m)) rfl
                  refine bodyPost_ret (v := .agg #[.int .i64 17, .string (bs x), .string (bs m)]) (by simp [results, Tryz.results62, go_sem, q0, q1, q2]) rfl ?_
                  rw [HR.out]
                  have hz := HZ.out
                  have hrl : RS < w1.heap.size := (Array.getElem?_eq_some_iff.1 HR1.out).1
                  refine ⟨ss, HSS.out, ?_, ?_⟩
                  · rw [check_found (by have h1 := HN.out; have h2 := H24.out; omega) hkL HX.out hF.out (ent_conf HFE.out HFN.out hjl hFc.out (by rw [← HMM.out]; exact HZZ.out.symm)), ← HMM.out]
                    rfl
                  exact (((Keep.of_ext (S := fun j => j < w.heap.size) (HX1.out.trans (HX2.out.trans HX7.out))).andThen (Keep.of_but HBT.out) (fun j hj _ => by show j ≠ RS; omega))).ext_lt
                | false =>
                  go_wp2_with (first
                    | (go_at_call 19; refine HOW.out.mono ?_; rintro E w6 ⟨A, rfl, _, _, hx6⟩; obtain ⟨bn, bc, bf, bu, dn, dc, df, du⟩ := A; unfold pkgV; have HX6 := Lib.hid hx6; clear hx6))
                  refine ⟨⟨j + 1, by go_num, by omega, Lib.hid ?_, Lib.hid (hXc.out.trans (HX6.out.trans (Ext.alloc _ _)))⟩, by simp [intOf]; omega⟩
                  have h := hFc.out
                  unfold confFault at h ⊢
                  rw [some_snoc (d := []) hjl h, ← HMM.out, ← HZZ.out]
                  rfl
              · obtain rfl : j = e.conf.length := by omega
                go_wp2_with fail
                refine ⟨⟨k + 1, by go_num, by omega, Lib.hid ?_, Lib.hid (HXo.out.trans hXc.out)⟩, by simp [intOf]; omega⟩
                have hFc2 := hFc.out
                rw [List.take_length] at hFc2
                rw [some_snoc (d := []) hkL hF.out, ← HX.out]
                exact ent_ok HFE.out HFN.out hFc2
      · obtain rfl : k = n := by omega
        have hF2 := hF.out
        rw [List.take_of_length_le (by have := HN.out; omega)] at hF2
        have HF2 := Lib.hid hF2; clear hF2
        have hcd : checkD f ss = (pathsFault f ss).getD okD := check_files (by have h1 := HN.out; have h2 := H24.out; omega) HF2.out
        have hdf := dep_files (.agg #[.map pm]) N f sa sc ss wr (HE.out.ext (HX1.out.trans (HX2.out.trans hX.out))).env (HB.out.ext (HX2.out.trans hX.out)) HG.out HSS.out (HST.out.ext hX.out) hN (by have := HN.out; omega)
        rw [← hcd, ← HN.out] at hdf
        clear hcd
        have HDF := Lib.hid hdf; clear hdf
        have q0 := blk_cell ((HX2.out.trans hX.out).heap HB1.out) 0 (Value.map pm) rfl
        obtain ⟨fl, hfl⟩ : ∃ fl, fl = checkD f ss := ⟨_, rfl⟩
        rw [← hfl] at HDF
        have HFL := Lib.hid hfl; clear hfl
        obtain ⟨x1, x2, x3⟩ := fl
        unfold faultV at HDF
        simp only at HDF
        go_wp2_with (first
          | (go_at_call 83; refine HDF.out.mono ?_; rintro E w9 ⟨rfl, hx9⟩; have hrr := (HX2.out.trans (hX.out.trans hx9)).heap HR1.out; have r0 := blk_cell hrr 0 (Value.int .i64 0) rfl; have r1 := blk_cell hrr 1 (Value.string ⟨#[]⟩) rfl; have r2 := blk_cell hrr 2 (Value.string ⟨#[]⟩) rfl; have g0 := blk_free hrr 0; have g1 := blk_free hrr 1; have g2 := blk_free hrr 2; have hs7 := set3f hrr (.int .i64 (x1 : Int)) (.string (bs x2)) (.string (bs x3)); have HS7 := Lib.hid hs7; have HX9 := Lib.hid hx9; clear hs7 hrr hx9))
        have hs6 := HS7.out.1
        have hbut := HS7.out.2
        have q0 := blk_cell hs6 0 (Value.int .i64 (x1 : Int)) rfl
        have q1 := blk_cell hs6 1 (Value.string (bs x2)) rfl
        have q2 := blk_cell hs6 2 (Value.string (bs x3)) rfl
        refine bodyPost_ret (v := .agg #[.int .i64 (x1 : Int), .string (bs x2), .string (bs x3)]) (by simp [results, Tryz.results62, go_sem, q0, q1, q2]) rfl ?_
        rw [HR.out]
        have hz := HZ.out
        have hrl : RS < w1.heap.size := (Array.getElem?_eq_some_iff.1 HR1.out).1
        refine ⟨ss, HSS.out, by rw [← HFL.out]; rfl, ?_⟩
        exact (((Keep.of_ext (S := fun j => j < w.heap.size) (HX1.out.trans (HX2.out.trans (hX.out.trans HX9.out)))).andThen (Keep.of_but hbut) (fun j hj _ => by show j ≠ RS; omega))).ext_lt
end Go.Proofs.YtnclibfhbngkjaaGreatDoor
