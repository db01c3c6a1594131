/- dep.files: what is wrong with the files of packages that are to be there together. -/
import Derived.Test.YtnclibfhbngkjaaGreatDoorBaseFiles
import Derived.Test.YtnclibfhbngkjaaGreatDoorDepIn
namespace Go.Proofs.YtnclibfhbngkjaaGreatDoor
open Go.RowKit
attribute [local go_sem ↓] Go.wp_at_zero Go.wp_at_succ
def faultV (x : FaultD) : Value := .agg #[.int .i64 (x.code : Int), .string (bs x.name), .string (bs x.what)]
theorem anyIn_all {f : BaseF} {ss tt : List By} (hs : NamesF f ss) (ht : ∀ x, x ∈ tt ↔ (f x).isSome = true) (p : By) : ((allPaths f tt).any fun q => withinL p q) = anyIn f ss p := by
  unfold anyIn
  rw [Bool.eq_iff_iff, List.any_eq_true, List.any_eq_true]
  constructor
  · rintro ⟨q, hq, hw⟩
    rw [mem_allPaths, mem_paths] at hq
    obtain ⟨n, hn, g, hg, hgp⟩ := hq
    exact ⟨n, (hs.2.2 n).2 ((ht n).1 hn), by rw [List.any_eq_true]; exact ⟨g, hg, by rw [hgp]; exact hw⟩⟩
  · rintro ⟨n, hn, hw⟩
    rw [List.any_eq_true] at hw
    obtain ⟨g, hg, hw⟩ := hw
    exact ⟨g.path, by rw [mem_allPaths, mem_paths]; exact ⟨n, (ht n).2 ((hs.2.2 n).1 hn), g, hg, rfl⟩, hw⟩
theorem set3i {w : World} {R : Nat} {t : TypeId} {a0 a1 a2 : Value} (hg : w.heap[R]? = some (.cells #[a0, a1, a2] t (0, 0))) (v0 v1 v2 : Value) :
    (((w.setCell ⟨R, 0, none⟩ v0).setCell ⟨R, 1, none⟩ v1).setCell ⟨R, 2, none⟩ v2).heap[R]? = some (.cells #[v0, v1, v2] t (0, 0)) ∧ But R w (((w.setCell ⟨R, 0, none⟩ v0).setCell ⟨R, 1, none⟩ v1).setCell ⟨R, 2, none⟩ v2) := set3f hg v0 v1 v2
theorem file_len {p : PkgD} (h : rightP p = true) {j : Nat} (hj : j < p.files.length) : (p.files.getD j fz).path.length ≤ 100000 := by
  unfold rightP at h
  simp only [Bool.and_eq_true] at h
  have hf := filesTo_all h.2.2.2.2
  rw [List.take_length] at hf
  have := hf (p.files.getD j fz) (by rw [List.getD_eq_getElem?_getD, List.getElem?_eq_getElem hj]; simp)
  unfold fileR at this
  simp only [Bool.and_eq_true, decide_eq_true_eq] at this
  have := rightL_40 this.1
  omega
theorem found_files {f : BaseF} {ss : List By} {x : By} {e : PkgD} {n k j : Nat} (_hs : NamesF f ss) (hfe : f x = some e) (_hn : n = ss.length) (hk : k < ss.length) (hx : x = ss.getD k []) (h0 : (ss.take k).findSome? (fun m => filesFault f ss m ((f m).getD pz).files) = none)
    (hj : j < e.files.length) (h1 : filesFault f ss x (e.files.take j) = none) (hb : fileBad f ss x (e.files.getD j fz) = true) : (pathsFault f ss).getD okD = ⟨18, x, (e.files.getD j fz).path⟩ := by
  have h2 : filesFault f ss x e.files = some ⟨18, x, (e.files.getD j fz).path⟩ := by
    unfold filesFault at h1 ⊢
    exact some_hit (d := fz) hj h1 (by rw [hb]; rfl)
  have h3 : pathsFault f ss = some ⟨18, x, (e.files.getD j fz).path⟩ := by
    unfold pathsFault
    refine some_hit (d := []) hk h0 ?_
    rw [← hx, hfe]
    exact h2
  rw [h3]
  rfl
set_option maxRecDepth 100000 in
set_option maxHeartbeats 6400000 in
theorem dep_files (v : Value) (N : Nat) (f : BaseF) (a : Option Addr) (c : Nat) (ss : List By) (w : World) (hE : Env w) (hb : BaseM w v N f) (hg : GoodF f) (hss : NamesF f ss) (hS : Strs w a ss) (hN : N ≤ 100000) (hn : ss.length ≤ 100000) :
    Calls Tryz.prog 83 #[v, .slice a ss.length c] w fun e w' => e = .returned (faultV ((pathsFault f ss).getD okD)) ∧ Ext w w' := by
  obtain ⟨R, hR⟩ : ∃ R : Ending → World → Prop, R = fun e w' => e = .returned (faultV ((pathsFault f ss).getD okD)) ∧ Ext w w' := ⟨_, rfl⟩
  rw [← hR]
  have HR := Lib.hid hR; clear hR
  obtain ⟨pm, A0, rfl, _⟩ := hb.parts
  have HSS := Lib.hid hss; clear hss
  have HST := Lib.hid hS; clear hS
  have HE := Lib.hid hE; clear hE
  obtain ⟨n, hnn⟩ : ∃ n, n = ss.length := ⟨_, rfl⟩
  rw [← hnn] at hn ⊢
  have HN := Lib.hid hnn; clear hnn
  have hx1 : Ext w ((w.alloc (.cells #[.map pm] 42)).alloc (.cells #[.int .i64 0, .string ⟨#[]⟩, .string ⟨#[]⟩] 63)) := (Ext.alloc _ _).trans (Ext.alloc _ _)
  have hb1 := (Ext.alloc _ (.cells #[.int .i64 0, .string ⟨#[]⟩, .string ⟨#[]⟩] 63)).heap (heap_alloc_new w (.cells #[.map pm] 42))
  have hr1 := heap_alloc_new (w.alloc (.cells #[.map pm] 42)) (.cells #[.int .i64 0, .string ⟨#[]⟩, .string ⟨#[]⟩] 63)
  rw [World.size_alloc] at hr1
  go_enter Tryz.func83, Tryz.ntmps83
  go_upto_region 1 with (fail)
  generalize (w.alloc (.cells #[.map pm] 42)).alloc (.cells #[.int .i64 0, .string ⟨#[]⟩, .string ⟨#[]⟩] 63) = w1 at hx1 hb1 hr1 ⊢
  obtain ⟨BX, hBX⟩ : ∃ x, x = w.heap.size := ⟨_, rfl⟩
  obtain ⟨RS, hRS⟩ : ∃ x, x = w.heap.size + 1 := ⟨_, rfl⟩
  rw [← hRS] at hr1
  rw [← hBX] at hb1
  have HZ : Hid (BX = w.heap.size ∧ RS = w.heap.size + 1) := Lib.hid ⟨hBX, hRS⟩
  rw [← hRS, ← hBX]
  clear hRS hBX
  have p0 := blk_cell hb1 0 (Value.map pm) rfl
  have HB := Lib.hid (hb.ext hx1); clear hb
  have HG := Lib.hid hg; clear hg
  have HX1 := Lib.hid hx1; clear hx1
  have HR1 := Lib.hid hr1; clear hr1
  have HB1 := Lib.hid hb1; clear hb1
  have hw := base_files (.agg #[.map pm]) N f w1 HB.out HG.out hN
  have HW := Lib.hid hw; clear hw
  go_upto_region 2 with (first
    | (go_at_call 26; refine HW.out.mono ?_; rintro e w2 ⟨fa, fc, tt, rfl, hfs, htn, htm, hfl, hx2⟩; have HFS := Lib.hid hfs; have HTM := Lib.hid htm; have HX2 := Lib.hid hx2; clear hfs htn htm hx2))
  clear p0 HW
  go_wp2_with fail
  go_loopw [19] (fun i wr => ∃ k : Nat, i = .int .i64 k ∧ k ≤ n ∧ Hid ((ss.take k).findSome? (fun m => filesFault f ss m ((f m).getD pz).files) = none) ∧ Hid (Ext w2 wr)) (fun i _ => n - (intOf i).toNat)
  case atStart => exact ⟨0, rfl, Nat.zero_le _, Lib.hid rfl, Lib.hid (Ext.refl _)⟩
  case round =>
    obtain ⟨k, rfl, hk, hF, hX⟩ := hrel
    by_cases hlt : k < n
    · have hkL : k < ss.length := by have := HN.out; omega
      obtain ⟨g, off, rfl, _, hc⟩ := (HST.out.ext (HX1.out.trans (HX2.out.trans hX.out))).at (by intro e; rw [e] at hkL; simp at hkL)
      have c0 := hc k hkL
      clear hc
      obtain ⟨x, hx⟩ : ∃ x, x = ss.getD k [] := ⟨_, rfl⟩
      rw [← hx] at c0
      have hxs : x ∈ ss := by rw [hx, List.getD_eq_getElem?_getD, List.getElem?_eq_getElem hkL]; simp
      have HX := Lib.hid hx; clear hx
      obtain ⟨e, hfe⟩ := Option.isSome_iff_exists.1 ((HSS.out.2.2 x).1 hxs)
      have hge := HG.out x e hfe
      have hfl2 := right_lens hge.2.1
      have hxl : x.length ≤ 100000 := by rw [← hge.1]; omega
      have hget := fun W (k : Ext wr W) => base_get (.agg #[.map pm]) N f x W (HB.out.ext (HX2.out.trans (hX.out.trans k))) HG.out hxl
      rw [hfe] at hget
      have HGT := Lib.hid hget; clear hget
      have HFE := Lib.hid hfe; clear hfe
      have hf12 := hfl2.2.2.2.1
      have hpl := fun j (hj : j < e.files.length) => file_len hge.2.1 hj
      have HPL := Lib.hid hpl; clear hpl
      clear hge hfl2 hxs hxl
      have q0 := blk_cell ((HX2.out.trans hX.out).heap HB1.out) 0 (Value.map pm) rfl
      go_upto_region 6 with (first
        | (go_at_call 19; refine (HGT.out _ (Ext.refl _)).mono ?_; rintro E w3 ⟨A, rfl, hent, _, hx3⟩; obtain ⟨an, ac, af, au, cn, cc, cf, cu⟩ := A; unfold pkgV; have HFI := Lib.hid hent.files; have HX3 := Lib.hid hx3; clear hent hx3))
      simp only [Option.getD_some] at HFI ⊢
      clear q0 c0 HGT
      have hx4 := Ext.alloc w3 (.cells #[.string (bs e.name), .string (bs e.ver), .slice an e.needs.length cn, .slice ac e.conf.length cc, .slice af e.files.length cf, .slice au e.units.length cu] 37)
      have hf4 := heap_alloc_new w3 (.cells #[.string (bs e.name), .string (bs e.ver), .slice an e.needs.length cn, .slice ac e.conf.length cc, .slice af e.files.length cf, .slice au e.units.length cu] 37)
      generalize w3.alloc (.cells #[.string (bs e.name), .string (bs e.ver), .slice an e.needs.length cn, .slice ac e.conf.length cc, .slice af e.files.length cf, .slice au e.units.length cu] 37) = w4 at hx4 hf4 ⊢
      obtain ⟨F, hFF⟩ : ∃ x, x = w3.heap.size := ⟨_, rfl⟩
      rw [← hFF] at hf4 ⊢
      clear hFF
      have d4 := blk_cell hf4 4 (Value.slice af e.files.length cf) rfl
      have HX4 := Lib.hid ((hX.out.trans HX3.out).trans hx4)
      have HFI4 := Lib.hid (HFI.out.ext hx4); clear hx4 hf4 HFI
      go_wp2_with fail
      clear d4
      go_loopw [32] (fun i wr => ∃ j : Nat, i = .int .i64 j ∧ j ≤ e.files.length ∧ Hid (filesFault f ss x (e.files.take j) = none) ∧ Hid (Ext w4 wr)) (fun i _ => e.files.length - (intOf i).toNat)
      case atStart => exact ⟨0, rfl, Nat.zero_le _, Lib.hid rfl, Lib.hid (Ext.refl _)⟩
      case round =>
        obtain ⟨j, rfl, hj, hFj, hXj⟩ := hrel
        by_cases hjl : j < e.files.length
        · obtain ⟨g2, off2, rfl, _, h1, h2, h3⟩ := (HFI4.out.ext hXj.out).at hjl
          have hpl := HPL.out j hjl
          obtain ⟨m, hm⟩ : ∃ m, m = e.files.getD j fz := ⟨_, rfl⟩
          rw [← hm] at h1 h2 h3 hpl
          obtain ⟨mp, mc, md⟩ := m
          simp only at h1 h2 h3 hpl
          have HMM := Lib.hid hm; clear hm
          go_upto_region 9 with (fail)
          clear h1 h2 h3
          have hx5 := Ext.alloc wr (.cells #[.string (bs mp), .bool mc, .int .u32 (le32 md : Nat)] 71)
          have hf5 := heap_alloc_new wr (.cells #[.string (bs mp), .bool mc, .int .u32 (le32 md : Nat)] 71)
          generalize wr.alloc (.cells #[.string (bs mp), .bool mc, .int .u32 (le32 md : Nat)] 71) = w5 at hx5 hf5 ⊢
          obtain ⟨G, hGG⟩ : ∃ x, x = wr.heap.size := ⟨_, rfl⟩
          rw [← hGG] at hf5 ⊢
          clear hGG
          have HF5 := Lib.hid hf5
          have f0 := blk_cell hf5 0 (Value.string (bs mp)) rfl
          have HX5 := Lib.hid (HX4.out.trans (hXj.out.trans hx5))
          have HX5' := Lib.hid (hXj.out.trans hx5); clear hx5 hf5
          have q0 := blk_cell ((HX2.out.trans HX5.out).heap HB1.out) 0 (Value.map pm) rfl
          have how := base_owner (.agg #[.map pm]) N f mp w5 (HB.out.ext (HX2.out.trans HX5.out)) HG.out hN hpl
          have HOW := Lib.hid how; clear how
          go_upto_region 10 with (first
            | (go_at_call 25; refine HOW.out.mono ?_; rintro E w6 ⟨s2, hs2, rfl, hx6⟩; obtain rfl := HSS.out.eq hs2; unfold ownV fileVE; rw [ownerG_name]; have HX6 := Lib.hid hx6; clear hx6 hs2))
          clear q0 f0 HOW
          generalize ((ownerG f mp ss).map Prod.snd).getD fz = og
          have hx7 := Ext.alloc w6 (.cells #[.string (bs og.path), .bool og.config, .int .u32 (le32 og.data : Nat)] 71)
          generalize w6.alloc (.cells #[.string (bs og.path), .bool og.config, .int .u32 (le32 og.data : Nat)] 71) = w7 at hx7 ⊢
          have HX7 := Lib.hid (HX5.out.trans (HX6.out.trans hx7))
          have HX7' := Lib.hid (HX5'.out.trans (HX6.out.trans hx7))
          have f0 := blk_cell ((HX6.out.trans hx7).heap HF5.out) 0 (Value.string (bs mp)) rfl
          have HF7 := Lib.hid ((HX6.out.trans hx7).heap HF5.out); clear hx7
          by_cases ho : ownerN f ss mp = x
          · have hqb := bs_beq_eq ho
            have HO := Lib.hid ho; clear ho
            have hin := contains_in fa (allPaths f tt) fc mp G w7 (HE.out.ext (HX1.out.trans (HX2.out.trans HX7.out))) ⟨HFS.out.ext HX7.out, f0⟩ (by omega)
            rw [anyIn_all HSS.out HTM.out] at hin
            cases ha : anyIn f ss mp with
            | true =>
              rw [ha] at hin
              have HIN := Lib.hid hin; clear hin
              have HA := Lib.hid ha; clear ha
              go_upto_region 13 with (first
                | (go_at_call 33; refine HIN.out.mono ?_; rintro E w8 ⟨rfl, hx8⟩; have f8 := blk_cell (hx8.heap HF7.out) 0 (Value.string (bs mp)) rfl; have HX8 := Lib.hid hx8; clear hx8))
              have hrr := (HX2.out.trans (HX7.out.trans HX8.out)).heap HR1.out
              have r0 := blk_cell hrr 0 (Value.int .i64 0) rfl
              have r1 := blk_cell hrr 1 (Value.string ⟨#[]⟩) rfl
              have r2 := blk_cell hrr 2 (Value.string ⟨#[]⟩) rfl
              have g0 := blk_free hrr 0
              have g1 := blk_free hrr 1
              have g2 := blk_free hrr 2
              obtain ⟨hs6, hbut⟩ := set3f hrr (.int .i64 18) (.string (bs x)) (.string (bs mp))
              have HS6 := Lib.hid hs6; clear hs6
              have HBT := Lib.hid hbut; clear hbut hrr
              go_wp2_with fail
              have q0 := blk_cell HS6.out 0 (Value.int .i64 18) rfl
              have q1 := blk_cell HS6.out 1 (Value.string (bs x)) rfl
              have q2 := blk_cell HS6.out 2 (Value.string (bs mp)) rfl
              refine bodyPost_ret (v := .agg #[.int .i64 18, .string (bs x), .string (bs mp)]) (by simp [results, Tryz.results83, go_sem, q0, q1, q2]) rfl ?_
              rw [HR.out]
              have hz := HZ.out
              have hrl : RS < w1.heap.size := (Array.getElem?_eq_some_iff.1 HR1.out).1
              refine ⟨?_, ?_⟩
              · rw [found_files HSS.out HFE.out HN.out hkL HX.out hF.out hjl hFj.out (by rw [← HMM.out]; unfold fileBad; simp only; rw [HA.out]; simp) ]
                rw [← HMM.out]
                rfl
              exact (((Keep.of_ext (S := fun j => j < w.heap.size) (HX1.out.trans (HX2.out.trans (HX7.out.trans HX8.out)))).andThen (Keep.of_but HBT.out) (fun j hj _ => by show j ≠ RS; omega))).ext_lt
            | false =>
              rw [ha] at hin
              have HIN := Lib.hid hin; clear hin
              have HA := Lib.hid ha; clear ha
              go_wp2_with (first
                | (go_at_call 33; refine HIN.out.mono ?_; rintro E w8 ⟨rfl, hx8⟩; have HX8 := Lib.hid hx8; clear hx8))
              refine ⟨⟨j + 1, by go_num, by omega, Lib.hid ?_, Lib.hid (HX7'.out.trans HX8.out)⟩, by simp [intOf]; omega⟩
              have h := hFj.out
              unfold filesFault at h ⊢
              rw [some_snoc (d := fz) hjl h, ← HMM.out]
              have : fileBad f ss x ⟨mp, mc, md⟩ = false := by unfold fileBad; simp only; rw [decide_eq_true HO.out, HA.out]; rfl
              rw [this]
              rfl
          · have hqb := bs_beq_ne ho
            have HO := Lib.hid ho; clear ho
            go_upto_region 11 with (fail)
            have hrr := (HX2.out.trans HX7.out).heap HR1.out
            have r0 := blk_cell hrr 0 (Value.int .i64 0) rfl
            have r1 := blk_cell hrr 1 (Value.string ⟨#[]⟩) rfl
            have r2 := blk_cell hrr 2 (Value.string ⟨#[]⟩) rfl
            have g0 := blk_free hrr 0
            have g1 := blk_free hrr 1
            have g2 := blk_free hrr 2
            obtain ⟨hs6, hbut⟩ := set3f hrr (.int .i64 18) (.string (bs x)) (.string (bs mp))
            have HS6 := Lib.hid hs6; clear hs6
            have HBT := Lib.hid hbut; clear hbut hrr
            go_wp2_with fail
            have q0 := blk_cell HS6.out 0 (Value.int .i64 18) rfl
            have q1 := blk_cell HS6.out 1 (Value.string (bs x)) rfl
            have q2 := blk_cell HS6.out 2 (Value.string (bs mp)) rfl
            refine bodyPost_ret (v := .agg #[.int .i64 18, .string (bs x), .string (bs mp)]) (by simp [results, Tryz.results83, go_sem, q0, q1, q2]) rfl ?_
            rw [HR.out]
            have hz := HZ.out
            have hrl : RS < w1.heap.size := (Array.getElem?_eq_some_iff.1 HR1.out).1
            refine ⟨?_, ?_⟩
            · rw [found_files HSS.out HFE.out HN.out hkL HX.out hF.out hjl hFj.out (by rw [← HMM.out]; unfold fileBad; simp only; rw [decide_eq_false HO.out]; simp)]
              rw [← HMM.out]
              rfl
            exact (((Keep.of_ext (S := fun j => j < w.heap.size) (HX1.out.trans (HX2.out.trans HX7.out))).andThen (Keep.of_but HBT.out) (fun j hj _ => by show j ≠ RS; omega))).ext_lt
        · obtain rfl : j = e.files.length := by omega
          go_wp2_with fail
          refine ⟨⟨k + 1, by go_num, by omega, Lib.hid ?_, Lib.hid (HX4.out.trans hXj.out)⟩, by simp [intOf]; omega⟩
          rw [some_snoc (d := []) hkL hF.out, ← HX.out, HFE.out]
          have h := hFj.out
          rw [List.take_length] at h
          exact h
    · obtain rfl : k = n := by omega
      have hrr := (HX2.out.trans hX.out).heap HR1.out
      have r0 := blk_cell hrr 0 (Value.int .i64 0) rfl
      have r1 := blk_cell hrr 1 (Value.string ⟨#[]⟩) rfl
      have r2 := blk_cell hrr 2 (Value.string ⟨#[]⟩) rfl
      have g0 := blk_free hrr 0
      have g1 := blk_free hrr 1
      have g2 := blk_free hrr 2
      obtain ⟨hs6, hbut⟩ := set3f hrr (.int .i64 0) (.string ⟨#[]⟩) (.string ⟨#[]⟩)
      have HS6 := Lib.hid hs6; clear hs6
      have HBT := Lib.hid hbut; clear hbut hrr
      go_wp2_with fail
      have q0 := blk_cell HS6.out 0 (Value.int .i64 0) rfl
      have q1 := blk_cell HS6.out 1 (Value.string ⟨#[]⟩) rfl
      have q2 := blk_cell HS6.out 2 (Value.string ⟨#[]⟩) rfl
      refine bodyPost_ret (v := .agg #[.int .i64 0, .string ⟨#[]⟩, .string ⟨#[]⟩]) (by simp [results, Tryz.results83, go_sem, q0, q1, q2]) rfl ?_
      rw [HR.out]
      have hz := HZ.out
      have hrl : RS < w1.heap.size := (Array.getElem?_eq_some_iff.1 HR1.out).1
      refine ⟨?_, ?_⟩
      · have h := hF.out
        rw [List.take_of_length_le (by have := HN.out; omega)] at h
        unfold pathsFault
        rw [h]
        rfl
      exact (((Keep.of_ext (S := fun j => j < w.heap.size) (HX1.out.trans (HX2.out.trans hX.out))).andThen (Keep.of_but HBT.out) (fun j hj _ => by show j ≠ RS; omega))).ext_lt
end Go.Proofs.YtnclibfhbngkjaaGreatDoor
