/- The walk of farrierlaw11.BaseBack. -/
import Derived.Test.YtnclibfhbngkjaaGreatDoorBaseAlive
import Derived.Test.YtnclibfhbngkjaaGreatDoorBaseFew
import Derived.Test.YtnclibfhbngkjaaGreatDoorBaseKey
import Derived.Test.YtnclibfhbngkjaaGreatDoorRunApp
import Derived.Test.YtnclibfhbngkjaaGreatDoorArcRight
import Derived.Deep.CutRange
namespace Go.Proofs.YtnclibfhbngkjaaGreatDoor
open Go.RowKit
attribute [local go_sem ↓] Go.wp_at_zero Go.wp_at_succ
def pkO (x : StepD) : PkgD := x.1.2
theorem few_get {L : List StepD} (h : fewB L = true) {k : Nat} (hk : k < L.length) : SmallP (L.getD k sz).1.2 ∧ L.length ≤ 30 := by
  unfold fewB at h
  simp only [Bool.and_eq_true, decide_eq_true_eq] at h
  have := (List.all_eq_true.1 h.1) (L.getD k sz) (by rw [List.getD_eq_getElem?_getD, List.getElem?_eq_getElem hk]; simp)
  exact ⟨smallB_fit this, h.2⟩
theorem few_len {L : List StepD} (h : fewB L = true) : L.length ≤ 30 := by
  unfold fewB at h
  simp only [Bool.and_eq_true, decide_eq_true_eq] at h
  exact h.2
theorem firsts_k (L : List StepD) (k : Nat) : (firsts ((L.take k).map pkO)).length ≤ k := by
  refine Nat.le_trans (firsts_len _) ?_
  rw [List.length_map, List.length_take]
  omega
set_option maxRecDepth 100000 in
set_option maxHeartbeats 25600000 in
theorem base_back (a : Option Addr) (c : Nat) (L : List StepD) (a2 : Option Addr) (c2 : Nat) (L2 : List StepD) (w : World) (hE : EnvN w) (hL : StepsL w a L) (hl : L.length ≤ 1099511627776) (hL2 : StepsL w a2 L2) (hl2 : L2.length ≤ 1099511627776) :
    Calls Tryz.prog 3 #[.slice a L.length c, .slice a2 L2.length c2] w fun e w' => e = .returned (.bool true) ∧ Ext w w' := by
  obtain ⟨R, hR⟩ : ∃ R : Ending → World → Prop, R = fun e w' => e = .returned (.bool true) ∧ Ext w w' := ⟨_, rfl⟩
  rw [← hR]
  have HR := Lib.hid hR; clear hR
  have HL := Lib.hid hL; clear hL
  have HL2 := Lib.hid hL2; clear hL2
  have HE := Lib.hid hE; clear hE
  have hfw := fun W (k : Ext w W) => law_few a c L W (HL.out.ext k) hl
  have hfw2 := fun W (k : Ext w W) => law_few a2 c2 L2 W (HL2.out.ext k) hl2
  obtain ⟨n, hn⟩ : ∃ n, n = L.length := ⟨_, rfl⟩
  obtain ⟨n2, hn2⟩ : ∃ n, n = L2.length := ⟨_, rfl⟩
  rw [← hn] at hl hfw ⊢
  rw [← hn2] at hl2 hfw2 ⊢
  have HN := Lib.hid hn; clear hn
  have HN2 := Lib.hid hn2; clear hn2
  cases hb : fewB L with
  | false =>
    rw [hb] at hfw
    have HFW := Lib.hid hfw; clear hfw hb hfw2
    go_enter Tryz.func3, Tryz.ntmps3
    go_wp2_with (first
      | (go_at_call 8; refine (alive11 _ HE.out).mono ?_; rintro E w1 ⟨rfl, hx1⟩; have HX1 := Lib.hid hx1; clear hx1)
      | (go_at_call 9; refine (HFW.out _ HX1.out).mono ?_; rintro E w2 ⟨rfl, hx2⟩; have HX2 := Lib.hid hx2; clear hx2))
    rw [HR.out]
    exact ⟨rfl, HX1.out.trans HX2.out⟩
  | true =>
    rw [hb] at hfw
    have HFW := Lib.hid hfw; clear hfw
    have HSA := Lib.hid hb; clear hb
    cases hb2 : fewB L2 with
    | false =>
      rw [hb2] at hfw2
      have HFW2 := Lib.hid hfw2; clear hfw2 hb2
      go_enter Tryz.func3, Tryz.ntmps3
      go_wp2_with (first
        | (go_at_call 8; refine (alive11 _ HE.out).mono ?_; rintro E w1 ⟨rfl, hx1⟩; have HX1 := Lib.hid hx1; clear hx1)
        | (go_at_call_of 9 (Value.slice a n c); refine (HFW.out _ HX1.out).mono ?_; rintro E w2 ⟨rfl, hx2⟩; have HX2 := Lib.hid (HX1.out.trans hx2); clear hx2)
        | (go_at_call_of 9 (Value.slice a2 n2 c2); refine (HFW2.out _ HX2.out).mono ?_; rintro E w3 ⟨rfl, hx3⟩; have HX3 := Lib.hid (HX2.out.trans hx3); clear hx3))
      rw [HR.out]
      exact ⟨rfl, HX3.out⟩
    | true =>
      rw [hb2] at hfw2
      have HFW2 := Lib.hid hfw2; clear hfw2
      have HSA2 := Lib.hid hb2; clear hb2
      have hmk := @run_makeMap Tryz.prog
      go_enter Tryz.func3, Tryz.ntmps3
      go_wp2_with (first
        | (go_at_call 8; refine (alive11 _ HE.out).mono ?_; rintro E w1 ⟨rfl, hx1⟩; have HX1 := Lib.hid hx1; clear hx1)
        | (go_at_call_of 9 (Value.slice a n c); refine (HFW.out _ HX1.out).mono ?_; rintro E w2 ⟨rfl, hx2⟩; have HX2 := Lib.hid (HX1.out.trans hx2); clear hx2)
        | (go_at_call_of 9 (Value.slice a2 n2 c2); refine (HFW2.out _ HX2.out).mono ?_; rintro E w3 ⟨rfl, hx3⟩; have HX3 := Lib.hid (HX2.out.trans hx3); clear hx3))
      clear hmk HX2 HX1
      have HX2 := HX3; clear HX3
      obtain ⟨w2, rfl⟩ : ∃ x : World, x = w3 := ⟨_, rfl⟩
      have hx6 : Ext w2 ((((w2.alloc (.cells #[] 37)).alloc (.cells #[] 37)).alloc (.map #[] 0)).alloc (.map #[] 0)) := (((Ext.alloc _ _).trans (Ext.alloc _ _)).trans (Ext.alloc _ _)).trans (Ext.alloc _ _)
      have hg6 := ((Ext.alloc (w2.alloc (.cells #[] 37)) (.cells #[] 37)).trans ((Ext.alloc ((w2.alloc (.cells #[] 37)).alloc (.cells #[] 37)) (.map #[] 0)).trans (Ext.alloc (((w2.alloc (.cells #[] 37)).alloc (.cells #[] 37)).alloc (.map #[] 0)) (.map #[] 0)))).heap (heap_alloc_new w2 (.cells #[] 37))
      have hm6 := (MapF.made keyS ((w2.alloc (.cells #[] 37)).alloc (.cells #[] 37)) 9).ext (Ext.alloc (((w2.alloc (.cells #[] 37)).alloc (.cells #[] 37)).alloc (.map #[] 0)) (.map #[] 0))
      have hm7 := MapF.made keyS (((w2.alloc (.cells #[] 37)).alloc (.cells #[] 37)).alloc (.map #[] 0)) 9
      simp only [World.size_alloc] at hm6 hm7
      generalize ((((w2.alloc (.cells #[] 37)).alloc (.cells #[] 37)).alloc (.map #[] 0)).alloc (.map #[] 0)) = w6 at hx6 hg6 hm6 hm7 ⊢
      obtain ⟨G, hG⟩ : ∃ x, x = w2.heap.size := ⟨_, rfl⟩
      obtain ⟨M1, hM1⟩ : ∃ x, x = w2.heap.size + 1 + 1 := ⟨_, rfl⟩
      obtain ⟨M2, hM2⟩ : ∃ x, x = w2.heap.size + 1 + 1 + 1 := ⟨_, rfl⟩
      try rw [← hM2] at hm7 ⊢
      try rw [← hM1] at hm6 ⊢
      try rw [show w2.heap.size + 2 = M1 by omega, show w2.heap.size + 3 = M2 by omega]
      obtain ⟨Y0, hY0⟩ : ∃ x, x = w2.heap.size + 1 := ⟨_, rfl⟩
      try rw [← hY0]
      rw [← hG] at hg6 ⊢
      have ho6 : OwnEn w6 G (some ⟨G, 0, none⟩) 0 [] := OwnEn.new hg6 (Nat.le_refl _)
      have HG : Hid (G = w2.heap.size ∧ M1 = G + 2 ∧ M2 = G + 3) := Lib.hid ⟨hG, by omega, by omega⟩
      have HO6 := Lib.hid ho6
      have HM6 : Hid (MapF keyS w6 9 M1 0 (txtF [])) := Lib.hid (hm6.same txtF_nil.symm)
      have HM7 : Hid (MapF keyS w6 9 M2 0 (txtF [])) := Lib.hid (hm7.same txtF_nil.symm)
      have HX6 := Lib.hid hx6
      clear hG hM1 hM2 hY0 ho6 hm6 hm7 hx6 hg6
      go_loopw [5, 36] (fun v i wr => ∃ (k : Nat) (X : List (PkgD × PkgA)) (aX : Option Addr) (cX : Nat), v = .slice aX X.length cX ∧ i = .int .i64 k ∧ k ≤ n ∧ Hid (X.map Prod.fst = firsts ((L.take k).map pkO)) ∧ Hid (OwnEn wr G aX cX X) ∧ Hid (MapF keyS wr 9 M1 k (txtF (X.map Prod.fst))) ∧ Hid (MapF keyS wr 9 M2 0 (txtF [])) ∧ Hid (Ext w2 wr)) (fun _ i _ => n - (intOf i).toNat)
      case atStart => exact ⟨0, [], _, _, rfl, rfl, Nat.zero_le _, Lib.hid rfl, HO6, HM6, HM7, HX6⟩
      case round =>
        obtain ⟨k, X, aX, cX, rfl, rfl, hk, hXE, hO, hM1, hM2, hX⟩ := hrel
        by_cases hlt : k < n
        · 
          have hkL : k < L.length := by have := HN.out; omega
          obtain ⟨g, off, rfl, _, ⟨c0, c1, c2, c3, c4, c5, c6⟩, hpm, hpc⟩ := (HL.out.ext (HX2.out.trans hX.out)).at hkL
          have hpm2 : PkgM w2 (L.getD k sz).1.2 (L.getD k sz).2 := by
            obtain ⟨_, _, _, _, _, h, _⟩ := (HL.out.ext HX2.out).at hkL
            exact h
          have hsp := few_get HSA.out hkL
          have hn30 : n ≤ 30 := by have := HN.out; have := hsp.2; omega
          have hsp := hsp.1
          have hfo := firsts_one (F := pkO) (d := sz) hkL
          have hgd := firsts_good ((L.take k).map pkO)
          have hfl := firsts_k L k
          unfold pkO at hfo
          obtain ⟨y, hy⟩ : ∃ y, y = L.getD k sz := ⟨_, rfl⟩
          rw [← hy] at c0 c1 c2 c3 c4 c5 c6 hpm hpm2 hpc hsp hfo
          clear hy
          obtain ⟨⟨kd, p⟩, pA⟩ := y
          obtain ⟨an, ac, af, au, cn, cq, cf, cu⟩ := pA
          simp only at c0 c1 c2 c3 c4 c5 c6 hpm hpm2 hpc hsp hfo
          have HPM2 := Lib.hid hpm2; clear hpm2
          have hpk : ∀ M : List StepD, M.map (fun x => x.1.2) = M.map pkO := fun _ => rfl
          simp only [hpk] at hfo
          clear hpk
          rw [← hXE.out] at hfo hgd hfl
          have hxl : X.length ≤ k := by simpa using hfl
          have HFO := Lib.hid hfo; clear hfo
          have HGD := Lib.hid hgd; clear hgd
          have HSP := Lib.hid hsp; clear hsp
          have HPC := Lib.hid hpc; clear hpc hfl
          go_upto_region 10 with (fail)
          clear c0 c1 c2 c3 c4 c5 c6
          have hx_w5 : Ext wr (wr.alloc (.cells #[.int .i64 kd, .string (bs p.name), .string (bs p.ver), .slice an p.needs.length cn, .slice ac p.conf.length cq, .slice af p.files.length cf, .slice au p.units.length cu] 33)) := (Ext.alloc _ _)
          have hf_T := heap_alloc_new wr (.cells #[.int .i64 kd, .string (bs p.name), .string (bs p.ver), .slice an p.needs.length cn, .slice ac p.conf.length cq, .slice af p.files.length cf, .slice au p.units.length cu] 33)
          generalize wr.alloc (.cells #[.int .i64 kd, .string (bs p.name), .string (bs p.ver), .slice an p.needs.length cn, .slice ac p.conf.length cq, .slice af p.files.length cf, .slice au p.units.length cu] 33) = w5 at hx_w5 hf_T ⊢
          obtain ⟨T, h_T⟩ : ∃ x, x = wr.heap.size := ⟨_, rfl⟩
          rw [← h_T] at hf_T
          try rw [← h_T]
          have hs_T : wr.heap.size ≤ T := by omega
          clear h_T
          have HT := Lib.hid hf_T
          have d1 := blk_cell hf_T 1 (Value.string (bs p.name)) rfl
          have d2 := blk_cell hf_T 2 (Value.string (bs p.ver)) rfl
          have d3 := blk_cell hf_T 3 (Value.slice an p.needs.length cn) rfl
          have d4 := blk_cell hf_T 4 (Value.slice ac p.conf.length cq) rfl
          have d5 := blk_cell hf_T 5 (Value.slice af p.files.length cf) rfl
          have d6 := blk_cell hf_T 6 (Value.slice au p.units.length cu) rfl
          have hrt := arc_right0 p an ac af au cn cq cf cu w5 (HE.out.ext (HX2.out.trans (hX.out.trans hx_w5))) (hpm.ext hx_w5) (SmallP.fit HSP.out) HPC.out.2.2.1
          have HRT := Lib.hid hrt; clear hrt
          have HPM := Lib.hid (hpm.ext hx_w5); clear hpm
          have HX5 := Lib.hid hx_w5; clear hx_w5 hf_T hs_T
          cases hr : rightP p with
          | false =>
            rw [hr] at HRT
            go_wp2_with (go_at_call 10; refine HRT.out.mono ?_; rintro E w6 ⟨rfl, hx6⟩; have HX6 := Lib.hid hx6; clear hx6)
            have hxe := HX5.out.trans HX6.out
            have hfn := HFO.out
            rw [addNew_no hr] at hfn
            exact ⟨⟨k + 1, X, aX, cX, rfl, by go_num, by omega, Lib.hid (by rw [hfn]), Lib.hid (hO.out.ext hxe), Lib.hid ((hM1.out.ext hxe).mono (by omega)), Lib.hid (hM2.out.ext hxe), Lib.hid (hX.out.trans hxe)⟩, by simp [intOf]; omega⟩
          | true =>
            rw [hr] at HRT
            have HRP := Lib.hid hr; clear hr
            have hfl := right_lens HRP.out
            have hkey := key_by (x := p.name) (by omega)
            obtain ⟨t, ht1, ht2⟩ := txtF_look HGD.out.2 p.name
            have HT2 := Lib.hid ht2; clear ht2
            have HFL := Lib.hid hfl; clear hfl
            cases ha : ((X.map Prod.fst).any fun e => decide (e.name = p.name)) with
            | true =>
              have hte : t ≠ [] := fun e => by have := HT2.out.2 e; rw [ha] at this; cases this
              have heq : (bs t).toList.isEmpty = false := by
                rw [bs_toList]
                cases t with
                | nil => exact absurd rfl hte
                | cons _ _ => rfl
              go_wp2_with (first
                | (go_at_call 10; refine HRT.out.mono ?_; rintro E w6 ⟨rfl, hx6⟩; have HX6 := Lib.hid hx6; clear hx6; have e1 := HX6.out.cell d1; have hlk := (hM1.out.ext (HX5.out.trans HX6.out)).lookup (t := 26) str_keyed Tryz.underlying26 (Tryz.zeroValue9 w6) hkey; rw [ht1] at hlk))
              have hxe := HX5.out.trans HX6.out
              have hfn := HFO.out
              rw [addNew_old ha] at hfn
              exact ⟨⟨k + 1, X, aX, cX, rfl, by go_num, by omega, Lib.hid (by rw [hfn]), Lib.hid (hO.out.ext hxe), Lib.hid ((hM1.out.ext hxe).mono (by omega)), Lib.hid (hM2.out.ext hxe), Lib.hid (hX.out.trans hxe)⟩, by simp [intOf]; omega⟩
            | false =>
              have heq : (bs t).toList.isEmpty = true := by rw [bs_toList, HT2.out.1 ha]; rfl
              have HAN := Lib.hid ha; clear ha
              go_upto_region 11 with (first
                | (go_at_call 10; refine HRT.out.mono ?_; rintro E w6 ⟨rfl, hx6⟩; have HX6 := Lib.hid hx6; clear hx6; have e1 := HX6.out.cell d1; have hlk := (hM1.out.ext (HX5.out.trans HX6.out)).lookup (t := 26) str_keyed Tryz.underlying26 (Tryz.zeroValue9 w6) hkey; rw [ht1] at hlk))
              clear d1 d2 d3 d4 d5 d6 HRT heq e1 ht1 HT2
              try clear hlk
              have HT6 := Lib.hid (HX6.out.heap HT.out); clear HT
              have d1 := blk_cell HT6.out 1 (Value.string (bs p.name)) rfl
              have d2 := blk_cell HT6.out 2 (Value.string (bs p.ver)) rfl
              have d3 := blk_cell HT6.out 3 (Value.slice an p.needs.length cn) rfl
              have d4 := blk_cell HT6.out 4 (Value.slice ac p.conf.length cq) rfl
              have d5 := blk_cell HT6.out 5 (Value.slice af p.files.length cf) rfl
              have d6 := blk_cell HT6.out 6 (Value.slice au p.units.length cu) rfl
              have hfl := HFL.out
              have hof := base_of0 p an ac af au cn cq cf cu w6 (HPM.out.ext HX6.out) hfl.2.1 hfl.2.2.1 hfl.2.2.2.1 hfl.2.2.2.2 (fun z hz => Nat.le_trans (HSP.out.files z hz).2 (by omega))
              have HOF := Lib.hid hof; clear hof hfl
              have HXr6 := Lib.hid (HX5.out.trans HX6.out)
              have HPM6 := Lib.hid (HPM.out.ext HX6.out)
              clear HPM HX5 HX6
              go_upto_region 12 with (first
                | (go_at_call 11; refine HOF.out.mono ?_; rintro E w7 ⟨eA, hEE, hent, hpc2, hfr, hx7⟩; obtain ⟨en, ec, ef, eu, ecn, ecc, ecf, ecu⟩ := eA; unfold pkgV at hEE; subst hEE; have HENT := Lib.hid hent; have HPC2 := Lib.hid hpc2; have HFR := Lib.hid hfr; have HX7 := Lib.hid hx7; clear hent hpc2 hfr hx7)
                | (at_builtin; refine Hid.out ?_))
              refine Lib.hid ?_
              have hlt6 : ∀ g, (Value.slice aX X.length cX).ownBlock = some g → g < w6.heap.size := fun g e => Nat.lt_of_lt_of_le (World.ownsRow.lt hO.out.1 g e).2 HXr6.out.size
              have hx67 := HXr6.out.trans (HX7.out.trans (Ext.alloc w7 (.cells (enV (ofP p, ⟨en, ec, ef, eu, ecn, ecc, ecf, ecu⟩)).toArray 37)))
              have hx77 := Ext.alloc w7 (.cells (enV (ofP p, ⟨en, ec, ef, eu, ecn, ecc, ecf, ecu⟩)).toArray 37)
              have hbn := heap_alloc_new w7 (.cells (enV (ofP p, ⟨en, ec, ef, eu, ecn, ecc, ecf, ecu⟩)).toArray 37)
              have HXA := Lib.hid hx67; clear hx67
              have HXB := Lib.hid hx77; clear hx77
              have HL6 := Lib.hid hlt6; clear hlt6
              have HBN := Lib.hid hbn; clear hbn
              have HSZ : Hid (G ≤ w7.heap.size + 1) := Lib.hid (by have := HX2.out.size; have := hX.out.size; have := HXr6.out.size; have := HX7.out.size; have := HG.out; omega)
              refine append_big rfl (.tmp 51) (.tmp 55) 25 37 (.agg #[.string ⟨#[]⟩, .string ⟨#[]⟩, .slice none 0 0, .slice none 0 0, .slice none 0 0, .slice none 0 0]) 6 128 rfl Tryz.underlying25 info_ent rfl (by decide) G aX X.length cX (X.flatMap enV) rfl (ownsRow_ext hO.out.1 HXA.out) w7.heap.size 1 1 (enV (ofP p, ⟨en, ec, ef, eu, ecn, ecc, ecf, ecu⟩)) _ _ rfl (by rfl) HBN.out (by intro u hu; exact enV_one [(ofP p, ⟨en, ec, ef, eu, ecn, ecc, ecf, ecu⟩)] u (by simpa using hu)) (by omega) (by omega) (by decide) (by rw [World.size_alloc]; exact HSZ.out) (X.length + 1) rfl ?_
              intro g1 cap1 w8 hown3 hk3 hb3 hat3
              have hadd := OwnEn.add (wc := w6) (x := (ofP p, ⟨en, ec, ef, eu, ecn, ecc, ecf, ecu⟩)) (hO.out.ext HXA.out) HL6.out (HENT.out.ext HXB.out) HPC2.out HFR.out hown3 hk3 hat3
              have HO8 := Lib.hid hadd; clear hadd
              have hm8 : MapF keyS w8 9 M1 k (txtF (X.map Prod.fst)) := by
                have h := hM1.out.ext HXA.out
                obtain ⟨es, cl, hb⟩ := h.block
                exact h.keep hk3 (own_not_map (ownsRow_ext hO.out.1 HXA.out) hb)
              have hn8 : MapF keyS w8 9 M2 0 (txtF []) := by
                have h := hM2.out.ext HXA.out
                obtain ⟨es, cl, hb⟩ := h.block
                exact h.keep hk3 (own_not_map (ownsRow_ext hO.out.1 HXA.out) hb)
              have ht8 : w8.heap[T]? = some (.cells #[.int .i64 kd, .string (bs p.name), .string (bs p.ver), .slice an p.needs.length cn, .slice ac p.conf.length cq, .slice af p.files.length cf, .slice au p.units.length cu] 33 (0, 0)) := by
                have h := (HX7.out.trans HXB.out).heap HT6.out
                exact hk3.heap (own_apart (ownsRow_ext hO.out.1 HXA.out) h (by decide)) h
              have hx8 : Ext w2 w8 := ((Keep.of_ext (S := fun j => j < w2.heap.size) (hX.out.trans HXA.out)).trans ((Keep.of_below hb3).mono (fun j _ (hj : j < w2.heap.size) => by have := HG.out; show j < G; omega))).ext_lt
              have HM8 := Lib.hid hm8; clear hm8
              have HN8 := Lib.hid hn8; clear hn8
              have HT8 := Lib.hid ht8; clear ht8
              have HX8 := Lib.hid hx8; clear hx8
              clear hown3 hk3 hb3 hat3 HXA HXB HL6 HBN HSZ HENT HPC2 HFR HX7 HT6 hO hM1 hM2 HXr6 HPM6 hX HOF d1 d2 d3 d4 d5 d6
              go_upto_region 12 with fail
              have hcs : ∀ W, Ext w8 W → (W.cell? ⟨T, 1, none⟩ = some (.string (bs p.name)) ∧ W.cell? ⟨T, 2, none⟩ = some (.string (bs p.ver)) ∧ W.cell? ⟨T, 3, none⟩ = some (.slice an p.needs.length cn) ∧ W.cell? ⟨T, 4, none⟩ = some (.slice ac p.conf.length cq) ∧ W.cell? ⟨T, 5, none⟩ = some (.slice af p.files.length cf) ∧ W.cell? ⟨T, 6, none⟩ = some (.slice au p.units.length cu)) := fun W k => ⟨blk_cell (k.heap HT8.out) 1 (Value.string (bs p.name)) rfl, blk_cell (k.heap HT8.out) 2 (Value.string (bs p.ver)) rfl, blk_cell (k.heap HT8.out) 3 (Value.slice an p.needs.length cn) rfl, blk_cell (k.heap HT8.out) 4 (Value.slice ac p.conf.length cq) rfl, blk_cell (k.heap HT8.out) 5 (Value.slice af p.files.length cf) rfl, blk_cell (k.heap HT8.out) 6 (Value.slice au p.units.length cu) rfl⟩
              have HCS := Lib.hid hcs; clear hcs
              have hpm8 := HPM2.out.ext HX8.out
              have HPM8 := Lib.hid hpm8; clear hpm8
              have HK := Lib.hid ((Ext.refl w8).drew)
              refine wp_region_noPanic ?_
              refine wp_region_held_drew (S := (fun W => W.cell? ⟨T, 1, none⟩ = some (.string (bs p.name)) ∧ W.cell? ⟨T, 2, none⟩ = some (.string (bs p.ver)) ∧ W.cell? ⟨T, 3, none⟩ = some (.slice an p.needs.length cn) ∧ W.cell? ⟨T, 4, none⟩ = some (.slice ac p.conf.length cq) ∧ W.cell? ⟨T, 5, none⟩ = some (.slice af p.files.length cf) ∧ W.cell? ⟨T, 6, none⟩ = some (.slice au p.units.length cu))) (by kernel_rfl) (HCS.out _ HK.out) (fun hHeld => ?_)
              clear hHeld
              generalize w8.drew = wc at HK ⊢
              refine wpAnyH_take (i := 0) (v := ?_) rfl (by kernel_rfl) (by kernel_rfl) (by kernel_rfl) (fun _ _ _ h => h) (Or.inl ⟨by kernel_rfl, ?_⟩) (HCS.out _ HK.out) ?_
              rotate_left
              · (intro wq _; first | (go_simp; done) | (go_simp; with_reducible rfl))
              try simp only [List.getElem_toArray, List.getElem_cons_zero, Act.put, List.setIfInBounds_toArray, List.set_cons_zero, List.set_cons_succ]
              refine wpAnyH_take (i := 1) (v := ?_) rfl (by kernel_rfl) (by kernel_rfl) (by kernel_rfl) (fun _ _ _ h => h) (Or.inl ⟨by kernel_rfl, ?_⟩) (HCS.out _ HK.out) ?_
              rotate_left
              · (intro wq _; first | (go_simp; done) | (go_simp; with_reducible rfl))
              try simp only [List.getElem_toArray, List.getElem_cons_zero, List.getElem_cons_succ, Act.put, List.setIfInBounds_toArray, List.set_cons_zero, List.set_cons_succ]
              refine wpAnyH_take (i := 2) (v := ?_) rfl (by kernel_rfl) (by kernel_rfl) (by kernel_rfl) (fun _ _ _ h => h) (Or.inl ⟨by kernel_rfl, ?_⟩) (HCS.out _ HK.out) ?_
              rotate_left
              · (intro wq _; first | (go_simp; done) | (go_simp; with_reducible rfl))
              try simp only [List.getElem_toArray, List.getElem_cons_zero, List.getElem_cons_succ, Act.put, List.setIfInBounds_toArray, List.set_cons_zero, List.set_cons_succ]
              refine wpAnyH_take (i := 3) (v := ?_) rfl (by kernel_rfl) (by kernel_rfl) (by kernel_rfl) (fun _ _ _ h => h) (Or.inl ⟨by kernel_rfl, ?_⟩) (HCS.out _ HK.out) ?_
              rotate_left
              · (intro wq hSw; (try dsimp only at hSw); first | (go_simp; done) | (go_simp; with_reducible rfl))
              try simp only [List.getElem_toArray, List.getElem_cons_zero, List.getElem_cons_succ, Act.put, List.setIfInBounds_toArray, List.set_cons_zero, List.set_cons_succ]
              refine wpAnyH_take (i := 4) (v := ?_) rfl (by kernel_rfl) (by kernel_rfl) (by kernel_rfl) (fun _ _ _ h => h) (Or.inl ⟨by kernel_rfl, ?_⟩) (HCS.out _ HK.out) ?_
              rotate_left
              · (intro wq _; first | (go_simp; done) | (go_simp; with_reducible rfl))
              try simp only [List.getElem_toArray, List.getElem_cons_zero, List.getElem_cons_succ, Act.put, List.setIfInBounds_toArray, List.set_cons_zero, List.set_cons_succ]
              refine wpAnyH_take (i := 5) (v := ?_) rfl (by kernel_rfl) (by kernel_rfl) (by kernel_rfl) (fun _ _ _ h => h) (Or.inl ⟨by kernel_rfl, ?_⟩) (HCS.out _ HK.out) ?_
              rotate_left
              · (intro wq hSw; (try dsimp only at hSw); first | (go_simp; done) | (go_simp; with_reducible rfl))
              try simp only [List.getElem_toArray, List.getElem_cons_zero, List.getElem_cons_succ, Act.put, List.setIfInBounds_toArray, List.set_cons_zero, List.set_cons_succ]
              all_goals (
                first
                  | refine wpAnyH_ready (rs := [6]) (by decide +kernel) (by simp) ?_
                repeat' (first | exact AllReadyH.nil | (refine AllReadyH.cons rfl (fun K hK => ?_) ?_)))
              all_goals (
                first
                  | (go_simp
                     first
                       | (go_at_call 12
                          refine (base_key p an ac af au cn cq cf cu wc (HPM8.out.ext HK.out) HRP.out).mono ?_
                          rintro E2 wn ⟨rfl, hx⟩
                          replace HK := Lib.hid (HK.out.trans hx)
                          clear hx
                          go_wp2_with fail
                          refine hK.out _ _ (HCS.out _ HK.out) (fun _ => ?_)
                          clear hK K
                          obtain ⟨wc, rfl⟩ : ∃ x : World, x = wn := ⟨_, rfl⟩
                          try simp only [List.getElem_toArray, List.getElem_cons_zero, List.getElem_cons_succ, Act.put, List.setIfInBounds_toArray, List.set_cons_zero, List.set_cons_succ])))
              all_goals (
                refine wpAnyH_ready (rs := [7]) (by kernel_rfl) (by simp) ?_
                refine AllReadyH.cons rfl (fun K hK => ?_) AllReadyH.nil
                have hmw := HM8.out.ext HK.out
                obtain ⟨wn, hrun, hmn, hkn⟩ := hmw.store (t := 26) str_keyed Tryz.underlying26 (by unfold maxLen; omega) keyS_inj (.string (bs (packP (ofP p)))) hkey
                obtain ⟨mes, mcl, hmb⟩ := hmw.block
                clear hmw
                have htn := hkn.heap (g := T) (by intro e; have h := HK.out.heap HT8.out; rw [e, hmb] at h; cases h) (HK.out.heap HT8.out)
                go_simp
                refine hK.out _ _ ⟨blk_cell htn 1 (Value.string (bs p.name)) rfl, blk_cell htn 2 (Value.string (bs p.ver)) rfl, blk_cell htn 3 (Value.slice an p.needs.length cn) rfl, blk_cell htn 4 (Value.slice ac p.conf.length cq) rfl, blk_cell htn 5 (Value.slice af p.files.length cf) rfl, blk_cell htn 6 (Value.slice au p.units.length cu) rfl⟩ (fun _ => ?_)
                clear hK K hrun htn
                try simp only [List.getElem_toArray, List.getElem_cons_zero, List.getElem_cons_succ, Act.put, List.setIfInBounds_toArray, List.set_cons_zero, List.set_cons_succ])
              all_goals (
                refine wpAnyH_done (by kernel_rfl) ?_ _
                refine NoPanic.normal ?_
                go_wp2_with fail
                have hfn := HFO.out
                rw [addNew_new HRP.out HAN.out] at hfn
                have hon := (HO8.out.ext HK.out).keepm hkn hmb
                have hn2 := (HN8.out.ext HK.out).keep hkn (show M2 ≠ M1 by have := HG.out; omega)
                have hmn := (hmn.same (by rw [show p.name = (ofP p).name from rfl]; exact txtF_add _ _)).same (show txtF (X.map Prod.fst ++ [ofP p]) = txtF ((X ++ [((ofP p, ⟨en, ec, ef, eu, ecn, ecc, ecf, ecu⟩) : PkgD × PkgA)]).map Prod.fst) by rw [List.map_append]; rfl)
                have hxn : Ext w2 wn := ((Keep.of_ext (S := fun j => j < w2.heap.size) (HX8.out.trans HK.out)).andThen hkn (fun j hj _ => by have := HG.out; have : j < w2.heap.size := ‹_›; show j ≠ M1; omega)).ext_lt
                go_roundw
                case rel => exact ⟨k + 1, X ++ [(ofP p, ⟨en, ec, ef, eu, ecn, ecc, ecf, ecu⟩)], some ⟨g1, 0, none⟩, cap1, by simp, by go_num, by omega, Lib.hid (by rw [hfn, List.map_append]; rfl), Lib.hid hon, Lib.hid hmn, Lib.hid hn2, Lib.hid hxn⟩
                case measure => simp [intOf]; omega)
        · obtain rfl : n = k := by omega
          clear hk hlt
          have hxl := hXE.out
          rw [List.take_of_length_le (by have := HN.out; omega)] at hxl
          obtain ⟨E1, hE1⟩ : ∃ x, x = X.map Prod.fst := ⟨_, rfl⟩
          rw [← hE1] at hxl hM1
          have HE1 := Lib.hid hE1; clear hE1
          have HEF1 := Lib.hid hxl; clear hxl
          have HO1 := Lib.hid hO.out.out
          clear hO hXE HO6 HM6 HM7 HX6
          go_wp2_with fail
          go_loopw [6, 67] (fun v i wr => ∃ (k : Nat) (Y : List (PkgD × PkgA)) (aY : Option Addr) (cY : Nat) (E : List PkgD), v = .slice aY Y.length cY ∧ i = .int .i64 k ∧ k ≤ n2 ∧ Hid (E = firsts ((L2.take k).map pkO)) ∧ Hid (Y.map Prod.fst = E.reverse) ∧ Hid (OutEn wr aY Y) ∧ Hid (MapF keyS wr 9 M2 k (txtF E)) ∧ Hid (OutEn wr aX X) ∧ Hid (MapF keyS wr 9 M1 n (txtF E1)) ∧ Hid (Ext w2 wr)) (fun _ i _ => n2 - (intOf i).toNat)
          case atStart => exact ⟨0, [], _, _, [], rfl, rfl, Nat.zero_le _, Lib.hid rfl, Lib.hid rfl, Lib.hid (OutEn.nil _ _), hM2, HO1, hM1, hX⟩
          case round =>
            clear hM2 HO1 hM1 hX
            obtain ⟨k, Y, aY, cY, E, rfl, rfl, hk, hXE, hYE, hY, hM2, hO, hM1, hX⟩ := hrel
            by_cases hlt : k < n2
            · 
              have hkL : k < L2.length := by have := HN2.out; omega
              obtain ⟨g, off, rfl, _, ⟨c0, c1, c2, c3, c4, c5, c6⟩, hpm, hpc⟩ := (HL2.out.ext (HX2.out.trans hX.out)).at hkL
              have hpm2 : PkgM w2 (L2.getD k sz).1.2 (L2.getD k sz).2 := by
                obtain ⟨_, _, _, _, _, h, _⟩ := (HL2.out.ext HX2.out).at hkL
                exact h
              have hsp := few_get HSA2.out hkL
              have hn30 : n2 ≤ 30 := by have := HN2.out; have := hsp.2; omega
              have hsp := hsp.1
              have hfo := firsts_one (F := pkO) (d := sz) hkL
              have hgd := firsts_good ((L2.take k).map pkO)
              have hfl := firsts_k L2 k
              unfold pkO at hfo
              obtain ⟨y, hy⟩ : ∃ y, y = L2.getD k sz := ⟨_, rfl⟩
              rw [← hy] at c0 c1 c2 c3 c4 c5 c6 hpm hpm2 hpc hsp hfo
              clear hy
              obtain ⟨⟨kd, p⟩, pA⟩ := y
              obtain ⟨an, ac, af, au, cn, cq, cf, cu⟩ := pA
              simp only at c0 c1 c2 c3 c4 c5 c6 hpm hpm2 hpc hsp hfo
              have HPM2 := Lib.hid hpm2; clear hpm2
              have hpk : ∀ M : List StepD, M.map (fun x => x.1.2) = M.map pkO := fun _ => rfl
              simp only [hpk] at hfo
              clear hpk
              rw [← hXE.out] at hfo hgd hfl
              have hxl : Y.length ≤ k := by
                have h := congrArg List.length hYE.out
                rw [List.length_map, List.length_reverse] at h
                omega
              have HFO := Lib.hid hfo; clear hfo
              have HGD := Lib.hid hgd; clear hgd
              have HSP := Lib.hid hsp; clear hsp
              have HPC := Lib.hid hpc; clear hpc hfl
              go_upto_region 17 with (fail)
              clear c0 c1 c2 c3 c4 c5 c6
              have hx_w5 : Ext wr (wr.alloc (.cells #[.int .i64 kd, .string (bs p.name), .string (bs p.ver), .slice an p.needs.length cn, .slice ac p.conf.length cq, .slice af p.files.length cf, .slice au p.units.length cu] 33)) := (Ext.alloc _ _)
              have hf_T := heap_alloc_new wr (.cells #[.int .i64 kd, .string (bs p.name), .string (bs p.ver), .slice an p.needs.length cn, .slice ac p.conf.length cq, .slice af p.files.length cf, .slice au p.units.length cu] 33)
              generalize wr.alloc (.cells #[.int .i64 kd, .string (bs p.name), .string (bs p.ver), .slice an p.needs.length cn, .slice ac p.conf.length cq, .slice af p.files.length cf, .slice au p.units.length cu] 33) = w5 at hx_w5 hf_T ⊢
              obtain ⟨T, h_T⟩ : ∃ x, x = wr.heap.size := ⟨_, rfl⟩
              rw [← h_T] at hf_T
              try rw [← h_T]
              have hs_T : wr.heap.size ≤ T := by omega
              clear h_T
              have HT := Lib.hid hf_T
              have d1 := blk_cell hf_T 1 (Value.string (bs p.name)) rfl
              have d2 := blk_cell hf_T 2 (Value.string (bs p.ver)) rfl
              have d3 := blk_cell hf_T 3 (Value.slice an p.needs.length cn) rfl
              have d4 := blk_cell hf_T 4 (Value.slice ac p.conf.length cq) rfl
              have d5 := blk_cell hf_T 5 (Value.slice af p.files.length cf) rfl
              have d6 := blk_cell hf_T 6 (Value.slice au p.units.length cu) rfl
              have hrt := arc_right0 p an ac af au cn cq cf cu w5 (HE.out.ext (HX2.out.trans (hX.out.trans hx_w5))) (hpm.ext hx_w5) (SmallP.fit HSP.out) HPC.out.2.2.1
              have HRT := Lib.hid hrt; clear hrt
              have HPM := Lib.hid (hpm.ext hx_w5); clear hpm
              have HX5 := Lib.hid hx_w5; clear hx_w5 hf_T hs_T
              cases hr : rightP p with
              | false =>
                rw [hr] at HRT
                go_wp2_with (go_at_call 10; refine HRT.out.mono ?_; rintro E w6 ⟨rfl, hx6⟩; have HX6 := Lib.hid hx6; clear hx6)
                have hxe := HX5.out.trans HX6.out
                have hfn := HFO.out
                rw [addNew_no hr] at hfn
                exact ⟨⟨k + 1, Y, aY, cY, E, rfl, by go_num, by omega, Lib.hid (by rw [hfn]), hYE, Lib.hid (hY.out.ext hxe), Lib.hid ((hM2.out.ext hxe).mono (by omega)), Lib.hid (hO.out.ext hxe), Lib.hid (hM1.out.ext hxe), Lib.hid (hX.out.trans hxe)⟩, by simp [intOf]; omega⟩
              | true =>
                rw [hr] at HRT
                have HRP := Lib.hid hr; clear hr
                have hfl := right_lens HRP.out
                have hkey := key_by (x := p.name) (by omega)
                obtain ⟨t, ht1, ht2⟩ := txtF_look HGD.out.2 p.name
                have HT2 := Lib.hid ht2; clear ht2
                have HFL := Lib.hid hfl; clear hfl
                cases ha : (E.any fun e => decide (e.name = p.name)) with
                | true =>
                  have hte : t ≠ [] := fun e => by have := HT2.out.2 e; rw [ha] at this; cases this
                  have heq : (bs t).toList.isEmpty = false := by
                    rw [bs_toList]
                    cases t with
                    | nil => exact absurd rfl hte
                    | cons _ _ => rfl
                  go_wp2_with (first
                    | (go_at_call 10; refine HRT.out.mono ?_; rintro E w6 ⟨rfl, hx6⟩; have HX6 := Lib.hid hx6; clear hx6; have e1 := HX6.out.cell d1; have hlk := (hM2.out.ext (HX5.out.trans HX6.out)).lookup (t := 26) str_keyed Tryz.underlying26 (Tryz.zeroValue9 w6) hkey; rw [ht1] at hlk))
                  have hxe := HX5.out.trans HX6.out
                  have hfn := HFO.out
                  rw [addNew_old ha] at hfn
                  exact ⟨⟨k + 1, Y, aY, cY, E, rfl, by go_num, by omega, Lib.hid (by rw [hfn]), hYE, Lib.hid (hY.out.ext hxe), Lib.hid ((hM2.out.ext hxe).mono (by omega)), Lib.hid (hO.out.ext hxe), Lib.hid (hM1.out.ext hxe), Lib.hid (hX.out.trans hxe)⟩, by simp [intOf]; omega⟩
                | false =>
                  have heq : (bs t).toList.isEmpty = true := by rw [bs_toList, HT2.out.1 ha]; rfl
                  have HAN := Lib.hid ha; clear ha
                  go_upto_region 18 with (first
                    | (go_at_call 10; refine HRT.out.mono ?_; rintro E w6 ⟨rfl, hx6⟩; have HX6 := Lib.hid hx6; clear hx6; have e1 := HX6.out.cell d1; have hlk := (hM2.out.ext (HX5.out.trans HX6.out)).lookup (t := 26) str_keyed Tryz.underlying26 (Tryz.zeroValue9 w6) hkey; rw [ht1] at hlk))
                  clear d1 d2 d3 d4 d5 d6 HRT heq e1 ht1 HT2
                  try clear hlk
                  have HT6 := Lib.hid (HX6.out.heap HT.out); clear HT
                  have d1 := blk_cell HT6.out 1 (Value.string (bs p.name)) rfl
                  have d2 := blk_cell HT6.out 2 (Value.string (bs p.ver)) rfl
                  have d3 := blk_cell HT6.out 3 (Value.slice an p.needs.length cn) rfl
                  have d4 := blk_cell HT6.out 4 (Value.slice ac p.conf.length cq) rfl
                  have d5 := blk_cell HT6.out 5 (Value.slice af p.files.length cf) rfl
                  have d6 := blk_cell HT6.out 6 (Value.slice au p.units.length cu) rfl
                  have hfl := HFL.out
                  have hof := base_of0 p an ac af au cn cq cf cu w6 (HPM.out.ext HX6.out) hfl.2.1 hfl.2.2.1 hfl.2.2.2.1 hfl.2.2.2.2 (fun z hz => Nat.le_trans (HSP.out.files z hz).2 (by omega))
                  have HOF := Lib.hid hof; clear hof hfl
                  have HXr6 := Lib.hid (HX5.out.trans HX6.out)
                  have HPM6 := Lib.hid (HPM.out.ext HX6.out)
                  clear HPM HX5 HX6
                  go_upto_region 19 with (first
                    | (go_at_call 11; refine HOF.out.mono ?_; rintro E w7 ⟨eA, hEE, hent, hpc2, hfr, hx7⟩; obtain ⟨en, ec, ef, eu, ecn, ecc, ecf, ecu⟩ := eA; unfold pkgV at hEE; subst hEE; have HENT := Lib.hid hent; have HPC2 := Lib.hid hpc2; have HFR := Lib.hid hfr; have HX7 := Lib.hid hx7; clear hent hpc2 hfr hx7)
                    | (at_builtin; refine Hid.out ?_))
                  refine Lib.hid ?_
                  have hx77 := Ext.alloc w7 (.cells (enV (ofP p, ⟨en, ec, ef, eu, ecn, ecc, ecf, ecu⟩)).toArray 37)
                  have hbn := heap_alloc_new w7 (.cells (enV (ofP p, ⟨en, ec, ef, eu, ecn, ecc, ecf, ecu⟩)).toArray 37)
                  have HXB := Lib.hid hx77; clear hx77
                  have HBN := Lib.hid hbn; clear hbn
                  have hxr7 := HXr6.out.trans HX7.out
                  have HXR7 := Lib.hid hxr7; clear hxr7
                  refine append_run rfl (.tmp 85) (.tmp 86) 25 37 (.agg #[.string ⟨#[]⟩, .string ⟨#[]⟩, .slice none 0 0, .slice none 0 0, .slice none 0 0, .slice none 0 0]) 6 128 rfl Tryz.underlying25 info_ent rfl (by decide) w7.heap.size (some ⟨w7.heap.size, 0, none⟩) 1 1 (enV (ofP p, ⟨en, ec, ef, eu, ecn, ecc, ecf, ecu⟩)) rfl (row_made6 HBN.out rfl (Nat.le_refl _)) aY Y.length cY (Y.flatMap enV) rfl (by rw [enV_len]) (RunM.ext hY.out.1 (HXR7.out.trans HXB.out)) (enV_one Y) (by omega) (by decide) (by rw [World.size_alloc]; omega) (Y.length + 1) (by omega) ?_
                  intro a1 cap1 w8 hown3 _ hb3
                  have hx78 : Ext w7 w8 := Ext.of_below' HXB.out hb3
                  have hfr8 := OutEn.front (x := (ofP p, ⟨en, ec, ef, eu, ecn, ecc, ecf, ecu⟩)) (hY.out.ext HXR7.out) hx78 HENT.out HPC2.out hown3
                  have HO8 := Lib.hid hfr8; clear hfr8
                  have hxr8 := HXR7.out.trans hx78
                  have HM8 := Lib.hid (hM2.out.ext hxr8)
                  have HN8 := Lib.hid (hM1.out.ext hxr8)
                  have HO1 := Lib.hid (hO.out.ext hxr8)
                  have HT8 := Lib.hid ((HX7.out.trans hx78).heap HT6.out)
                  have HX8 := Lib.hid (hX.out.trans hxr8)
                  clear hown3 hb3 hx78 hxr8 HXB HBN HXR7 HENT HPC2 HFR HX7 HT6 hO hM1 hM2 HXr6 HPM6 hX HOF hY d1 d2 d3 d4 d5 d6
                  go_upto_region 19 with fail
                  have hcs : ∀ W, Ext w8 W → (W.cell? ⟨T, 1, none⟩ = some (.string (bs p.name)) ∧ W.cell? ⟨T, 2, none⟩ = some (.string (bs p.ver)) ∧ W.cell? ⟨T, 3, none⟩ = some (.slice an p.needs.length cn) ∧ W.cell? ⟨T, 4, none⟩ = some (.slice ac p.conf.length cq) ∧ W.cell? ⟨T, 5, none⟩ = some (.slice af p.files.length cf) ∧ W.cell? ⟨T, 6, none⟩ = some (.slice au p.units.length cu)) := fun W k => ⟨blk_cell (k.heap HT8.out) 1 (Value.string (bs p.name)) rfl, blk_cell (k.heap HT8.out) 2 (Value.string (bs p.ver)) rfl, blk_cell (k.heap HT8.out) 3 (Value.slice an p.needs.length cn) rfl, blk_cell (k.heap HT8.out) 4 (Value.slice ac p.conf.length cq) rfl, blk_cell (k.heap HT8.out) 5 (Value.slice af p.files.length cf) rfl, blk_cell (k.heap HT8.out) 6 (Value.slice au p.units.length cu) rfl⟩
                  have HCS := Lib.hid hcs; clear hcs
                  have hpm8 := HPM2.out.ext HX8.out
                  have HPM8 := Lib.hid hpm8; clear hpm8
                  have HK := Lib.hid ((Ext.refl w8).drew)
                  refine wp_region_noPanic ?_
                  refine wp_region_held_drew (S := (fun W => W.cell? ⟨T, 1, none⟩ = some (.string (bs p.name)) ∧ W.cell? ⟨T, 2, none⟩ = some (.string (bs p.ver)) ∧ W.cell? ⟨T, 3, none⟩ = some (.slice an p.needs.length cn) ∧ W.cell? ⟨T, 4, none⟩ = some (.slice ac p.conf.length cq) ∧ W.cell? ⟨T, 5, none⟩ = some (.slice af p.files.length cf) ∧ W.cell? ⟨T, 6, none⟩ = some (.slice au p.units.length cu))) (by kernel_rfl) (HCS.out _ HK.out) (fun hHeld => ?_)
                  clear hHeld
                  generalize w8.drew = wc at HK ⊢
                  refine wpAnyH_take (i := 0) (v := ?_) rfl (by kernel_rfl) (by kernel_rfl) (by kernel_rfl) (fun _ _ _ h => h) (Or.inl ⟨by kernel_rfl, ?_⟩) (HCS.out _ HK.out) ?_
                  rotate_left
                  · (intro wq _; first | (go_simp; done) | (go_simp; with_reducible rfl))
                  try simp only [List.getElem_toArray, List.getElem_cons_zero, Act.put, List.setIfInBounds_toArray, List.set_cons_zero, List.set_cons_succ]
                  refine wpAnyH_take (i := 1) (v := ?_) rfl (by kernel_rfl) (by kernel_rfl) (by kernel_rfl) (fun _ _ _ h => h) (Or.inl ⟨by kernel_rfl, ?_⟩) (HCS.out _ HK.out) ?_
                  rotate_left
                  · (intro wq _; first | (go_simp; done) | (go_simp; with_reducible rfl))
                  try simp only [List.getElem_toArray, List.getElem_cons_zero, List.getElem_cons_succ, Act.put, List.setIfInBounds_toArray, List.set_cons_zero, List.set_cons_succ]
                  refine wpAnyH_take (i := 2) (v := ?_) rfl (by kernel_rfl) (by kernel_rfl) (by kernel_rfl) (fun _ _ _ h => h) (Or.inl ⟨by kernel_rfl, ?_⟩) (HCS.out _ HK.out) ?_
                  rotate_left
                  · (intro wq _; first | (go_simp; done) | (go_simp; with_reducible rfl))
                  try simp only [List.getElem_toArray, List.getElem_cons_zero, List.getElem_cons_succ, Act.put, List.setIfInBounds_toArray, List.set_cons_zero, List.set_cons_succ]
                  refine wpAnyH_take (i := 3) (v := ?_) rfl (by kernel_rfl) (by kernel_rfl) (by kernel_rfl) (fun _ _ _ h => h) (Or.inl ⟨by kernel_rfl, ?_⟩) (HCS.out _ HK.out) ?_
                  rotate_left
                  · (intro wq hSw; (try dsimp only at hSw); first | (go_simp; done) | (go_simp; with_reducible rfl))
                  try simp only [List.getElem_toArray, List.getElem_cons_zero, List.getElem_cons_succ, Act.put, List.setIfInBounds_toArray, List.set_cons_zero, List.set_cons_succ]
                  refine wpAnyH_take (i := 4) (v := ?_) rfl (by kernel_rfl) (by kernel_rfl) (by kernel_rfl) (fun _ _ _ h => h) (Or.inl ⟨by kernel_rfl, ?_⟩) (HCS.out _ HK.out) ?_
                  rotate_left
                  · (intro wq _; first | (go_simp; done) | (go_simp; with_reducible rfl))
                  try simp only [List.getElem_toArray, List.getElem_cons_zero, List.getElem_cons_succ, Act.put, List.setIfInBounds_toArray, List.set_cons_zero, List.set_cons_succ]
                  refine wpAnyH_take (i := 5) (v := ?_) rfl (by kernel_rfl) (by kernel_rfl) (by kernel_rfl) (fun _ _ _ h => h) (Or.inl ⟨by kernel_rfl, ?_⟩) (HCS.out _ HK.out) ?_
                  rotate_left
                  · (intro wq hSw; (try dsimp only at hSw); first | (go_simp; done) | (go_simp; with_reducible rfl))
                  try simp only [List.getElem_toArray, List.getElem_cons_zero, List.getElem_cons_succ, Act.put, List.setIfInBounds_toArray, List.set_cons_zero, List.set_cons_succ]
                  all_goals (
                    first
                      | refine wpAnyH_ready (rs := [6]) (by decide +kernel) (by simp) ?_
                    repeat' (first | exact AllReadyH.nil | (refine AllReadyH.cons rfl (fun K hK => ?_) ?_)))
                  all_goals (
                    first
                      | (go_simp
                         first
                           | (go_at_call 12
                              refine (base_key p an ac af au cn cq cf cu wc (HPM8.out.ext HK.out) HRP.out).mono ?_
                              rintro E2 wn ⟨rfl, hx⟩
                              replace HK := Lib.hid (HK.out.trans hx)
                              clear hx
                              go_wp2_with fail
                              refine hK.out _ _ (HCS.out _ HK.out) (fun _ => ?_)
                              clear hK K
                              obtain ⟨wc, rfl⟩ : ∃ x : World, x = wn := ⟨_, rfl⟩
                              try simp only [List.getElem_toArray, List.getElem_cons_zero, List.getElem_cons_succ, Act.put, List.setIfInBounds_toArray, List.set_cons_zero, List.set_cons_succ])))
                  all_goals (
                    refine wpAnyH_ready (rs := [7]) (by kernel_rfl) (by simp) ?_
                    refine AllReadyH.cons rfl (fun K hK => ?_) AllReadyH.nil
                    have hmw := HM8.out.ext HK.out
                    obtain ⟨wn, hrun, hmn, hkn⟩ := hmw.store (t := 26) str_keyed Tryz.underlying26 (by unfold maxLen; omega) keyS_inj (.string (bs (packP (ofP p)))) hkey
                    obtain ⟨mes, mcl, hmb⟩ := hmw.block
                    clear hmw
                    have htn := hkn.heap (g := T) (by intro e; have h := HK.out.heap HT8.out; rw [e, hmb] at h; cases h) (HK.out.heap HT8.out)
                    go_simp
                    refine hK.out _ _ ⟨blk_cell htn 1 (Value.string (bs p.name)) rfl, blk_cell htn 2 (Value.string (bs p.ver)) rfl, blk_cell htn 3 (Value.slice an p.needs.length cn) rfl, blk_cell htn 4 (Value.slice ac p.conf.length cq) rfl, blk_cell htn 5 (Value.slice af p.files.length cf) rfl, blk_cell htn 6 (Value.slice au p.units.length cu) rfl⟩ (fun _ => ?_)
                    clear hK K hrun htn
                    try simp only [List.getElem_toArray, List.getElem_cons_zero, List.getElem_cons_succ, Act.put, List.setIfInBounds_toArray, List.set_cons_zero, List.set_cons_succ])
                  all_goals (
                    refine wpAnyH_done (by kernel_rfl) ?_ _
                    refine NoPanic.normal ?_
                    go_wp2_with fail
                    have hfn := HFO.out
                    rw [addNew_new HRP.out HAN.out] at hfn
                    have hon := (HO8.out.ext HK.out).keepm hkn hmb
                    have ho1 := (HO1.out.ext HK.out).keepm hkn hmb
                    have hn2 := (HN8.out.ext HK.out).keep hkn (show M1 ≠ M2 by have := HG.out; omega)
                    have hmn := hmn.same (show _ = txtF (E ++ [ofP p]) by rw [show p.name = (ofP p).name from rfl]; exact txtF_add _ _)
                    have hxn : Ext w2 wn := ((Keep.of_ext (S := fun j => j < w2.heap.size) (HX8.out.trans HK.out)).andThen hkn (fun j hj _ => by have := HG.out; have : j < w2.heap.size := ‹_›; show j ≠ M2; omega)).ext_lt
                    go_roundw
                    case rel => exact ⟨k + 1, (ofP p, ⟨en, ec, ef, eu, ecn, ecc, ecf, ecu⟩) :: Y, a1, cap1, E ++ [ofP p], by simp, by go_num, by omega, Lib.hid (by rw [hfn]), Lib.hid (by rw [List.map_cons, hYE.out, List.reverse_append]; rfl), Lib.hid hon, Lib.hid hmn, Lib.hid ho1, Lib.hid hn2, Lib.hid hxn⟩
                    case measure => simp [intOf]; omega)
            · obtain rfl : n2 = k := by omega
              clear hk hlt
              have hxl := hXE.out
              rw [List.take_of_length_le (by have := HN2.out; omega)] at hxl
              have HE2 := Lib.hid hYE.out; clear hYE
              have HEF2 := Lib.hid hxl; clear hxl hXE
              have hlx : X.length ≤ 30 := by
                have h := congrArg List.length (HE1.out.symm.trans HEF1.out)
                rw [List.length_map] at h
                have h1 := firsts_len (L.map pkO)
                rw [List.length_map] at h1
                have h2 := few_len HSA.out
                omega
              have hly : Y.length ≤ 30 := by
                have h := congrArg List.length HE2.out
                rw [List.length_map, List.length_reverse, HEF2.out] at h
                have h1 := firsts_len (L2.map pkO)
                rw [List.length_map] at h1
                have h2 := few_len HSA2.out
                omega
              have hgx : GoodL E1 := by rw [HEF1.out]; exact firsts_good _
              have hgy : GoodL E := by rw [HEF2.out]; exact firsts_good _
              have hnx : ∀ W, Ext wr W → Calls Tryz.prog 13 #[.slice aX X.length cX] W (WithR X.length (newF E1) W) := fun W k => by
                rw [HE1.out]
                exact base_new aX cX X W (hO.out.ext k).ents (fun x hx => (hgx.1 x.1 (by rw [HE1.out]; exact List.mem_map_of_mem hx)).1) (by omega)
              have hny : ∀ W, Ext wr W → Calls Tryz.prog 13 #[.slice aY Y.length cY] W (WithR Y.length (newF E) W) := fun W k => by
                rw [← newF_reverse hgy, ← HE2.out]
                exact base_new aY cY Y W (hY.out.ext k).ents (fun x hx => (hgy.1 x.1 (by rw [← List.mem_reverse, ← HE2.out]; exact List.mem_map_of_mem hx)).1) (by omega)
              have HNX := Lib.hid hnx; clear hnx
              have HNY := Lib.hid hny; clear hny
              have HGX := Lib.hid hgx; clear hgx
              have HGY := Lib.hid hgy; clear hgy
              clear hO hY HE1 HE2 HEF1 HEF2 HL HL2 HN HN2
              generalize X.length = nx at hlx HNX ⊢
              generalize Y.length = ny at hly HNY ⊢
              go_upto_region 22 with (first
                | (go_at_call_of 13 (Value.slice aX nx cX); refine (HNX.out _ (Ext.refl _)).mono ?_; rintro E8 w8 ⟨b1, A1, rfl, _, hb1, hx8⟩; have HB1 := Lib.hid hb1; have HX8 := Lib.hid hx8; clear hb1 hx8)
                | (go_at_call_of 13 (Value.slice aY ny cY); refine (HNY.out _ HX8.out).mono ?_; rintro E9 w9 ⟨b2, A2, rfl, _, hb2, hx9⟩; have HB2 := Lib.hid hb2; have HX9 := Lib.hid hx9; clear hb2 hx9))
              have hx_wA : Ext w9 ((w9.alloc (.cells #[.map (some b1)] 42)).alloc (.cells #[.map (some b2)] 42)) := ((Ext.alloc _ _).trans (Ext.alloc _ _))
              have hf_BA := (Ext.alloc (w9.alloc (.cells #[.map (some b1)] 42)) (.cells #[.map (some b2)] 42)).heap (heap_alloc_new w9 (.cells #[.map (some b1)] 42))
              have hf_BB := heap_alloc_new (w9.alloc (.cells #[.map (some b1)] 42)) (.cells #[.map (some b2)] 42)
              simp only [World.size_alloc] at hf_BB
              generalize (w9.alloc (.cells #[.map (some b1)] 42)).alloc (.cells #[.map (some b2)] 42) = wA at hx_wA hf_BA hf_BB ⊢
              obtain ⟨BA, h_BA⟩ : ∃ x, x = w9.heap.size := ⟨_, rfl⟩
              obtain ⟨BB, h_BB⟩ : ∃ x, x = w9.heap.size + 1 := ⟨_, rfl⟩
              rw [← h_BB] at hf_BB
              rw [← h_BA] at hf_BA
              try rw [← h_BB, ← h_BA]
              have hs_BA : w9.heap.size ≤ BA := by omega
              have hs_BB : w9.heap.size ≤ BB := by omega
              clear h_BA h_BB
              have HBA := Lib.hid hf_BA; clear hf_BA
              have HBB := Lib.hid hf_BB; clear hf_BB
              have HXA := Lib.hid hx_wA; clear hx_wA hs_BA hs_BB
              have c1 := blk_cell HBA.out 0 (Value.map (some b1)) rfl
              have hvA : BaseM wA (.agg #[.map (some b1)]) nx (newF E1) := Or.inr ⟨b1, A1, rfl, HB1.out.ext (HX9.out.trans HXA.out)⟩
              have hvB : BaseM wA (.agg #[.map (some b2)]) ny (newF E) := Or.inr ⟨b2, A2, rfl, HB2.out.ext HXA.out⟩
              have HVA := Lib.hid hvA; clear hvA
              have HVB := Lib.hid hvB; clear hvB
              have HGFX := Lib.hid (newF_good HGX.out)
              have HGFY := Lib.hid (newF_good HGY.out)
              clear HNX HNY HB1 HB2
              go_upto_region 23 with (first
                | (go_at_call 15; refine (base_pack (.agg #[.map (some b1)]) nx (newF E1) wA HVA.out HGFX.out (by omega)).mono ?_; rintro E3 wB ⟨ap, cp, ss, rfl, hss, hpt, hsn, hxB⟩; have HSS := Lib.hid hss; have HPT := Lib.hid hpt; have HXB := Lib.hid hxB; clear hss hpt hxB)
                | (go_at_call 14; refine (base_unpack ap cp (newF E1) ss wB HPT.out HSS.out HGFX.out (by omega)).mono ?_; rintro E4 wC ⟨⟨b3, A3, rfl, hb3⟩, hxC⟩; have HB3 := Lib.hid hb3; have HXC := Lib.hid hxC; clear hb3 hxC))
              clear c1
              have hx_wD : Ext wC (wC.alloc (.cells #[.map (some b3)] 42)) := (Ext.alloc _ _)
              have hf_BC := heap_alloc_new wC (.cells #[.map (some b3)] 42)
              generalize wC.alloc (.cells #[.map (some b3)] 42) = wD at hx_wD hf_BC ⊢
              obtain ⟨BC, h_BC⟩ : ∃ x, x = wC.heap.size := ⟨_, rfl⟩
              rw [← h_BC] at hf_BC
              try rw [← h_BC]
              have hs_BC : wC.heap.size ≤ BC := by omega
              clear h_BC
              have HXBD := Lib.hid (HXB.out.trans (HXC.out.trans hx_wD))
              have HBC := Lib.hid hf_BC; clear hf_BC
              have hvC : BaseM wD (.agg #[.map (some b3)]) ss.length (newF E1) := Or.inr ⟨b3, A3, rfl, HB3.out.ext hx_wD⟩
              clear hx_wD hs_BC HB3 HPT HSS HXB HXC
              have hvA : BaseM wD (.agg #[.map (some b1)]) nx (newF E1) := HVA.out.ext HXBD.out
              have hsac : ∀ W, Ext wD W → Calls Tryz.prog 16 #[.agg #[.map (some b1)], .agg #[.map (some b3)]] W fun e w' => e = .returned (.bool true) ∧ Ext W w' := fun W k =>
                (base_same _ _ nx ss.length _ _ W (hvA.ext k) (hvC.ext k) HGFX.out HGFX.out (by omega) (by omega)).mono fun e w' h => by
                  obtain ⟨⟨q, rfl, hq⟩, hx⟩ := h
                  exact ⟨by rw [hq.2 rfl], hx⟩
              have hsca : ∀ W, Ext wD W → Calls Tryz.prog 16 #[.agg #[.map (some b3)], .agg #[.map (some b1)]] W fun e w' => e = .returned (.bool true) ∧ Ext W w' := fun W k =>
                (base_same _ _ ss.length nx _ _ W (hvC.ext k) (hvA.ext k) HGFX.out HGFX.out (by omega) (by omega)).mono fun e w' h => by
                  obtain ⟨⟨q, rfl, hq⟩, hx⟩ := h
                  exact ⟨by rw [hq.2 rfl], hx⟩
              have HSAC := Lib.hid hsac; clear hsac
              have HSCA := Lib.hid hsca; clear hsca
              have HVD := Lib.hid hvA; clear hvA hvC
              have c1 := blk_cell (HXBD.out.heap HBA.out) 0 (Value.map (some b1)) rfl
              have c3 := blk_cell HBC.out 0 (Value.map (some b3)) rfl
              go_upto_region 25 with (first
                | (go_at_call 16; refine Hid.out ?_))
              refine Lib.hid ?_
              refine (HSAC.out _ (Ext.refl _)).mono ?_
              rintro E5 wE ⟨rfl, hxE⟩
              have e1 := hxE.cell c1
              have e3 := hxE.cell c3
              have HXE := Lib.hid hxE; clear hxE
              go_upto_region 25 with (first
                | (go_at_call 16; refine Hid.out ?_))
              refine Lib.hid ?_
              refine (HSCA.out _ HXE.out).mono ?_
              rintro E6 wF ⟨rfl, hxF⟩
              have HXF := Lib.hid hxF; clear hxF
              go_upto_region 25 with fail
              clear c1 c3 e1 e3 HSAC HSCA HBC
              have HXr := Lib.hid (HX8.out.trans (HX9.out.trans (HXA.out.trans (HXBD.out.trans (HXE.out.trans HXF.out)))))
              have HXAF := Lib.hid (HXBD.out.trans (HXE.out.trans HXF.out))
              have HM1 := Lib.hid (hM1.out.ext HXr.out)
              have HM2 := Lib.hid (hM2.out.ext HXr.out)
              have HXwF := Lib.hid (HX2.out.trans (hX.out.trans HXr.out))
              have HBAF := Lib.hid (HXAF.out.heap HBA.out)
              have HBBF := Lib.hid (HXAF.out.heap HBB.out)
              have HVAF := Lib.hid (HVA.out.ext HXAF.out)
              have HVBF := Lib.hid (HVB.out.ext HXAF.out)
              clear HX8 HX9 HXA HXBD HXE HXF hM1 hM2 hX HX2 HBA HBB HVA HVB HVD HXr HXAF HE
              have hl1 := HM1.out.size_names HGX.out.2 (txtF_names HGX.out.2) 3 Tryz.underlying26
              have hl2' := HM2.out.size_names HGY.out.2 (txtF_names HGY.out.2) 3 Tryz.underlying26
              simp only [List.length_map] at hl1 hl2'
              go_wp2_with (first
                | (at_range; refine wpList_range_F rfl _ 26 rfl 9 str_keyed Tryz.underlying26 M1 n (txtF E1) rfl HM1.out ?_; intro w0 c0 hg0 hx0 hs0)
                | go_in)
              go_frame
              obtain ⟨r, hr⟩ : ∃ r, r = wF.heap.size := ⟨_, rfl⟩
              rw [← hr] at hg0 ⊢
              obtain ⟨q0, hq0⟩ : ∃ q, q = ((E1.length : Int) == (E.length : Int)) := ⟨_, rfl⟩
              rw [← hq0]
              have hq1 : q0 = true ↔ E1.length = E.length := by rw [hq0, beq_iff_eq]; omega
              have HRW : Hid (wF.heap.size ≤ r) := Lib.hid (by rw [hr]; exact Nat.le_refl _)
              have HX0 := Lib.hid hx0
              have HG0 := Lib.hid hg0
              have HQ1 := Lib.hid hq1
              clear hr hx0 hg0 hs0 hq0 hq1 hl1 hl2'
              go_loopw [17] (fun v wr => ∃ (left : By → Bool) (cnt : Nat) (q : Bool), v = .bool q ∧ Hid (MapG keyS wr 9 M1 r n (txtF E1) left cnt) ∧ Hid (q = true ↔ E1.length = E.length ∧ ∀ x t, left x = false → heldF E1 x = some t → heldF E x = some t) ∧ Hid (Ext wF wr)) (fun _ wr => wr.rangeLeft M1 r)
              case atStart =>
                refine ⟨_, c0, q0, rfl, HG0, Lib.hid ⟨fun h => ⟨HQ1.out.1 h, fun x t hx ht => ?_⟩, fun h => HQ1.out.2 h.1⟩, HX0⟩
                rw [txtF_none hx] at ht
                cases ht
              case round =>
                clear HX0 HG0 HQ1
                obtain ⟨left, cnt, q, rfl, hg, hq, hX⟩ := hrel
                have HGC := Lib.hid hg.out.count
                go_wp2_with (first
                  | (at_next; refine wpList_next_F rfl _ rfl str_keyed (fun x => .string (bs x)) keyS_inj inv_str M1 r n (txtF E1) left cnt rfl hg.out ?_ ?_)
                  | go_in)
                rotate_left
                · intro x v w1' cnt1 hkey hlp hfp hg1 hlt1 hk1 hs1 hen
                  obtain ⟨kx, rfl, hkn, hkx⟩ := txtF_some hfp
                  have hx1' : Ext wF w1' := ((Keep.of_ext (S := fun j => j < wF.heap.size) hX.out).andThen hk1 (fun j hj _ => by have := HRW.out; show j ≠ r; omega)).ext_lt
                  obtain ⟨t, ht1, ht2⟩ := txtF_eq E x
                  have ht2 := ht2 kx hkn
                  have hlk := (HM2.out.ext hx1').lookup (t := 26) str_keyed Tryz.underlying26 (Tryz.zeroValue9 w1') hkey
                  rw [ht1] at hlk
                  have hstep : ∀ q' : Bool, (q' = true ↔ q = true ∧ t = kx) → (q' = true ↔ E1.length = E.length ∧ ∀ z u, (left z && !decide (z = x)) = false → heldF E1 z = some u → heldF E z = some u) := by
                    intro q' h
                    rw [h, hq.out, ht2]
                    constructor
                    · rintro ⟨⟨h1, h2⟩, h3⟩
                      refine ⟨h1, fun z u hz hu => ?_⟩
                      by_cases hzx : z = x
                      · subst hzx; rw [hkx] at hu; rw [← Option.some.inj hu]; exact h3
                      · simp only [hzx, decide_false, Bool.not_false, Bool.and_true] at hz
                        exact h2 z u hz hu
                    · rintro ⟨h1, h2⟩
                      exact ⟨⟨h1, fun z u hz hu => h2 z u (by rw [hz]; rfl) hu⟩, h2 x kx (by simp) hkx⟩
                  have HST := Lib.hid hstep
                  have HG1 := Lib.hid hg1
                  have HX1' := Lib.hid hx1'
                  have HLT1 := Lib.hid hlt1
                  have HQ := hq
                  clear hstep hg1 hx1' hk1 hs1 hkey hlp hfp hlt1 ht1 ht2 hkx hq
                  cases q with
                  | false =>
                    go_wp2_with fail
                    go_roundw
                    case rel => exact ⟨_, cnt1, false, rfl, HG1, Lib.hid (HST.out false (by simp)), HX1'⟩
                    case measure =>
                      rw [HG1.out.count, HGC.out]
                      exact HLT1.out
                  | true =>
                    by_cases htk : t = kx
                    · have HTK := Lib.hid htk
                      subst htk
                      go_wp2_with fail
                      go_roundw
                      case rel => exact ⟨_, cnt1, true, (by first | rfl | simp), HG1, Lib.hid (HST.out true (by simp)), HX1'⟩
                      case measure =>
                        rw [HG1.out.count, HGC.out]
                        exact HLT1.out
                    · have hne : ¬ (bs t).toList = (bs kx).toList := by
                        rw [bs_toList, bs_toList]
                        exact htk
                      have HNE := Lib.hid htk; clear htk
                      go_wp2_with fail
                      go_roundw
                      case rel => exact ⟨_, cnt1, false, (by first | rfl | simp [hne]), HG1, Lib.hid (HST.out false (by simp [HNE.out])), HX1'⟩
                      case measure =>
                        rw [HG1.out.count, HGC.out]
                        exact HLT1.out
                · intro hall
                  have hq2 : q = true ↔ newF E1 = newF E := by
                    rw [← alike_iff HGX.out HGY.out, hq.out]
                    exact ⟨fun h => ⟨h.1, fun x t => h.2 x t (hall x)⟩, fun h => ⟨h.1, fun x t _ => h.2 x t⟩⟩
                  have HQ2 := Lib.hid hq2; clear hq2 hq hall
                  have cA := blk_cell (hX.out.heap HBAF.out) 0 (Value.map (some b1)) rfl
                  have cB := blk_cell (hX.out.heap HBBF.out) 0 (Value.map (some b2)) rfl
                  go_wp2_with (go_at_call 16; refine (base_same _ _ nx ny (newF E1) (newF E) _ (HVAF.out.ext hX.out) (HVBF.out.ext hX.out) HGFX.out HGFY.out (by omega) (by omega)).mono ?_; rintro E7 wG ⟨⟨q2, rfl, hq3⟩, hxG⟩; have HQ3 := Lib.hid hq3; have HXG := Lib.hid hxG; clear hq3 hxG)
                  rw [HR.out]
                  refine ⟨?_, HXwF.out.trans (hX.out.trans HXG.out)⟩
                  have he : q2 = q := by
                    rw [Bool.eq_iff_iff, HQ3.out, HQ2.out]
                  subst he
                  simp
end Go.Proofs.YtnclibfhbngkjaaGreatDoor
