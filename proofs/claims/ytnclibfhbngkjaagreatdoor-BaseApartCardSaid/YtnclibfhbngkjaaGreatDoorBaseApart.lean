/- The walk of farrierlaw11.BaseApart. -/
import Derived.Test.YtnclibfhbngkjaaGreatDoorBaseAlive
import Derived.Test.YtnclibfhbngkjaaGreatDoorBaseFew
import Derived.Test.YtnclibfhbngkjaaGreatDoorArcRight
import Derived.Deep.CutRange
namespace Go.Proofs.YtnclibfhbngkjaaGreatDoor
open Go.RowKit
attribute [local go_sem ↓] Go.wp_at_zero Go.wp_at_succ
/-- A box has a base of right packages. -/
def GoodAt (w : World) (B N : Nat) : Prop := ∃ b f A, w.heap[B]? = some (.cells #[.map (some b)] 42 (0, 0)) ∧ EntsM w b N f A ∧ GoodF f
theorem fewB_get {L : List StepD} (h : fewB L = true) {k : Nat} (hk : k < L.length) : SmallP (L.getD k sz).1.2 ∧ L.length ≤ 30 := by
  unfold fewB at h
  simp only [Bool.and_eq_true, decide_eq_true_eq] at h
  have := (List.all_eq_true.1 h.1) (L.getD k sz) (by rw [List.getD_eq_getElem?_getD, List.getElem?_eq_getElem hk]; simp)
  exact ⟨smallB_fit this, h.2⟩
theorem less_ne {f : BaseF} {n : By} (h : (f n).isSome = true) : ¬ f = lessF f n := by
  intro e
  have h2 := congrFun e n
  unfold lessF at h2
  rw [if_pos rfl] at h2
  rw [h2] at h
  cases h
theorem names_same {f : BaseF} {ss tt : List By} {n : By} (h : NamesF f ss) (k : NamesF (lessF f n) tt) (hn : f n = none) : tt.length = ss.length := by
  rw [lessF_none hn] at k
  rw [h.eq k]
theorem run_of_blk {w : World} {g : Nat} {s : By} {t : TypeId} (h : w.heap[g]? = some (.cells #[.string (bs s)] t (0, 0))) : RunM w (some ⟨g, 0, none⟩) (textV [s]) :=
  Or.inr ⟨g, 0, rfl, (Array.getElem?_eq_some_iff.1 h).1, fun j u hj => by
    match j, hj with
    | 0, hj => cases hj; exact blk_cell h 0 _ rfl
    | j + 1, hj => simp [textV] at hj⟩
set_option maxRecDepth 100000 in
set_option maxHeartbeats 25600000 in
theorem base_apart (a : Option Addr) (c : Nat) (L : List StepD) (x : By) (w : World) (hE : EnvN w) (hL : StepsL w a L) (hl : L.length ≤ 1099511627776) :
    Calls Tryz.prog 4 #[.slice a L.length c, .string (bs x)] w fun e w' => e = .returned (.bool true) ∧ Ext w w' := by
  obtain ⟨R, hR⟩ : ∃ R : Ending → World → Prop, R = fun e w' => e = .returned (.bool true) ∧ Ext w w' := ⟨_, rfl⟩
  rw [← hR]
  have HR := Lib.hid hR; clear hR
  have HL := Lib.hid hL; clear hL
  have HE := Lib.hid hE; clear hE
  have hfw := fun W (k : Ext w W) => law_few a c L W (HL.out.ext k) hl
  obtain ⟨n, hn⟩ : ∃ n, n = L.length := ⟨_, rfl⟩
  rw [← hn] at hl hfw ⊢
  have HN := Lib.hid hn; clear hn
  cases hb : fewB L with
  | false =>
    rw [hb] at hfw
    have HFW := Lib.hid hfw; clear hfw hb
    go_enter Tryz.func4, Tryz.ntmps4
    go_wp2_with (first
      | (go_at_call 8; refine (alive11 _ HE.out).mono ?_; rintro E w1 ⟨rfl, hx1⟩; have HX1 := Lib.hid hx1; clear hx1)
      | (go_at_call 9; refine (HFW.out _ HX1.out).mono ?_; rintro E w2 ⟨rfl, hx2⟩; have HX2 := Lib.hid hx2; clear hx2))
    rw [HR.out]
    exact ⟨rfl, HX1.out.trans HX2.out⟩
  | true =>
    rw [hb] at hfw
    have HFW := Lib.hid hfw; clear hfw
    have HSA := Lib.hid hb; clear hb
    by_cases h60 : 60 < x.length
    · have hd : decide ((60 : Int) < ((bs x).size : Int)) = true := decide_eq_true (by rw [bs_size]; omega)
      clear h60
      go_enter Tryz.func4, Tryz.ntmps4
      go_wp2_with (first
        | (go_at_call 8; refine (alive11 _ HE.out).mono ?_; rintro E w1 ⟨rfl, hx1⟩; have HX1 := Lib.hid hx1; clear hx1)
        | (go_at_call 9; refine (HFW.out _ HX1.out).mono ?_; rintro E w2 ⟨rfl, hx2⟩; have HX2 := Lib.hid hx2; clear hx2))
      rw [HR.out]
      exact ⟨rfl, HX1.out.trans HX2.out⟩
    · have hd : decide ((60 : Int) < ((bs x).size : Int)) = false := decide_eq_false (by rw [bs_size]; omega)
      go_enter Tryz.func4, Tryz.ntmps4
      go_upto_region 6 with (first
        | (go_at_call 8; refine (alive11 _ HE.out).mono ?_; rintro E w1 ⟨rfl, hx1⟩; have HX1 := Lib.hid hx1; clear hx1)
        | (go_at_call 9; refine (HFW.out _ HX1.out).mono ?_; rintro E w2 ⟨rfl, hx2⟩; have HX2 := Lib.hid hx2; clear hx2)
        | (go_at_call 13; refine (new_u _).mono ?_; rintro E w3 ⟨⟨b0, A0, rfl, hm⟩, hx3⟩; have HM0 := Lib.hid hm; have HX3 := Lib.hid hx3; clear hm hx3))
      clear hd
      have hx_w4 : Ext w3 (w3.alloc (.cells #[.map (some b0)] 42)) := (Ext.alloc _ _)
      have hf_B := heap_alloc_new w3 (.cells #[.map (some b0)] 42)
      generalize w3.alloc (.cells #[.map (some b0)] 42) = w4 at hx_w4 hf_B ⊢
      obtain ⟨B, h_B⟩ : ∃ x, x = w3.heap.size := ⟨_, rfl⟩
      rw [← h_B] at hf_B
      try rw [← h_B]
      have hs_B : w3.heap.size ≤ B := by omega
      clear h_B
      have HX4 := Lib.hid ((HX1.out.trans (HX2.out.trans HX3.out)).trans hx_w4)
      have HBL : Hid (w.heap.size ≤ B) := Lib.hid (Nat.le_trans (HX1.out.trans (HX2.out.trans HX3.out)).size hs_B)
      have hH4 : GoodAt w4 B 0 := ⟨b0, noneF, A0, hf_B, HM0.out.ext hx_w4, GoodF.none⟩
      have HH4 := Lib.hid hH4; clear hH4 hf_B hx_w4 hs_B
      go_wp2_with fail
      go_loopw [28] (fun i wr => ∃ k : Nat, i = .int .i64 k ∧ k ≤ n ∧ Hid (GoodAt wr B k) ∧ Hid (Ext w wr)) (fun i _ => n - (intOf i).toNat)
      case atStart => exact ⟨0, rfl, Nat.zero_le _, HH4, HX4⟩
      case round =>
        obtain ⟨k, rfl, hk, hH, hX⟩ := hrel
        by_cases hlt : k < n
        · have hkL : k < L.length := by have := HN.out; omega
          obtain ⟨g, off, rfl, _, ⟨c0, c1, c2, c3, c4, c5, c6⟩, hpm, hpc⟩ := (HL.out.ext hX.out).at hkL
          have hsp := fewB_get HSA.out hkL
          have hn30 : n ≤ 30 := by have := HN.out; have := hsp.2; omega
          have hsp := hsp.1
          obtain ⟨y, hy⟩ : ∃ y, y = L.getD k sz := ⟨_, rfl⟩
          rw [← hy] at c0 c1 c2 c3 c4 c5 c6 hpm hpc hsp
          clear hy
          obtain ⟨⟨kd, p⟩, pA⟩ := y
          obtain ⟨an, ac, af, au, cn, cq, cf, cu⟩ := pA
          simp only at c0 c1 c2 c3 c4 c5 c6 hpm hpc hsp
          have HSP := Lib.hid hsp; clear hsp
          have HPC := Lib.hid hpc; clear hpc
          go_upto_region 9 with (fail)
          clear c0 c1 c2 c3 c4 c5 c6
          have hx_w5 : Ext wr (wr.alloc (.cells #[.int .i64 kd, .string (bs p.name), .string (bs p.ver), .slice an p.needs.length cn, .slice ac p.conf.length cq, .slice af p.files.length cf, .slice au p.units.length cu] 33)) := (Ext.alloc _ _)
          have hf_T := heap_alloc_new wr (.cells #[.int .i64 kd, .string (bs p.name), .string (bs p.ver), .slice an p.needs.length cn, .slice ac p.conf.length cq, .slice af p.files.length cf, .slice au p.units.length cu] 33)
          generalize wr.alloc (.cells #[.int .i64 kd, .string (bs p.name), .string (bs p.ver), .slice an p.needs.length cn, .slice ac p.conf.length cq, .slice af p.files.length cf, .slice au p.units.length cu] 33) = w5 at hx_w5 hf_T ⊢
          obtain ⟨T, h_T⟩ : ∃ x, x = wr.heap.size := ⟨_, rfl⟩
          rw [← h_T] at hf_T
          try rw [← h_T]
          have hs_T : wr.heap.size ≤ T := by omega
          clear h_T
          have HT := Lib.hid hf_T
          have d1 := blk_cell hf_T 1 (Value.string (bs p.name)) rfl
          have d2 := blk_cell hf_T 2 (Value.string (bs p.ver)) rfl
          have d3 := blk_cell hf_T 3 (Value.slice an p.needs.length cn) rfl
          have d4 := blk_cell hf_T 4 (Value.slice ac p.conf.length cq) rfl
          have d5 := blk_cell hf_T 5 (Value.slice af p.files.length cf) rfl
          have d6 := blk_cell hf_T 6 (Value.slice au p.units.length cu) rfl
          have hrt := arc_right0 p an ac af au cn cq cf cu w5 (HE.out.ext (hX.out.trans hx_w5)) (hpm.ext hx_w5) (SmallP.fit HSP.out) HPC.out.2.2.1
          have HRT := Lib.hid hrt; clear hrt
          have HPM := Lib.hid (hpm.ext hx_w5); clear hpm
          have HX5 := Lib.hid hx_w5; clear hx_w5 hf_T hs_T
          cases hr : rightP p with
          | false =>
            rw [hr] at HRT
            clear hr
            go_wp2_with (go_at_call 10; refine HRT.out.mono ?_; rintro E w6 ⟨rfl, hx6⟩; have HX6 := Lib.hid hx6; clear hx6)
            obtain ⟨b, f, A, h1, h2, h3⟩ := hH.out
            have hxe := HX5.out.trans HX6.out
            exact ⟨⟨k + 1, by go_num, by omega, Lib.hid ⟨b, f, A, hxe.heap h1, (h2.ext hxe).mono (by omega), h3⟩, Lib.hid (hX.out.trans hxe)⟩, by simp [intOf]; omega⟩
          | true =>
            rw [hr] at HRT
            have HRP := Lib.hid hr; clear hr
            go_upto_region 10 with (go_at_call 10; refine HRT.out.mono ?_; rintro E w6 ⟨rfl, hx6⟩; have HX6 := Lib.hid hx6; clear hx6)
            clear d1 d2 d3 d4 d5 d6 HRT
            have hfl := right_lens HRP.out
            have hof := fun W (k : Ext w6 W) => base_of p an ac af au cn cq cf cu W (HPM.out.ext (HX6.out.trans k)) hfl.2.1 hfl.2.2.1 hfl.2.2.2.1 hfl.2.2.2.2 (fun z hz => Nat.le_trans (HSP.out.files z hz).2 (by omega))
            have HOF := Lib.hid hof; clear hof hfl
            obtain ⟨b, f, A, hB, hM, hG⟩ := hH.out
            have HT6 := Lib.hid (HX6.out.heap HT.out)
            have HB6 := Lib.hid ((HX5.out.trans HX6.out).heap hB); clear hB
            have HM6 := Lib.hid (hM.ext (HX5.out.trans HX6.out)); clear hM
            have HG := Lib.hid hG; clear hG
            have HKK := Lib.hid ((Ext.refl w6).drew)
            refine wp_region_noPanic ?_
            refine wp_region_K (S := (fun W => W.cell? ⟨B, 0, none⟩ = some (.map (some b)) ∧ W.cell? ⟨T, 1, none⟩ = some (.string (bs p.name)) ∧ W.cell? ⟨T, 2, none⟩ = some (.string (bs p.ver)) ∧ W.cell? ⟨T, 3, none⟩ = some (.slice an p.needs.length cn) ∧ W.cell? ⟨T, 4, none⟩ = some (.slice ac p.conf.length cq) ∧ W.cell? ⟨T, 5, none⟩ = some (.slice af p.files.length cf) ∧ W.cell? ⟨T, 6, none⟩ = some (.slice au p.units.length cu))) (I := [0, 2]) (by kernel_rfl) ⟨blk_cell (HKK.out.heap HB6.out) 0 _ rfl, blk_cell (HKK.out.heap HT6.out) 1 _ rfl, blk_cell (HKK.out.heap HT6.out) 2 _ rfl, blk_cell (HKK.out.heap HT6.out) 3 _ rfl, blk_cell (HKK.out.heap HT6.out) 4 _ rfl, blk_cell (HKK.out.heap HT6.out) 5 _ rfl, blk_cell (HKK.out.heap HT6.out) 6 _ rfl⟩ (fun hHeld => ?_)
            clear hHeld
            generalize w6.drew = wc at HKK ⊢
            refine wpAnyK_load (i := 0) (v := ?v1) rfl (by kernel_rfl) (by kernel_rfl) (by kernel_rfl) (fun _ _ _ h => h) (by kernel_rfl) (by kernel_rfl) ?hy1 ⟨blk_cell (HKK.out.heap HB6.out) 0 _ rfl, blk_cell (HKK.out.heap HT6.out) 1 _ rfl, blk_cell (HKK.out.heap HT6.out) 2 _ rfl, blk_cell (HKK.out.heap HT6.out) 3 _ rfl, blk_cell (HKK.out.heap HT6.out) 4 _ rfl, blk_cell (HKK.out.heap HT6.out) 5 _ rfl, blk_cell (HKK.out.heap HT6.out) 6 _ rfl⟩ ?rest1
            case hy1 => (intro wq hSw; (try dsimp only at hSw); first | (go_simp; done) | (go_simp; with_reducible rfl))
            try simp only [List.getElem_toArray, List.getElem_cons_zero, Act.put, List.setIfInBounds_toArray, List.set_cons_zero, List.set_cons_succ]
            refine wpAnyK_free (i := 1) (v := ?v2) rfl (by kernel_rfl) (by kernel_rfl) (by kernel_rfl) (fun _ _ _ h => h) (by kernel_rfl) ?hy2 (fun _ => ⟨blk_cell (HKK.out.heap HB6.out) 0 _ rfl, blk_cell (HKK.out.heap HT6.out) 1 _ rfl, blk_cell (HKK.out.heap HT6.out) 2 _ rfl, blk_cell (HKK.out.heap HT6.out) 3 _ rfl, blk_cell (HKK.out.heap HT6.out) 4 _ rfl, blk_cell (HKK.out.heap HT6.out) 5 _ rfl, blk_cell (HKK.out.heap HT6.out) 6 _ rfl⟩) ?rest2
            case hy2 => (intro wq; first | (go_simp; done) | (go_simp; with_reducible rfl))
            try simp only [List.getElem_toArray, List.getElem_cons_zero, List.getElem_cons_succ, Act.put, List.setIfInBounds_toArray, List.set_cons_zero, List.set_cons_succ]
            refine wpAnyK_load (i := 2) (v := ?v3) rfl (by kernel_rfl) (by kernel_rfl) (by kernel_rfl) (fun _ _ _ h => h) (by kernel_rfl) (by kernel_rfl) ?hy3 ⟨blk_cell (HKK.out.heap HB6.out) 0 _ rfl, blk_cell (HKK.out.heap HT6.out) 1 _ rfl, blk_cell (HKK.out.heap HT6.out) 2 _ rfl, blk_cell (HKK.out.heap HT6.out) 3 _ rfl, blk_cell (HKK.out.heap HT6.out) 4 _ rfl, blk_cell (HKK.out.heap HT6.out) 5 _ rfl, blk_cell (HKK.out.heap HT6.out) 6 _ rfl⟩ ?rest3
            case hy3 => (intro wq hSw; (try dsimp only at hSw); first | (go_simp; done) | (go_simp; with_reducible rfl))
            try simp only [List.getElem_toArray, List.getElem_cons_zero, List.getElem_cons_succ, Act.put, List.setIfInBounds_toArray, List.set_cons_zero, List.set_cons_succ]
            refine wpAnyK_one (i := 3) (by kernel_rfl) rfl ?_
            intro K hK
            go_simp
            go_at_call 11
            refine (HOF.out wc HKK.out).mono ?_
            rintro E wn ⟨eA, hEE, hent, hpc2, hx⟩
            obtain ⟨en, ec, ef, eu, ecn, ecc, ecf, ecu⟩ := eA
            unfold pkgV at hEE
            subst hEE
            replace HKK := Lib.hid (HKK.out.trans hx)
            have HENT := Lib.hid hent
            have HPC2 := Lib.hid hpc2
            clear hent hpc2 hx
            go_wp2_with fail
            refine hK.out _ _ ⟨blk_cell (HKK.out.heap HB6.out) 0 _ rfl, blk_cell (HKK.out.heap HT6.out) 1 _ rfl, blk_cell (HKK.out.heap HT6.out) 2 _ rfl, blk_cell (HKK.out.heap HT6.out) 3 _ rfl, blk_cell (HKK.out.heap HT6.out) 4 _ rfl, blk_cell (HKK.out.heap HT6.out) 5 _ rfl, blk_cell (HKK.out.heap HT6.out) 6 _ rfl⟩ ?_
            clear hK K
            obtain ⟨wc, rfl⟩ : ∃ x : World, x = wn := ⟨_, rfl⟩
            try simp only [List.getElem_toArray, List.getElem_cons_zero, List.getElem_cons_succ, Act.put, List.setIfInBounds_toArray, List.set_cons_zero, List.set_cons_succ]
            refine wpAnyK_one (i := 4) (by kernel_rfl) rfl ?_
            intro K hK
            go_simp
            have hxa := Ext.alloc wc (.cells #[.string (bs (ofP p).name), .string (bs (ofP p).ver), .slice en (ofP p).needs.length ecn, .slice ec (ofP p).conf.length ecc, .slice ef (ofP p).files.length ecf, .slice eu (ofP p).units.length ecu] 37)
            have hbn := heap_alloc_new wc (.cells #[.string (bs (ofP p).name), .string (bs (ofP p).ver), .slice en (ofP p).needs.length ecn, .slice ec (ofP p).conf.length ecc, .slice ef (ofP p).files.length ecf, .slice eu (ofP p).units.length ecu] 37)
            obtain ⟨V, hV⟩ : ∃ x, x = wc.heap.size := ⟨_, rfl⟩
            rw [← hV] at hbn ⊢
            clear hV
            generalize wc.alloc (.cells #[.string (bs (ofP p).name), .string (bs (ofP p).ver), .slice en (ofP p).needs.length ecn, .slice ec (ofP p).conf.length ecc, .slice ef (ofP p).files.length ecf, .slice eu (ofP p).units.length ecu] 37) = wn at hxa hbn ⊢
            replace HKK := Lib.hid (HKK.out.trans hxa)
            replace HENT := Lib.hid (HENT.out.ext hxa)
            have HV := Lib.hid hbn
            clear hxa hbn
            refine hK.out _ _ ⟨blk_cell (HKK.out.heap HB6.out) 0 _ rfl, blk_cell (HKK.out.heap HT6.out) 1 _ rfl, blk_cell (HKK.out.heap HT6.out) 2 _ rfl, blk_cell (HKK.out.heap HT6.out) 3 _ rfl, blk_cell (HKK.out.heap HT6.out) 4 _ rfl, blk_cell (HKK.out.heap HT6.out) 5 _ rfl, blk_cell (HKK.out.heap HT6.out) 6 _ rfl⟩ ?_
            clear hK K
            obtain ⟨wc, rfl⟩ : ∃ x : World, x = wn := ⟨_, rfl⟩
            try simp only [List.getElem_toArray, List.getElem_cons_zero, List.getElem_cons_succ, Act.put, List.setIfInBounds_toArray, List.set_cons_zero, List.set_cons_succ]
            refine wpAnyK_one (i := 5) (by kernel_rfl) rfl ?_
            intro K hK
            go_simp
            go_at_call 17
            refine (base_with (.agg #[.map (some b)]) k f (some ⟨V, 0, none⟩) 1 [(ofP p, ⟨en, ec, ef, eu, ecn, ecc, ecf, ecu⟩)] wc (Or.inr ⟨b, A, rfl, HM6.out.ext HKK.out⟩) (ent_one HV.out HENT.out HPC2.out) (by intro z hz; simp only [List.mem_singleton] at hz; rw [hz]; exact ofP_right HRP.out) (by simp only [List.length_cons, List.length_nil]; omega)).mono ?_
            rintro E wn ⟨b2, A2, rfl, _, hm2, hx⟩
            replace HKK := Lib.hid (HKK.out.trans hx)
            have HM2 := Lib.hid hm2
            clear hx hm2
            go_wp2_with fail
            refine hK.out _ _ ⟨blk_cell (HKK.out.heap HB6.out) 0 _ rfl, blk_cell (HKK.out.heap HT6.out) 1 _ rfl, blk_cell (HKK.out.heap HT6.out) 2 _ rfl, blk_cell (HKK.out.heap HT6.out) 3 _ rfl, blk_cell (HKK.out.heap HT6.out) 4 _ rfl, blk_cell (HKK.out.heap HT6.out) 5 _ rfl, blk_cell (HKK.out.heap HT6.out) 6 _ rfl⟩ ?_
            clear hK K
            obtain ⟨wc, rfl⟩ : ∃ x : World, x = wn := ⟨_, rfl⟩
            try simp only [List.getElem_toArray, List.getElem_cons_zero, List.getElem_cons_succ, Act.put, List.setIfInBounds_toArray, List.set_cons_zero, List.set_cons_succ]
            have d4 := blk_cell (HKK.out.heap HB6.out) 0 (Value.map (some b)) rfl
            have f4 := blk_free (HKK.out.heap HB6.out) 0
            refine wpAnyK_last (i := 6) (by kernel_rfl) rfl (by kernel_rfl) ?_
            intro K hK
            go_simp
            refine hK.out _ _ ?_
            clear hK K
            try simp only [List.getElem_toArray, List.getElem_cons_zero, List.getElem_cons_succ, Act.put, List.setIfInBounds_toArray, List.set_cons_zero, List.set_cons_succ]
            refine wpAnyK_done (by kernel_rfl) ?_ _
            refine NoPanic.normal ?_
            clear d4 f4
            go_wp2_with fail
            have hBc := HKK.out.heap HB6.out
            have kb : Keep (· ≠ B) wc (wc.setCell ⟨B, 0, none⟩ (.map (some b2))) := (Keep.refl _ _).setCell (fun _ h => h) 0 _
            refine ⟨⟨k + 1, by go_num, by omega, Lib.hid ⟨b2, withF f (ofP p), A2, ?_, ?_, HG.out.with (ofP_right HRP.out) (ofP_sums p)⟩, Lib.hid ?_⟩, by simp [intOf]; omega⟩
            · have h := setCell_row hBc (i := 0) (.map (some b2))
              simpa using h
            · exact HM2.out.keep kb hBc
            · exact ((Keep.of_ext (S := fun j => j < w.heap.size) (hX.out.trans (HX5.out.trans (HX6.out.trans HKK.out)))).andThen kb (fun j hj _ => by have := HBL.out; show j ≠ B; omega)).ext_lt
        · obtain rfl : k = n := by omega
          have hn30 : k ≤ 30 := by
            have h := HSA.out
            unfold fewB at h
            simp only [Bool.and_eq_true, decide_eq_true_eq] at h
            have := HN.out
            omega
          obtain ⟨b, f, A, hB, hM, hG⟩ := hH.out
          clear hH hlt hk hl
          obtain ⟨w5, rfl⟩ : ∃ w5 : World, w5 = wr := ⟨_, rfl⟩
          have hbm : ∀ W, Ext w5 W → BaseM W (.agg #[.map (some b)]) k f := fun W z => Or.inr ⟨b, A, rfl, hM.ext z⟩
          have HBM := Lib.hid hbm; clear hbm
          have HB := Lib.hid hB; clear hB
          have HG := Lib.hid hG; clear hG hM
          have HX5 := hX; clear hX
          have b0 := blk_cell HB.out 0 (Value.map (some b)) rfl
          have hxl : x.length ≤ 100000 := by omega
          have hwo : ∀ W, W = w5.alloc (.cells #[.string (bs x)] 9) → Calls Tryz.prog 18 #[.agg #[.map (some b)], .slice (some ⟨w5.heap.size, 0, none⟩) 1 1] W (WithR k (lessF f x) W) := fun W h => base_without (.agg #[.map (some b)]) k f (some ⟨w5.heap.size, 0, none⟩) 1 [x] W (HBM.out _ (by rw [h]; exact Ext.alloc _ _)) (by rw [h]; exact str_one w5 x) (by intro z hz; simp only [List.mem_singleton] at hz; rw [hz]; exact hxl) (by omega) (by simp)
          have HWO := Lib.hid hwo; clear hwo
          go_upto_region 13 with (go_at_call 18; refine (HWO.out _ rfl).mono ?_; rintro E w6 ⟨b2, A2, rfl, _, hm2, hx6⟩; have HM2 := Lib.hid hm2; have HX6 := Lib.hid ((Ext.alloc w5 _).trans hx6); clear hm2 hx6)
          clear b0 HWO
          have hx_w7 : Ext w6 (w6.alloc (.cells #[.map (some b2)] 42)) := (Ext.alloc _ _)
          have hf_C8 := heap_alloc_new w6 (.cells #[.map (some b2)] 42)
          generalize w6.alloc (.cells #[.map (some b2)] 42) = w7 at hx_w7 hf_C8 ⊢
          obtain ⟨C8, h_C8⟩ : ∃ x, x = w6.heap.size := ⟨_, rfl⟩
          rw [← h_C8] at hf_C8
          try rw [← h_C8]
          have hs_C8 : w6.heap.size ≤ C8 := by omega
          clear h_C8
          have HC := Lib.hid hf_C8; clear hf_C8
          have hcm : ∀ W, Ext w7 W → BaseM W (.agg #[.map (some b2)]) k (lessF f x) := fun W z => Or.inr ⟨b2, A2, rfl, HM2.out.ext (hx_w7.trans z)⟩
          have HCM := Lib.hid hcm; clear hcm
          have HX57 := Lib.hid (HX6.out.trans hx_w7); clear hx_w7 hs_C8
          have hgt := base_get (.agg #[.map (some b)]) k f x w7 (HBM.out _ HX57.out) HG.out hxl
          obtain ⟨y, hy⟩ : ∃ y, y = (f x).getD pz := ⟨_, rfl⟩
          rw [← hy] at hgt
          clear hy
          have b0 := blk_cell (HX57.out.heap HB.out) 0 (Value.map (some b)) rfl
          have HGL := Lib.hid (HG.out.less x)
          cases hok : (f x).isSome
          · rw [hok] at hgt
            have HOK := Lib.hid hok; clear hok
            have HGT := Lib.hid hgt; clear hgt
            go_upto_region 14 with (go_at_call 19; refine HGT.out.mono ?_; rintro E w8 ⟨gA, hE8, _, _, hx8⟩; obtain ⟨gn, gc, gf, gu, gcn, gcc, gcf, gcu⟩ := gA; unfold pkgV at hE8; subst hE8; have HX8 := Lib.hid hx8; clear hx8)
            clear b0 HGT
            try simp only
            have hx_w9 : Ext w8 (w8.alloc (.cells #[.string (bs y.name), .string (bs y.ver), .slice gn y.needs.length gcn, .slice gc y.conf.length gcc, .slice gf y.files.length gcf, .slice gu y.units.length gcu] 37)) := (Ext.alloc _ _)
            have hf_G9 := heap_alloc_new w8 (.cells #[.string (bs y.name), .string (bs y.ver), .slice gn y.needs.length gcn, .slice gc y.conf.length gcc, .slice gf y.files.length gcf, .slice gu y.units.length gcu] 37)
            generalize w8.alloc (.cells #[.string (bs y.name), .string (bs y.ver), .slice gn y.needs.length gcn, .slice gc y.conf.length gcc, .slice gf y.files.length gcf, .slice gu y.units.length gcu] 37) = w9 at hx_w9 hf_G9 ⊢
            obtain ⟨G9, h_G9⟩ : ∃ x, x = w8.heap.size := ⟨_, rfl⟩
            rw [← h_G9] at hf_G9
            try rw [← h_G9]
            have hs_G9 : w8.heap.size ≤ G9 := by omega
            clear h_G9
            have HX79 := Lib.hid (HX8.out.trans hx_w9)
            have HX59 := Lib.hid (HX57.out.trans HX79.out)
            clear hx_w9 hf_G9 hs_G9
            have hcs : ∀ W, Ext w9 W → (W.cell? ⟨B, 0, none⟩ = some (.map (some b)) ∧ W.cell? ⟨C8, 0, none⟩ = some (.map (some b2))) := fun W z => ⟨blk_cell ((HX59.out.trans z).heap HB.out) 0 _ rfl, blk_cell ((HX79.out.trans z).heap HC.out) 0 _ rfl⟩
            have HCS := Lib.hid hcs; clear hcs
            have HK := Lib.hid ((Ext.refl w9).drew)
            go_cut [68] from 52 to 68 (fun v wx => v = .bool false ∧ Hid (Ext w9 wx))
            case first =>
              refine wp_region_noPanic ?_
              refine wp_region_held_drew (S := (fun W => W.cell? ⟨B, 0, none⟩ = some (.map (some b)) ∧ W.cell? ⟨C8, 0, none⟩ = some (.map (some b2)))) (by kernel_rfl) (HCS.out _ HK.out) (fun hHeld => ?_)
              clear hHeld
              generalize w9.drew = wc at HK ⊢
              refine wpAnyH_take (i := 0) (v := ?_) rfl (by kernel_rfl) (by kernel_rfl) (by kernel_rfl) (fun _ _ _ h => h) (Or.inl ⟨by kernel_rfl, ?_⟩) (HCS.out _ HK.out) ?_
              rotate_left
              · (intro wq hSw; (try dsimp only at hSw); first | (go_simp; done) | (go_simp; with_reducible rfl))
              try simp only [List.getElem_toArray, List.getElem_cons_zero, Act.put, List.setIfInBounds_toArray, List.set_cons_zero, List.set_cons_succ]
              refine wpAnyH_take (i := 1) (v := ?_) rfl (by kernel_rfl) (by kernel_rfl) (by kernel_rfl) (fun _ _ _ h => h) (Or.inl ⟨by kernel_rfl, ?_⟩) (HCS.out _ HK.out) ?_
              rotate_left
              · (intro wq hSw; (try dsimp only at hSw); first | (go_simp; done) | (go_simp; with_reducible rfl))
              try simp only [List.getElem_toArray, List.getElem_cons_zero, List.getElem_cons_succ, Act.put, List.setIfInBounds_toArray, List.set_cons_zero, List.set_cons_succ]
              refine wpAnyH_take (i := 3) (v := ?_) rfl (by kernel_rfl) (by kernel_rfl) (by kernel_rfl) (fun _ _ _ h => h) (Or.inl ⟨by kernel_rfl, ?_⟩) (HCS.out _ HK.out) ?_
              rotate_left
              · (intro wq _; first | (go_simp; done) | (go_simp; with_reducible rfl))
              try simp only [List.getElem_toArray, List.getElem_cons_zero, List.getElem_cons_succ, Act.put, List.setIfInBounds_toArray, List.set_cons_zero, List.set_cons_succ]
              all_goals (
                first
                  | refine wpAnyH_ready (rs := [2]) (by decide +kernel) (by simp) ?_
                repeat' (first | exact AllReadyH.nil | (refine AllReadyH.cons rfl (fun K hK => ?_) ?_)))
              all_goals (
                first
                  | (go_simp
                     first
                       | (go_at_call 16
                          refine (base_same (.agg #[.map (some b)]) (.agg #[.map (some b2)]) k k f (lessF f x) wc (HBM.out _ (HX59.out.trans HK.out)) (HCM.out _ (HX79.out.trans HK.out)) HG.out HGL.out (by omega) (by omega)).mono ?_
                          rintro E wn ⟨⟨q, rfl, hq⟩, hx⟩
                          replace HK := Lib.hid (HK.out.trans hx)
                          have hqv : q = true := by exact hq.2 (lessF_none (by cases h : f x; rfl; have h2 := HOK.out; rw [h] at h2; cases h2)).symm
                          subst hqv
                          clear hq hx
                          go_wp2_with fail
                          refine hK.out _ _ (HCS.out _ HK.out) (fun _ => ?_)
                          clear hK K
                          obtain ⟨wc, rfl⟩ : ∃ x : World, x = wn := ⟨_, rfl⟩
                          try simp only [List.getElem_toArray, List.getElem_cons_zero, List.getElem_cons_succ, Act.put, List.setIfInBounds_toArray, List.set_cons_zero, List.set_cons_succ]
                          refine wpAnyH_take (i := 4) (v := ?_) rfl (by kernel_rfl) (by kernel_rfl) (by kernel_rfl) (fun _ _ _ h => h) (Or.inl ⟨by kernel_rfl, ?_⟩) (HCS.out _ HK.out) ?_
                          rotate_left
                          · (intro wq _; first | (go_simp; done) | (go_simp; with_reducible rfl))
                          try simp only [List.getElem_toArray, List.getElem_cons_zero, List.getElem_cons_succ, Act.put, List.setIfInBounds_toArray, List.set_cons_zero, List.set_cons_succ]
                          refine wpAnyH_take (i := 5) (v := ?_) rfl (by kernel_rfl) (by kernel_rfl) (by kernel_rfl) (fun _ _ _ h => h) (Or.inl ⟨by kernel_rfl, ?_⟩) (HCS.out _ HK.out) ?_
                          rotate_left
                          · (intro wq _; first | (go_simp; done) | (go_simp; with_reducible rfl))
                          try simp only [List.getElem_toArray, List.getElem_cons_zero, List.getElem_cons_succ, Act.put, List.setIfInBounds_toArray, List.set_cons_zero, List.set_cons_succ]
                          refine wpAnyH_take (i := 6) (v := ?_) rfl (by kernel_rfl) (by kernel_rfl) (by kernel_rfl) (fun _ _ _ h => h) (Or.inl ⟨by kernel_rfl, ?_⟩) (HCS.out _ HK.out) ?_
                          rotate_left
                          · (intro wq hSw; (try dsimp only at hSw); first | (go_simp; done) | (go_simp; with_reducible rfl))
                          try simp only [List.getElem_toArray, List.getElem_cons_zero, List.getElem_cons_succ, Act.put, List.setIfInBounds_toArray, List.set_cons_zero, List.set_cons_succ]
                          refine wpAnyH_take (i := 9) (v := ?_) rfl (by kernel_rfl) (by kernel_rfl) (by kernel_rfl) (fun _ _ _ h => h) (Or.inl ⟨by kernel_rfl, ?_⟩) (HCS.out _ HK.out) ?_
                          rotate_left
                          · (intro wq hSw; (try dsimp only at hSw); first | (go_simp; done) | (go_simp; with_reducible rfl))
                          try simp only [List.getElem_toArray, List.getElem_cons_zero, List.getElem_cons_succ, Act.put, List.setIfInBounds_toArray, List.set_cons_zero, List.set_cons_succ]
                          refine wpAnyH_take (i := 12) (v := ?_) rfl (by kernel_rfl) (by kernel_rfl) (by kernel_rfl) (fun _ _ _ h => h) (Or.inl ⟨by kernel_rfl, ?_⟩) (HCS.out _ HK.out) ?_
                          rotate_left
                          · (intro wq _; first | (go_simp; done) | (go_simp; with_reducible rfl))
                          try simp only [List.getElem_toArray, List.getElem_cons_zero, List.getElem_cons_succ, Act.put, List.setIfInBounds_toArray, List.set_cons_zero, List.set_cons_succ])))
              all_goals (
                first
                  | refine wpAnyH_ready (rs := [7]) (by decide +kernel) (by simp) ?_
                repeat' (first | exact AllReadyH.nil | (refine AllReadyH.cons rfl (fun K hK => ?_) ?_)))
              all_goals (
                first
                  | (go_simp
                     first
                       | (go_at_call 20
                          refine (base_names (.agg #[.map (some b2)]) k (lessF f x) wc (HCM.out _ (HX79.out.trans HK.out)) (by omega)).mono ?_
                          rintro E wn ⟨ta, tc, tt, rfl, htt, _, htl, hx⟩
                          replace HK := Lib.hid (HK.out.trans hx)
                          obtain ⟨nt, hnt⟩ : ∃ z, z = tt.length := ⟨_, rfl⟩
                          rw [← hnt] at htl ⊢
                          have HTT := Lib.hid htt
                          have HNT := Lib.hid hnt
                          clear htt hnt hx
                          go_wp2_with fail
                          refine hK.out _ _ (HCS.out _ HK.out) (fun _ => ?_)
                          clear hK K
                          obtain ⟨wc, rfl⟩ : ∃ x : World, x = wn := ⟨_, rfl⟩
                          try simp only [List.getElem_toArray, List.getElem_cons_zero, List.getElem_cons_succ, Act.put, List.setIfInBounds_toArray, List.set_cons_zero, List.set_cons_succ]
                          refine wpAnyH_take (i := 8) (v := ?_) rfl (by kernel_rfl) (by kernel_rfl) (by kernel_rfl) (fun _ _ _ h => h) (Or.inl ⟨by kernel_rfl, ?_⟩) (HCS.out _ HK.out) ?_
                          rotate_left
                          · (intro wq _; first | (go_simp; done) | (go_simp; with_reducible rfl))
                          try simp only [List.getElem_toArray, List.getElem_cons_zero, List.getElem_cons_succ, Act.put, List.setIfInBounds_toArray, List.set_cons_zero, List.set_cons_succ])))
              all_goals (
                first
                  | refine wpAnyH_ready (rs := [10]) (by decide +kernel) (by simp) ?_
                repeat' (first | exact AllReadyH.nil | (refine AllReadyH.cons rfl (fun K hK => ?_) ?_)))
              all_goals (
                first
                  | (go_simp
                     first
                       | (go_at_call 20
                          refine (base_names (.agg #[.map (some b)]) k f wc (HBM.out _ (HX59.out.trans HK.out)) (by omega)).mono ?_
                          rintro E wn ⟨sa, sc, ss, rfl, hss, _, hsl, hx⟩
                          replace HK := Lib.hid (HK.out.trans hx)
                          obtain ⟨ns, hns⟩ : ∃ z, z = ss.length := ⟨_, rfl⟩
                          rw [← hns] at hsl ⊢
                          have hlen : nt = ns := by rw [HNT.out, hns]; exact names_same hss HTT.out (by cases h : f x; rfl; have h2 := HOK.out; rw [h] at h2; cases h2)
                          have HLEN := Lib.hid hlen
                          clear hss hns hlen hx
                          go_wp2_with fail
                          refine hK.out _ _ (HCS.out _ HK.out) (fun _ => ?_)
                          clear hK K
                          obtain ⟨wc, rfl⟩ : ∃ x : World, x = wn := ⟨_, rfl⟩
                          try simp only [List.getElem_toArray, List.getElem_cons_zero, List.getElem_cons_succ, Act.put, List.setIfInBounds_toArray, List.set_cons_zero, List.set_cons_succ]
                          refine wpAnyH_take (i := 11) (v := ?_) rfl (by kernel_rfl) (by kernel_rfl) (by kernel_rfl) (fun _ _ _ h => h) (Or.inl ⟨by kernel_rfl, ?_⟩) (HCS.out _ HK.out) ?_
                          rotate_left
                          · (intro wq _; first | (go_simp; done) | (go_simp; with_reducible rfl))
                          try simp only [List.getElem_toArray, List.getElem_cons_zero, List.getElem_cons_succ, Act.put, List.setIfInBounds_toArray, List.set_cons_zero, List.set_cons_succ])))
              all_goals (
                first
                  | refine wpAnyH_ready (rs := [13]) (by decide +kernel) (by simp) ?_
                repeat' (first | exact AllReadyH.nil | (refine AllReadyH.cons rfl (fun K hK => ?_) ?_)))
              all_goals (
                first
                  | (go_simp
                     first
                       | (go_at_call 21
                          refine (law_count false wc).mono ?_
                          rintro E wn ⟨rfl, rfl⟩
                          go_wp2_with fail
                          refine hK.out _ _ (HCS.out _ HK.out) (fun _ => ?_)
                          clear hK K
                          have hsub : IntKind.i64.wrap ((ns : Int)) = (nt : Int) := by have h := HLEN.out; rw [IntWalk.i64_in _ (by omega)]; omega
                          try simp only [List.getElem_toArray, List.getElem_cons_zero, List.getElem_cons_succ, Act.put, List.setIfInBounds_toArray, List.set_cons_zero, List.set_cons_succ]
                          refine wpAnyH_take (i := 14) (v := ?_) rfl (by kernel_rfl) (by kernel_rfl) (by kernel_rfl) (fun _ _ _ h => h) (Or.inl ⟨by kernel_rfl, ?_⟩) (HCS.out _ HK.out) ?_
                          rotate_left
                          · (intro wq _; first | (go_simp; done) | (go_simp; with_reducible rfl))
                          try simp only [List.getElem_toArray, List.getElem_cons_zero, List.getElem_cons_succ, Act.put, List.setIfInBounds_toArray, List.set_cons_zero, List.set_cons_succ]
                          refine wpAnyH_take (i := 15) (v := ?_) rfl (by kernel_rfl) (by kernel_rfl) (by kernel_rfl) (fun _ _ _ h => h) (Or.inl ⟨by kernel_rfl, ?_⟩) (HCS.out _ HK.out) ?_
                          rotate_left
                          · (intro wq _; first | (go_simp; done) | (go_simp; with_reducible rfl))
                          try simp only [List.getElem_toArray, List.getElem_cons_zero, List.getElem_cons_succ, Act.put, List.setIfInBounds_toArray, List.set_cons_zero, List.set_cons_succ]
                          refine wpAnyH_take (i := 16) (v := ?_) rfl (by kernel_rfl) (by kernel_rfl) (by kernel_rfl) (fun _ _ _ h => h) (Or.inl ⟨by kernel_rfl, ?_⟩) (HCS.out _ HK.out) ?_
                          rotate_left
                          · (intro wq _; first | (go_simp; done) | (go_simp; with_reducible rfl))
                          try simp only [List.getElem_toArray, List.getElem_cons_zero, List.getElem_cons_succ, Act.put, List.setIfInBounds_toArray, List.set_cons_zero, List.set_cons_succ])))
              all_goals (
                refine wpAnyH_done (by kernel_rfl) ?_ _
                refine NoPanic.normal ?_
                clear hsub
                go_wp2_with fail
                go_meet
                exact ⟨rfl, HK⟩)
            case rest =>
              obtain ⟨rfl, hx⟩ := hcut
              obtain ⟨wA, rfl⟩ : ∃ wA : World, wA = wc := ⟨_, rfl⟩
              have HX5A := Lib.hid (HX59.out.trans hx.out)
              clear hx HK HCS
              have hnm := base_names (.agg #[.map (some b)]) k f wA (HBM.out _ HX5A.out) (by omega)
              have HNM := Lib.hid hnm; clear hnm
              have b0 := blk_cell (HX5A.out.heap HB.out) 0 (Value.map (some b)) rfl
              go_wp2_with (go_at_call 20; refine HNM.out.mono ?_; rintro E wB ⟨sa, sc, ss, rfl, hss, hown, hsl, hxB⟩; have HSS := Lib.hid hss; have HST := Lib.hid hown.strs.1; have HXB := Lib.hid hxB; clear hss hown hxB)
              clear b0 HNM
              obtain ⟨m, hmm⟩ : ∃ m, m = ss.length := ⟨_, rfl⟩
              rw [← hmm] at hsl ⊢
              have HMM := Lib.hid hmm; clear hmm
              have HX5B := Lib.hid (HX5A.out.trans HXB.out)
              go_loopw [72] (fun i wr => ∃ j : Nat, i = .int .i64 j ∧ j ≤ m ∧ Hid (Ext wB wr)) (fun i _ => m - (intOf i).toNat)
              case atStart => exact ⟨0, rfl, Nat.zero_le _, Lib.hid (Ext.refl _)⟩
              case round =>
                obtain ⟨j, rfl, hj, hXj⟩ := hrel
                by_cases hjl : j < m
                · have hjL : j < ss.length := by have := HMM.out; omega
                  obtain ⟨g, off, rfl, _, hc⟩ := (HST.out.ext hXj.out).at (by intro e; rw [e] at hjL; simp at hjL)
                  have c0 := hc j hjL
                  clear hc
                  obtain ⟨z, hz⟩ : ∃ z, z = ss.getD j [] := ⟨_, rfl⟩
                  rw [← hz] at c0
                  have hzs : z ∈ ss := by rw [hz, List.getD_eq_getElem?_getD, List.getElem?_eq_getElem hjL]; simp
                  clear hz
                  obtain ⟨e, hfe⟩ := Option.isSome_iff_exists.1 ((HSS.out.2.2 z).1 hzs)
                  have hge := HG.out z e hfe
                  have hzl : z.length ≤ 100000 := by have := right_lens hge.2.1; rw [← hge.1]; omega
                  have hget := base_get (.agg #[.map (some b)]) k f z wr (HBM.out _ (HX5B.out.trans hXj.out)) HG.out hzl
                  rw [hfe] at hget
                  have HGT := Lib.hid hget; clear hget
                  have HFE := Lib.hid hfe; clear hfe
                  have HGE := Lib.hid hge; clear hge hzs
                  have b0 := blk_cell ((HX5B.out.trans hXj.out).heap HB.out) 0 (Value.map (some b)) rfl
                  go_upto_region 20 with (go_at_call 19; refine HGT.out.mono ?_; rintro E wC ⟨gA, hE8, hent, hpc, hxC⟩; obtain ⟨gn, gc, gf, gu, gcn, gcc, gcf, gcu⟩ := gA; unfold pkgV at hE8; simp only [Option.getD_some] at hE8 hent hpc; subst hE8; have HENT := Lib.hid hent; have HPC2 := Lib.hid hpc; have HXC := Lib.hid hxC; clear hxC hent hpc)
                  clear b0 c0 HGT
                  try simp only
                  have hx_wD : Ext wC (wC.alloc (.cells #[.string (bs e.name), .string (bs e.ver), .slice gn e.needs.length gcn, .slice gc e.conf.length gcc, .slice gf e.files.length gcf, .slice gu e.units.length gcu] 37)) := (Ext.alloc _ _)
                  have hf_G := heap_alloc_new wC (.cells #[.string (bs e.name), .string (bs e.ver), .slice gn e.needs.length gcn, .slice gc e.conf.length gcc, .slice gf e.files.length gcf, .slice gu e.units.length gcu] 37)
                  generalize wC.alloc (.cells #[.string (bs e.name), .string (bs e.ver), .slice gn e.needs.length gcn, .slice gc e.conf.length gcc, .slice gf e.files.length gcf, .slice gu e.units.length gcu] 37) = wD at hx_wD hf_G ⊢
                  obtain ⟨G, h_G⟩ : ∃ x, x = wC.heap.size := ⟨_, rfl⟩
                  rw [← h_G] at hf_G
                  try rw [← h_G]
                  have hs_G : wC.heap.size ≤ G := by omega
                  clear h_G
                  have HGB := Lib.hid hf_G; clear hf_G
                  replace HENT := Lib.hid (HENT.out.ext hx_wD)
                  have HXjD := Lib.hid (hXj.out.trans (HXC.out.trans hx_wD)); clear hx_wD hs_G
                  have HX5D := Lib.hid (HX5B.out.trans HXjD.out)
                  have hcs : ∀ W, Ext wD W → W.cell? ⟨B, 0, none⟩ = some (.map (some b)) ∧ W.cell? ⟨G, 0, none⟩ = some (.string (bs e.name)) ∧ W.cell? ⟨G, 1, none⟩ = some (.string (bs e.ver)) ∧ W.cell? ⟨G, 2, none⟩ = some (.slice gn e.needs.length gcn) ∧ W.cell? ⟨G, 3, none⟩ = some (.slice gc e.conf.length gcc) ∧ W.cell? ⟨G, 4, none⟩ = some (.slice gf e.files.length gcf) ∧ W.cell? ⟨G, 5, none⟩ = some (.slice gu e.units.length gcu) := fun W z => ⟨blk_cell ((HX5D.out.trans z).heap HB.out) 0 _ rfl, blk_cell (z.heap HGB.out) 0 _ rfl, blk_cell (z.heap HGB.out) 1 _ rfl, blk_cell (z.heap HGB.out) 2 _ rfl, blk_cell (z.heap HGB.out) 3 _ rfl, blk_cell (z.heap HGB.out) 4 _ rfl, blk_cell (z.heap HGB.out) 5 _ rfl⟩
                  have HCS := Lib.hid hcs; clear hcs
                  have HK := Lib.hid ((Ext.refl wD).drew)
                  go_cut [100] from 82 to 100 (fun v wx => v = .bool false ∧ Hid (Ext wD wx))
                  case first =>
                    refine wp_region_noPanic ?_
                    refine wp_region_held_drew (S := (fun W => W.cell? ⟨B, 0, none⟩ = some (.map (some b)) ∧ W.cell? ⟨G, 0, none⟩ = some (.string (bs e.name)) ∧ W.cell? ⟨G, 1, none⟩ = some (.string (bs e.ver)) ∧ W.cell? ⟨G, 2, none⟩ = some (.slice gn e.needs.length gcn) ∧ W.cell? ⟨G, 3, none⟩ = some (.slice gc e.conf.length gcc) ∧ W.cell? ⟨G, 4, none⟩ = some (.slice gf e.files.length gcf) ∧ W.cell? ⟨G, 5, none⟩ = some (.slice gu e.units.length gcu))) (by kernel_rfl) (HCS.out _ HK.out) (fun hHeld => ?_)
                    clear hHeld
                    generalize wD.drew = wc at HK ⊢
                    refine wpAnyH_take (i := 0) (v := ?_) rfl (by kernel_rfl) (by kernel_rfl) (by kernel_rfl) (fun _ _ _ h => h) (Or.inl ⟨by kernel_rfl, ?_⟩) (HCS.out _ HK.out) ?_
                    rotate_left
                    · (intro wq hSw; (try dsimp only at hSw); first | (go_simp; done) | (go_simp; with_reducible rfl))
                    try simp only [List.getElem_toArray, List.getElem_cons_zero, Act.put, List.setIfInBounds_toArray, List.set_cons_zero, List.set_cons_succ]
                    refine wpAnyH_take (i := 1) (v := ?_) rfl (by kernel_rfl) (by kernel_rfl) (by kernel_rfl) (fun _ _ _ h => h) (Or.inl ⟨by kernel_rfl, ?_⟩) (HCS.out _ HK.out) ?_
                    rotate_left
                    · (intro wq hSw; (try dsimp only at hSw); first | (go_simp; done) | (go_simp; with_reducible rfl))
                    try simp only [List.getElem_toArray, List.getElem_cons_zero, List.getElem_cons_succ, Act.put, List.setIfInBounds_toArray, List.set_cons_zero, List.set_cons_succ]
                    refine wpAnyH_take (i := 4) (v := ?_) rfl (by kernel_rfl) (by kernel_rfl) (by kernel_rfl) (fun _ _ _ h => h) (Or.inl ⟨by kernel_rfl, ?_⟩) (HCS.out _ HK.out) ?_
                    rotate_left
                    · (intro wq hSw; (try dsimp only at hSw); first | (go_simp; done) | (go_simp; with_reducible rfl))
                    try simp only [List.getElem_toArray, List.getElem_cons_zero, List.getElem_cons_succ, Act.put, List.setIfInBounds_toArray, List.set_cons_zero, List.set_cons_succ]
                    all_goals (
                      first
                        | refine wpAnyH_ready (rs := [2]) (by decide +kernel) (by simp) ?_
                      repeat' (first | exact AllReadyH.nil | (refine AllReadyH.cons rfl (fun K hK => ?_) ?_)))
                    all_goals (
                      first
                        | (go_simp
                           first
                             | (have hx := Ext.alloc wc (.cells #[.string (bs e.name), .string (bs e.ver), .slice gn e.needs.length gcn, .slice gc e.conf.length gcc, .slice gf e.files.length gcf, .slice gu e.units.length gcu] 37)
                                have hbn := heap_alloc_new wc (.cells #[.string (bs e.name), .string (bs e.ver), .slice gn e.needs.length gcn, .slice gc e.conf.length gcc, .slice gf e.files.length gcf, .slice gu e.units.length gcu] 37)
                                refine hK.out _ (wc.alloc (.cells #[.string (bs e.name), .string (bs e.ver), .slice gn e.needs.length gcn, .slice gc e.conf.length gcc, .slice gf e.files.length gcf, .slice gu e.units.length gcu] 37)) (HCS.out _ (HK.out.trans hx)) (fun _ => ?_)
                                clear hK K
                                try replace HV := Lib.hid (hx.heap HV.out)
                                try replace HU := Lib.hid (hx.heap HU.out)
                                try replace HV2 := Lib.hid (hx.heap HV2.out)
                                try replace HM3 := Lib.hid (HM3.out.ext hx)
                                try replace HM4 := Lib.hid (HM4.out.ext hx)
                                try replace HM5 := Lib.hid (HM5.out.ext hx)
                                replace HK := Lib.hid (HK.out.trans hx)
                                obtain ⟨V, hB⟩ : ∃ x, x = wc.heap.size := ⟨_, rfl⟩
                                rw [← hB] at hbn ⊢
                                have HV := Lib.hid hbn
                                clear hbn hB hx
                                generalize wc.alloc (.cells #[.string (bs e.name), .string (bs e.ver), .slice gn e.needs.length gcn, .slice gc e.conf.length gcc, .slice gf e.files.length gcf, .slice gu e.units.length gcu] 37) = wc at *
                                try simp only [List.getElem_toArray, List.getElem_cons_zero, List.getElem_cons_succ, Act.put, List.setIfInBounds_toArray, List.set_cons_zero, List.set_cons_succ])))
                    all_goals (
                      first
                        | refine wpAnyH_ready (rs := [3]) (by decide +kernel) (by simp) ?_
                      repeat' (first | exact AllReadyH.nil | (refine AllReadyH.cons rfl (fun K hK => ?_) ?_)))
                    all_goals (
                      first
                        | (go_simp
                           first
                             | (go_at_call 17
                                refine (base_with (.agg #[.map (some b)]) k f (some ⟨V, 0, none⟩) 1 [(e, ⟨gn, gc, gf, gu, gcn, gcc, gcf, gcu⟩)] wc (HBM.out _ (HX5D.out.trans HK.out)) (ent_one HV.out (HENT.out.ext HK.out) HPC2.out) (by intro t ht; simp only [List.mem_singleton] at ht; rw [ht]; exact HGE.out.2.1) (by simp only [List.length_cons, List.length_nil]; omega)).mono ?_
                                rintro E wn ⟨b3, A3, rfl, _, hm3, hx⟩
                                try replace HV := Lib.hid (hx.heap HV.out)
                                try replace HU := Lib.hid (hx.heap HU.out)
                                try replace HV2 := Lib.hid (hx.heap HV2.out)
                                try replace HM3 := Lib.hid (HM3.out.ext hx)
                                try replace HM4 := Lib.hid (HM4.out.ext hx)
                                try replace HM5 := Lib.hid (HM5.out.ext hx)
                                replace HK := Lib.hid (HK.out.trans hx)
                                have hm3' : EntsM wn b3 (k + 1) (withF f e) A3 := hm3
                                rw [withF_self HG.out HFE.out] at hm3'
                                have HM3 := Lib.hid hm3'
                                clear hm3 hm3' hx
                                go_wp2_with fail
                                refine hK.out _ _ (HCS.out _ HK.out) (fun _ => ?_)
                                clear hK K
                                obtain ⟨wc, rfl⟩ : ∃ x : World, x = wn := ⟨_, rfl⟩
                                try simp only [List.getElem_toArray, List.getElem_cons_zero, List.getElem_cons_succ, Act.put, List.setIfInBounds_toArray, List.set_cons_zero, List.set_cons_succ])))
                    all_goals (
                      first
                        | refine wpAnyH_ready (rs := [5]) (by decide +kernel) (by simp) ?_
                      repeat' (first | exact AllReadyH.nil | (refine AllReadyH.cons rfl (fun K hK => ?_) ?_)))
                    all_goals (
                      first
                        | (go_simp
                           first
                             | (go_at_call 16
                                refine (base_same (.agg #[.map (some b3)]) (.agg #[.map (some b)]) (k + 1) k f f wc (Or.inr ⟨b3, A3, rfl, HM3.out⟩) (HBM.out _ (HX5D.out.trans HK.out)) HG.out HG.out (by omega) (by omega)).mono ?_
                                rintro E wn ⟨⟨q, rfl, hq⟩, hx⟩
                                try replace HV := Lib.hid (hx.heap HV.out)
                                try replace HU := Lib.hid (hx.heap HU.out)
                                try replace HV2 := Lib.hid (hx.heap HV2.out)
                                try replace HM3 := Lib.hid (HM3.out.ext hx)
                                try replace HM4 := Lib.hid (HM4.out.ext hx)
                                try replace HM5 := Lib.hid (HM5.out.ext hx)
                                replace HK := Lib.hid (HK.out.trans hx)
                                have hqv : q = true := hq.2 (by first | rfl | trivial)
                                subst hqv
                                clear hq hx
                                go_wp2_with fail
                                refine hK.out _ _ (HCS.out _ HK.out) (fun _ => ?_)
                                clear hK K
                                obtain ⟨wc, rfl⟩ : ∃ x : World, x = wn := ⟨_, rfl⟩
                                try simp only [List.getElem_toArray, List.getElem_cons_zero, List.getElem_cons_succ, Act.put, List.setIfInBounds_toArray, List.set_cons_zero, List.set_cons_succ]
                                refine wpAnyH_take (i := 6) (v := ?_) rfl (by kernel_rfl) (by kernel_rfl) (by kernel_rfl) (fun _ _ _ h => h) (Or.inl ⟨by kernel_rfl, ?_⟩) (HCS.out _ HK.out) ?_
                                rotate_left
                                · (intro wq _; first | (go_simp; done) | (go_simp; with_reducible rfl))
                                try simp only [List.getElem_toArray, List.getElem_cons_zero, List.getElem_cons_succ, Act.put, List.setIfInBounds_toArray, List.set_cons_zero, List.set_cons_succ]
                                refine wpAnyH_take (i := 7) (v := ?_) rfl (by kernel_rfl) (by kernel_rfl) (by kernel_rfl) (fun _ _ _ h => h) (Or.inl ⟨by kernel_rfl, ?_⟩) (HCS.out _ HK.out) ?_
                                rotate_left
                                · (intro wq _; first | (go_simp; done) | (go_simp; with_reducible rfl))
                                try simp only [List.getElem_toArray, List.getElem_cons_zero, List.getElem_cons_succ, Act.put, List.setIfInBounds_toArray, List.set_cons_zero, List.set_cons_succ]
                                refine wpAnyH_take (i := 8) (v := ?_) rfl (by kernel_rfl) (by kernel_rfl) (by kernel_rfl) (fun _ _ _ h => h) (Or.inl ⟨by kernel_rfl, ?_⟩) (HCS.out _ HK.out) ?_
                                rotate_left
                                · (intro wq hSw; (try dsimp only at hSw); first | (go_simp; done) | (go_simp; with_reducible rfl))
                                try simp only [List.getElem_toArray, List.getElem_cons_zero, List.getElem_cons_succ, Act.put, List.setIfInBounds_toArray, List.set_cons_zero, List.set_cons_succ]
                                refine wpAnyH_take (i := 9) (v := ?_) rfl (by kernel_rfl) (by kernel_rfl) (by kernel_rfl) (fun _ _ _ h => h) (Or.inl ⟨by kernel_rfl, ?_⟩) (HCS.out _ HK.out) ?_
                                rotate_left
                                · (intro wq _; first | (go_simp; done) | (go_simp; with_reducible rfl))
                                try simp only [List.getElem_toArray, List.getElem_cons_zero, List.getElem_cons_succ, Act.put, List.setIfInBounds_toArray, List.set_cons_zero, List.set_cons_succ]
                                refine wpAnyH_take (i := 12) (v := ?_) rfl (by kernel_rfl) (by kernel_rfl) (by kernel_rfl) (fun _ _ _ h => h) (Or.inl ⟨by kernel_rfl, ?_⟩) (HCS.out _ HK.out) ?_
                                rotate_left
                                · (intro wq hSw; (try dsimp only at hSw); first | (go_simp; done) | (go_simp; with_reducible rfl))
                                try simp only [List.getElem_toArray, List.getElem_cons_zero, List.getElem_cons_succ, Act.put, List.setIfInBounds_toArray, List.set_cons_zero, List.set_cons_succ]
                                refine wpAnyH_take (i := 15) (v := ?_) rfl (by kernel_rfl) (by kernel_rfl) (by kernel_rfl) (fun _ _ _ h => h) (Or.inl ⟨by kernel_rfl, ?_⟩) (HCS.out _ HK.out) ?_
                                rotate_left
                                · (intro wq hSw; (try dsimp only at hSw); first | (go_simp; done) | (go_simp; with_reducible rfl))
                                try simp only [List.getElem_toArray, List.getElem_cons_zero, List.getElem_cons_succ, Act.put, List.setIfInBounds_toArray, List.set_cons_zero, List.set_cons_succ])))
                    all_goals (
                      first
                        | refine wpAnyH_ready (rs := [10, 13]) (by decide +kernel) (by simp) ?_
                      repeat' (first | exact AllReadyH.nil | (refine AllReadyH.cons rfl (fun K hK => ?_) ?_)))
                    all_goals (
                      first
                        | (go_simp
                           first
                             | (have hx := Ext.alloc wc (.cells #[.string (bs z)] 9)
                                have hbn := heap_alloc_new wc (.cells #[.string (bs z)] 9)
                                refine hK.out _ (wc.alloc (.cells #[.string (bs z)] 9)) (HCS.out _ (HK.out.trans hx)) (fun _ => ?_)
                                clear hK K
                                try replace HV := Lib.hid (hx.heap HV.out)
                                try replace HU := Lib.hid (hx.heap HU.out)
                                try replace HV2 := Lib.hid (hx.heap HV2.out)
                                try replace HM3 := Lib.hid (HM3.out.ext hx)
                                try replace HM4 := Lib.hid (HM4.out.ext hx)
                                try replace HM5 := Lib.hid (HM5.out.ext hx)
                                replace HK := Lib.hid (HK.out.trans hx)
                                obtain ⟨U, hB⟩ : ∃ x, x = wc.heap.size := ⟨_, rfl⟩
                                rw [← hB] at hbn ⊢
                                have HU := Lib.hid hbn
                                clear hbn hB hx
                                generalize wc.alloc (.cells #[.string (bs z)] 9) = wc at *
                                try simp only [List.getElem_toArray, List.getElem_cons_zero, List.getElem_cons_succ, Act.put, List.setIfInBounds_toArray, List.set_cons_zero, List.set_cons_succ])
                             | (have hx := Ext.alloc wc (.cells #[.string (bs e.name), .string (bs e.ver), .slice gn e.needs.length gcn, .slice gc e.conf.length gcc, .slice gf e.files.length gcf, .slice gu e.units.length gcu] 37)
                                have hbn := heap_alloc_new wc (.cells #[.string (bs e.name), .string (bs e.ver), .slice gn e.needs.length gcn, .slice gc e.conf.length gcc, .slice gf e.files.length gcf, .slice gu e.units.length gcu] 37)
                                refine hK.out _ (wc.alloc (.cells #[.string (bs e.name), .string (bs e.ver), .slice gn e.needs.length gcn, .slice gc e.conf.length gcc, .slice gf e.files.length gcf, .slice gu e.units.length gcu] 37)) (HCS.out _ (HK.out.trans hx)) (fun _ => ?_)
                                clear hK K
                                try replace HV := Lib.hid (hx.heap HV.out)
                                try replace HU := Lib.hid (hx.heap HU.out)
                                try replace HV2 := Lib.hid (hx.heap HV2.out)
                                try replace HM3 := Lib.hid (HM3.out.ext hx)
                                try replace HM4 := Lib.hid (HM4.out.ext hx)
                                try replace HM5 := Lib.hid (HM5.out.ext hx)
                                replace HK := Lib.hid (HK.out.trans hx)
                                obtain ⟨V2, hB⟩ : ∃ x, x = wc.heap.size := ⟨_, rfl⟩
                                rw [← hB] at hbn ⊢
                                have HV2 := Lib.hid hbn
                                clear hbn hB hx
                                generalize wc.alloc (.cells #[.string (bs e.name), .string (bs e.ver), .slice gn e.needs.length gcn, .slice gc e.conf.length gcc, .slice gf e.files.length gcf, .slice gu e.units.length gcu] 37) = wc at *
                                try simp only [List.getElem_toArray, List.getElem_cons_zero, List.getElem_cons_succ, Act.put, List.setIfInBounds_toArray, List.set_cons_zero, List.set_cons_succ])))
                    all_goals (
                      first
                        | refine wpAnyH_ready (rs := [11, 13]) (by decide +kernel) (by simp) ?_
                        | refine wpAnyH_ready (rs := [10]) (by decide +kernel) (by simp) ?_
                      repeat' (first | exact AllReadyH.nil | (refine AllReadyH.cons rfl (fun K hK => ?_) ?_)))
                    all_goals (
                      first
                        | (go_simp
                           first
                             | (have hx := Ext.alloc wc (.cells #[.string (bs z)] 9)
                                have hbn := heap_alloc_new wc (.cells #[.string (bs z)] 9)
                                refine hK.out _ (wc.alloc (.cells #[.string (bs z)] 9)) (HCS.out _ (HK.out.trans hx)) (fun _ => ?_)
                                clear hK K
                                try replace HV := Lib.hid (hx.heap HV.out)
                                try replace HU := Lib.hid (hx.heap HU.out)
                                try replace HV2 := Lib.hid (hx.heap HV2.out)
                                try replace HM3 := Lib.hid (HM3.out.ext hx)
                                try replace HM4 := Lib.hid (HM4.out.ext hx)
                                try replace HM5 := Lib.hid (HM5.out.ext hx)
                                replace HK := Lib.hid (HK.out.trans hx)
                                obtain ⟨U, hB⟩ : ∃ x, x = wc.heap.size := ⟨_, rfl⟩
                                rw [← hB] at hbn ⊢
                                have HU := Lib.hid hbn
                                clear hbn hB hx
                                generalize wc.alloc (.cells #[.string (bs z)] 9) = wc at *
                                try simp only [List.getElem_toArray, List.getElem_cons_zero, List.getElem_cons_succ, Act.put, List.setIfInBounds_toArray, List.set_cons_zero, List.set_cons_succ])
                             | (go_at_call 18
                                refine (base_without (.agg #[.map (some b)]) k f (some ⟨U, 0, none⟩) 1 [z] wc (HBM.out _ (HX5D.out.trans HK.out)) (strs_run.2 (run_of_blk HU.out)) (by intro t ht; simp only [List.mem_singleton] at ht; rw [ht]; exact hzl) (by omega) (by simp)).mono ?_
                                rintro E wn ⟨b4, A4, rfl, _, hm4, hx⟩
                                try replace HV := Lib.hid (hx.heap HV.out)
                                try replace HU := Lib.hid (hx.heap HU.out)
                                try replace HV2 := Lib.hid (hx.heap HV2.out)
                                try replace HM3 := Lib.hid (HM3.out.ext hx)
                                try replace HM4 := Lib.hid (HM4.out.ext hx)
                                try replace HM5 := Lib.hid (HM5.out.ext hx)
                                replace HK := Lib.hid (HK.out.trans hx)
                                have hm4' : EntsM wn b4 k (lessF f z) A4 := hm4
                                have HM4 := Lib.hid hm4'
                                clear hm4 hm4' hx
                                go_wp2_with fail
                                refine hK.out _ _ (HCS.out _ HK.out) (fun _ => ?_)
                                clear hK K
                                obtain ⟨wc, rfl⟩ : ∃ x : World, x = wn := ⟨_, rfl⟩
                                try simp only [List.getElem_toArray, List.getElem_cons_zero, List.getElem_cons_succ, Act.put, List.setIfInBounds_toArray, List.set_cons_zero, List.set_cons_succ])
                             | (have hx := Ext.alloc wc (.cells #[.string (bs e.name), .string (bs e.ver), .slice gn e.needs.length gcn, .slice gc e.conf.length gcc, .slice gf e.files.length gcf, .slice gu e.units.length gcu] 37)
                                have hbn := heap_alloc_new wc (.cells #[.string (bs e.name), .string (bs e.ver), .slice gn e.needs.length gcn, .slice gc e.conf.length gcc, .slice gf e.files.length gcf, .slice gu e.units.length gcu] 37)
                                refine hK.out _ (wc.alloc (.cells #[.string (bs e.name), .string (bs e.ver), .slice gn e.needs.length gcn, .slice gc e.conf.length gcc, .slice gf e.files.length gcf, .slice gu e.units.length gcu] 37)) (HCS.out _ (HK.out.trans hx)) (fun _ => ?_)
                                clear hK K
                                try replace HV := Lib.hid (hx.heap HV.out)
                                try replace HU := Lib.hid (hx.heap HU.out)
                                try replace HV2 := Lib.hid (hx.heap HV2.out)
                                try replace HM3 := Lib.hid (HM3.out.ext hx)
                                try replace HM4 := Lib.hid (HM4.out.ext hx)
                                try replace HM5 := Lib.hid (HM5.out.ext hx)
                                replace HK := Lib.hid (HK.out.trans hx)
                                obtain ⟨V2, hB⟩ : ∃ x, x = wc.heap.size := ⟨_, rfl⟩
                                rw [← hB] at hbn ⊢
                                have HV2 := Lib.hid hbn
                                clear hbn hB hx
                                generalize wc.alloc (.cells #[.string (bs e.name), .string (bs e.ver), .slice gn e.needs.length gcn, .slice gc e.conf.length gcc, .slice gf e.files.length gcf, .slice gu e.units.length gcu] 37) = wc at *
                                try simp only [List.getElem_toArray, List.getElem_cons_zero, List.getElem_cons_succ, Act.put, List.setIfInBounds_toArray, List.set_cons_zero, List.set_cons_succ])))
                    all_goals (
                      first
                        | refine wpAnyH_ready (rs := [13]) (by decide +kernel) (by simp) ?_
                        | refine wpAnyH_ready (rs := [11]) (by decide +kernel) (by simp) ?_
                      repeat' (first | exact AllReadyH.nil | (refine AllReadyH.cons rfl (fun K hK => ?_) ?_)))
                    all_goals (
                      first
                        | (go_simp
                           first
                             | (go_at_call 18
                                refine (base_without (.agg #[.map (some b)]) k f (some ⟨U, 0, none⟩) 1 [z] wc (HBM.out _ (HX5D.out.trans HK.out)) (strs_run.2 (run_of_blk HU.out)) (by intro t ht; simp only [List.mem_singleton] at ht; rw [ht]; exact hzl) (by omega) (by simp)).mono ?_
                                rintro E wn ⟨b4, A4, rfl, _, hm4, hx⟩
                                try replace HV := Lib.hid (hx.heap HV.out)
                                try replace HU := Lib.hid (hx.heap HU.out)
                                try replace HV2 := Lib.hid (hx.heap HV2.out)
                                try replace HM3 := Lib.hid (HM3.out.ext hx)
                                try replace HM4 := Lib.hid (HM4.out.ext hx)
                                try replace HM5 := Lib.hid (HM5.out.ext hx)
                                replace HK := Lib.hid (HK.out.trans hx)
                                have hm4' : EntsM wn b4 k (lessF f z) A4 := hm4
                                have HM4 := Lib.hid hm4'
                                clear hm4 hm4' hx
                                go_wp2_with fail
                                refine hK.out _ _ (HCS.out _ HK.out) (fun _ => ?_)
                                clear hK K
                                obtain ⟨wc, rfl⟩ : ∃ x : World, x = wn := ⟨_, rfl⟩
                                try simp only [List.getElem_toArray, List.getElem_cons_zero, List.getElem_cons_succ, Act.put, List.setIfInBounds_toArray, List.set_cons_zero, List.set_cons_succ])
                             | (have hx := Ext.alloc wc (.cells #[.string (bs e.name), .string (bs e.ver), .slice gn e.needs.length gcn, .slice gc e.conf.length gcc, .slice gf e.files.length gcf, .slice gu e.units.length gcu] 37)
                                have hbn := heap_alloc_new wc (.cells #[.string (bs e.name), .string (bs e.ver), .slice gn e.needs.length gcn, .slice gc e.conf.length gcc, .slice gf e.files.length gcf, .slice gu e.units.length gcu] 37)
                                refine hK.out _ (wc.alloc (.cells #[.string (bs e.name), .string (bs e.ver), .slice gn e.needs.length gcn, .slice gc e.conf.length gcc, .slice gf e.files.length gcf, .slice gu e.units.length gcu] 37)) (HCS.out _ (HK.out.trans hx)) (fun _ => ?_)
                                clear hK K
                                try replace HV := Lib.hid (hx.heap HV.out)
                                try replace HU := Lib.hid (hx.heap HU.out)
                                try replace HV2 := Lib.hid (hx.heap HV2.out)
                                try replace HM3 := Lib.hid (HM3.out.ext hx)
                                try replace HM4 := Lib.hid (HM4.out.ext hx)
                                try replace HM5 := Lib.hid (HM5.out.ext hx)
                                replace HK := Lib.hid (HK.out.trans hx)
                                obtain ⟨V2, hB⟩ : ∃ x, x = wc.heap.size := ⟨_, rfl⟩
                                rw [← hB] at hbn ⊢
                                have HV2 := Lib.hid hbn
                                clear hbn hB hx
                                generalize wc.alloc (.cells #[.string (bs e.name), .string (bs e.ver), .slice gn e.needs.length gcn, .slice gc e.conf.length gcc, .slice gf e.files.length gcf, .slice gu e.units.length gcu] 37) = wc at *
                                try simp only [List.getElem_toArray, List.getElem_cons_zero, List.getElem_cons_succ, Act.put, List.setIfInBounds_toArray, List.set_cons_zero, List.set_cons_succ])))
                    all_goals (
                      first
                        | refine wpAnyH_ready (rs := [14]) (by decide +kernel) (by simp) ?_
                      repeat' (first | exact AllReadyH.nil | (refine AllReadyH.cons rfl (fun K hK => ?_) ?_)))
                    all_goals (
                      first
                        | (go_simp
                           first
                             | (go_at_call 17
                                refine (base_with (.agg #[.map (some b4)]) k (lessF f z) (some ⟨V2, 0, none⟩) 1 [(e, ⟨gn, gc, gf, gu, gcn, gcc, gcf, gcu⟩)] wc (Or.inr ⟨b4, A4, rfl, HM4.out⟩) (ent_one HV2.out (HENT.out.ext HK.out) HPC2.out) (by intro t ht; simp only [List.mem_singleton] at ht; rw [ht]; exact HGE.out.2.1) (by simp only [List.length_cons, List.length_nil]; omega)).mono ?_
                                rintro E wn ⟨b5, A5, rfl, _, hm5, hx⟩
                                try replace HV := Lib.hid (hx.heap HV.out)
                                try replace HU := Lib.hid (hx.heap HU.out)
                                try replace HV2 := Lib.hid (hx.heap HV2.out)
                                try replace HM3 := Lib.hid (HM3.out.ext hx)
                                try replace HM4 := Lib.hid (HM4.out.ext hx)
                                try replace HM5 := Lib.hid (HM5.out.ext hx)
                                replace HK := Lib.hid (HK.out.trans hx)
                                have hm5' : EntsM wn b5 (k + 1) (withF (lessF f z) e) A5 := hm5
                                rw [lessF_with HG.out HFE.out] at hm5'
                                have HM5 := Lib.hid hm5'
                                clear hm5 hm5' hx
                                go_wp2_with fail
                                refine hK.out _ _ (HCS.out _ HK.out) (fun _ => ?_)
                                clear hK K
                                obtain ⟨wc, rfl⟩ : ∃ x : World, x = wn := ⟨_, rfl⟩
                                try simp only [List.getElem_toArray, List.getElem_cons_zero, List.getElem_cons_succ, Act.put, List.setIfInBounds_toArray, List.set_cons_zero, List.set_cons_succ])))
                    all_goals (
                      first
                        | refine wpAnyH_ready (rs := [16]) (by decide +kernel) (by simp) ?_
                      repeat' (first | exact AllReadyH.nil | (refine AllReadyH.cons rfl (fun K hK => ?_) ?_)))
                    all_goals (
                      first
                        | (go_simp
                           first
                             | (go_at_call 16
                                refine (base_same (.agg #[.map (some b5)]) (.agg #[.map (some b)]) (k + 1) k f f wc (Or.inr ⟨b5, A5, rfl, HM5.out⟩) (HBM.out _ (HX5D.out.trans HK.out)) HG.out HG.out (by omega) (by omega)).mono ?_
                                rintro E wn ⟨⟨q, rfl, hq⟩, hx⟩
                                try replace HV := Lib.hid (hx.heap HV.out)
                                try replace HU := Lib.hid (hx.heap HU.out)
                                try replace HV2 := Lib.hid (hx.heap HV2.out)
                                try replace HM3 := Lib.hid (HM3.out.ext hx)
                                try replace HM4 := Lib.hid (HM4.out.ext hx)
                                try replace HM5 := Lib.hid (HM5.out.ext hx)
                                replace HK := Lib.hid (HK.out.trans hx)
                                have hqv : q = true := hq.2 (by first | rfl | trivial)
                                subst hqv
                                clear hq hx
                                go_wp2_with fail
                                refine hK.out _ _ (HCS.out _ HK.out) (fun _ => ?_)
                                clear hK K
                                obtain ⟨wc, rfl⟩ : ∃ x : World, x = wn := ⟨_, rfl⟩
                                try simp only [List.getElem_toArray, List.getElem_cons_zero, List.getElem_cons_succ, Act.put, List.setIfInBounds_toArray, List.set_cons_zero, List.set_cons_succ]
                                refine wpAnyH_take (i := 17) (v := ?_) rfl (by kernel_rfl) (by kernel_rfl) (by kernel_rfl) (fun _ _ _ h => h) (Or.inl ⟨by kernel_rfl, ?_⟩) (HCS.out _ HK.out) ?_
                                rotate_left
                                · (intro wq _; first | (go_simp; done) | (go_simp; with_reducible rfl))
                                try simp only [List.getElem_toArray, List.getElem_cons_zero, List.getElem_cons_succ, Act.put, List.setIfInBounds_toArray, List.set_cons_zero, List.set_cons_succ]
                                refine wpAnyH_take (i := 18) (v := ?_) rfl (by kernel_rfl) (by kernel_rfl) (by kernel_rfl) (fun _ _ _ h => h) (Or.inl ⟨by kernel_rfl, ?_⟩) (HCS.out _ HK.out) ?_
                                rotate_left
                                · (intro wq _; first | (go_simp; done) | (go_simp; with_reducible rfl))
                                try simp only [List.getElem_toArray, List.getElem_cons_zero, List.getElem_cons_succ, Act.put, List.setIfInBounds_toArray, List.set_cons_zero, List.set_cons_succ])))
                    all_goals (
                      refine wpAnyH_done (by kernel_rfl) ?_ _
                      refine NoPanic.normal ?_
                      go_wp2_with fail
                      go_meet
                      exact ⟨rfl, HK⟩)
                  case rest =>
                    obtain ⟨rfl, hx⟩ := hcut
                    obtain ⟨wF, rfl⟩ : ∃ wF : World, wF = wc := ⟨_, rfl⟩
                    clear HK HCS
                    go_wp2_with fail
                    first
                      | exact ⟨⟨j + 1, by go_num, by omega, Lib.hid (HXjD.out.trans hx.out)⟩, by simp [intOf]; omega⟩
                      | (go_roundw
                         case rel =>
                           first
                             | exact ⟨j + 1, by go_num, by omega, Lib.hid (HXjD.out.trans hx.out)⟩
                             | (repeat (first | refine ⟨j + 1, ?_⟩ | apply Exists.intro)
                                first
                                  | exact ⟨by go_num, by omega, Lib.hid (HXjD.out.trans hx.out)⟩
                                  | exact ⟨⟨j + 1, by go_num, by omega, Lib.hid (HXjD.out.trans hx.out)⟩, rfl⟩)
                         case measure => simp [intOf]; omega)
                · have HX5j := Lib.hid (HX5B.out.trans hXj.out)
                  have hcs : ∀ W, Ext wr W → W.cell? ⟨B, 0, none⟩ = some (.map (some b)) := fun W z => blk_cell ((HX5j.out.trans z).heap HB.out) 0 _ rfl
                  have HCS := Lib.hid hcs; clear hcs
                  have HK := Lib.hid ((Ext.refl wr).drew)
                  go_upto_region 23 with (fail)
                  refine wp_region_noPanic ?_
                  refine wp_region_held_drew (S := (fun W => W.cell? ⟨B, 0, none⟩ = some (.map (some b)))) (by kernel_rfl) (HCS.out _ HK.out) (fun hHeld => ?_)
                  clear hHeld
                  generalize wr.drew = wc at HK ⊢
                  refine wpAnyH_take (i := 0) (v := ?_) rfl (by kernel_rfl) (by kernel_rfl) (by kernel_rfl) (fun _ _ _ h => h) (Or.inl ⟨by kernel_rfl, ?_⟩) (HCS.out _ HK.out) ?_
                  rotate_left
                  · (intro wq hSw; (try dsimp only at hSw); first | (go_simp; done) | (go_simp; with_reducible rfl))
                  try simp only [List.getElem_toArray, List.getElem_cons_zero, Act.put, List.setIfInBounds_toArray, List.set_cons_zero, List.set_cons_succ]
                  refine wpAnyH_take (i := 2) (v := ?_) rfl (by kernel_rfl) (by kernel_rfl) (by kernel_rfl) (fun _ _ _ h => h) (Or.inl ⟨by kernel_rfl, ?_⟩) (HCS.out _ HK.out) ?_
                  rotate_left
                  · (intro wq hSw; (try dsimp only at hSw); first | (go_simp; done) | (go_simp; with_reducible rfl))
                  try simp only [List.getElem_toArray, List.getElem_cons_zero, List.getElem_cons_succ, Act.put, List.setIfInBounds_toArray, List.set_cons_zero, List.set_cons_succ]
                  all_goals (
                    first
                      | refine wpAnyH_ready (rs := [1]) (by decide +kernel) (by simp) ?_
                    repeat' (first | exact AllReadyH.nil | (refine AllReadyH.cons rfl (fun K hK => ?_) ?_)))
                  all_goals (
                    first
                      | (go_simp
                         first
                           | (go_at_call 17
                              refine (base_with (.agg #[.map (some b)]) k f none 0 [] wc (HBM.out _ (HX5j.out.trans HK.out)) (Or.inl rfl) (by simp) (by simp only [List.length_nil]; omega)).mono ?_
                              rintro E wn ⟨b3, A3, rfl, _, hm3, hx⟩
                              try replace HM3 := Lib.hid (HM3.out.ext hx)
                              try replace HM4 := Lib.hid (HM4.out.ext hx)
                              replace HK := Lib.hid (HK.out.trans hx)
                              have hm3' : EntsM wn b3 k f A3 := hm3
                              have HM3 := Lib.hid hm3'
                              clear hm3 hm3' hx
                              go_wp2_with fail
                              refine hK.out _ _ (HCS.out _ HK.out) (fun _ => ?_)
                              clear hK K
                              obtain ⟨wc, rfl⟩ : ∃ x : World, x = wn := ⟨_, rfl⟩
                              try simp only [List.getElem_toArray, List.getElem_cons_zero, List.getElem_cons_succ, Act.put, List.setIfInBounds_toArray, List.set_cons_zero, List.set_cons_succ])))
                  all_goals (
                    first
                      | refine wpAnyH_ready (rs := [3]) (by decide +kernel) (by simp) ?_
                    repeat' (first | exact AllReadyH.nil | (refine AllReadyH.cons rfl (fun K hK => ?_) ?_)))
                  all_goals (
                    first
                      | (go_simp
                         first
                           | (go_at_call 16
                              refine (base_same (.agg #[.map (some b3)]) (.agg #[.map (some b)]) k k f f wc (Or.inr ⟨b3, A3, rfl, HM3.out⟩) (HBM.out _ (HX5j.out.trans HK.out)) HG.out HG.out (by omega) (by omega)).mono ?_
                              rintro E wn ⟨⟨q, rfl, hq⟩, hx⟩
                              try replace HM3 := Lib.hid (HM3.out.ext hx)
                              try replace HM4 := Lib.hid (HM4.out.ext hx)
                              replace HK := Lib.hid (HK.out.trans hx)
                              have hqv : q = true := hq.2 (by first | rfl | trivial)
                              subst hqv
                              clear hq hx
                              go_wp2_with fail
                              refine hK.out _ _ (HCS.out _ HK.out) (fun _ => ?_)
                              clear hK K
                              obtain ⟨wc, rfl⟩ : ∃ x : World, x = wn := ⟨_, rfl⟩
                              try simp only [List.getElem_toArray, List.getElem_cons_zero, List.getElem_cons_succ, Act.put, List.setIfInBounds_toArray, List.set_cons_zero, List.set_cons_succ]
                              refine wpAnyH_take (i := 4) (v := ?_) rfl (by kernel_rfl) (by kernel_rfl) (by kernel_rfl) (fun _ _ _ h => h) (Or.inl ⟨by kernel_rfl, ?_⟩) (HCS.out _ HK.out) ?_
                              rotate_left
                              · (intro wq _; first | (go_simp; done) | (go_simp; with_reducible rfl))
                              try simp only [List.getElem_toArray, List.getElem_cons_zero, List.getElem_cons_succ, Act.put, List.setIfInBounds_toArray, List.set_cons_zero, List.set_cons_succ]
                              refine wpAnyH_take (i := 5) (v := ?_) rfl (by kernel_rfl) (by kernel_rfl) (by kernel_rfl) (fun _ _ _ h => h) (Or.inl ⟨by kernel_rfl, ?_⟩) (HCS.out _ HK.out) ?_
                              rotate_left
                              · (intro wq hSw; (try dsimp only at hSw); first | (go_simp; done) | (go_simp; with_reducible rfl))
                              try simp only [List.getElem_toArray, List.getElem_cons_zero, List.getElem_cons_succ, Act.put, List.setIfInBounds_toArray, List.set_cons_zero, List.set_cons_succ]
                              refine wpAnyH_take (i := 7) (v := ?_) rfl (by kernel_rfl) (by kernel_rfl) (by kernel_rfl) (fun _ _ _ h => h) (Or.inl ⟨by kernel_rfl, ?_⟩) (HCS.out _ HK.out) ?_
                              rotate_left
                              · (intro wq hSw; (try dsimp only at hSw); first | (go_simp; done) | (go_simp; with_reducible rfl))
                              try simp only [List.getElem_toArray, List.getElem_cons_zero, List.getElem_cons_succ, Act.put, List.setIfInBounds_toArray, List.set_cons_zero, List.set_cons_succ])))
                  all_goals (
                    first
                      | refine wpAnyH_ready (rs := [6]) (by decide +kernel) (by simp) ?_
                    repeat' (first | exact AllReadyH.nil | (refine AllReadyH.cons rfl (fun K hK => ?_) ?_)))
                  all_goals (
                    first
                      | (go_simp
                         first
                           | (go_at_call 18
                              refine (base_without (.agg #[.map (some b)]) k f none 0 [] wc (HBM.out _ (HX5j.out.trans HK.out)) (Or.inl rfl) (by simp) (by omega) (by simp)).mono ?_
                              rintro E wn ⟨b4, A4, rfl, _, hm4, hx⟩
                              try replace HM3 := Lib.hid (HM3.out.ext hx)
                              try replace HM4 := Lib.hid (HM4.out.ext hx)
                              replace HK := Lib.hid (HK.out.trans hx)
                              have hm4' : EntsM wn b4 k f A4 := hm4
                              have HM4 := Lib.hid hm4'
                              clear hm4 hm4' hx
                              go_wp2_with fail
                              refine hK.out _ _ (HCS.out _ HK.out) (fun _ => ?_)
                              clear hK K
                              obtain ⟨wc, rfl⟩ : ∃ x : World, x = wn := ⟨_, rfl⟩
                              try simp only [List.getElem_toArray, List.getElem_cons_zero, List.getElem_cons_succ, Act.put, List.setIfInBounds_toArray, List.set_cons_zero, List.set_cons_succ])))
                  all_goals (
                    first
                      | refine wpAnyH_ready (rs := [8]) (by decide +kernel) (by simp) ?_
                    repeat' (first | exact AllReadyH.nil | (refine AllReadyH.cons rfl (fun K hK => ?_) ?_)))
                  all_goals (
                    first
                      | (go_simp
                         first
                           | (go_at_call 16
                              refine (base_same (.agg #[.map (some b4)]) (.agg #[.map (some b)]) k k f f wc (Or.inr ⟨b4, A4, rfl, HM4.out⟩) (HBM.out _ (HX5j.out.trans HK.out)) HG.out HG.out (by omega) (by omega)).mono ?_
                              rintro E wn ⟨⟨q, rfl, hq⟩, hx⟩
                              try replace HM3 := Lib.hid (HM3.out.ext hx)
                              try replace HM4 := Lib.hid (HM4.out.ext hx)
                              replace HK := Lib.hid (HK.out.trans hx)
                              have hqv : q = true := hq.2 (by first | rfl | trivial)
                              subst hqv
                              clear hq hx
                              go_wp2_with fail
                              refine hK.out _ _ (HCS.out _ HK.out) (fun _ => ?_)
                              clear hK K
                              obtain ⟨wc, rfl⟩ : ∃ x : World, x = wn := ⟨_, rfl⟩
                              try simp only [List.getElem_toArray, List.getElem_cons_zero, List.getElem_cons_succ, Act.put, List.setIfInBounds_toArray, List.set_cons_zero, List.set_cons_succ]
                              refine wpAnyH_take (i := 9) (v := ?_) rfl (by kernel_rfl) (by kernel_rfl) (by kernel_rfl) (fun _ _ _ h => h) (Or.inl ⟨by kernel_rfl, ?_⟩) (HCS.out _ HK.out) ?_
                              rotate_left
                              · (intro wq _; first | (go_simp; done) | (go_simp; with_reducible rfl))
                              try simp only [List.getElem_toArray, List.getElem_cons_zero, List.getElem_cons_succ, Act.put, List.setIfInBounds_toArray, List.set_cons_zero, List.set_cons_succ]
                              refine wpAnyH_take (i := 10) (v := ?_) rfl (by kernel_rfl) (by kernel_rfl) (by kernel_rfl) (fun _ _ _ h => h) (Or.inl ⟨by kernel_rfl, ?_⟩) (HCS.out _ HK.out) ?_
                              rotate_left
                              · (intro wq _; first | (go_simp; done) | (go_simp; with_reducible rfl))
                              try simp only [List.getElem_toArray, List.getElem_cons_zero, List.getElem_cons_succ, Act.put, List.setIfInBounds_toArray, List.set_cons_zero, List.set_cons_succ])))
                  all_goals (
                    refine wpAnyH_done (by kernel_rfl) ?_ _
                    refine NoPanic.normal ?_
                    go_wp2_with fail
                    rw [HR.out]
                    exact ⟨rfl, HX5.out.trans (HX5j.out.trans HK.out)⟩)
          · rw [hok] at hgt
            have HOK := Lib.hid hok; clear hok
            have HGT := Lib.hid hgt; clear hgt
            go_upto_region 14 with (go_at_call 19; refine HGT.out.mono ?_; rintro E w8 ⟨gA, hE8, _, _, hx8⟩; obtain ⟨gn, gc, gf, gu, gcn, gcc, gcf, gcu⟩ := gA; unfold pkgV at hE8; subst hE8; have HX8 := Lib.hid hx8; clear hx8)
            clear b0 HGT
            try simp only
            have hx_w9 : Ext w8 (w8.alloc (.cells #[.string (bs y.name), .string (bs y.ver), .slice gn y.needs.length gcn, .slice gc y.conf.length gcc, .slice gf y.files.length gcf, .slice gu y.units.length gcu] 37)) := (Ext.alloc _ _)
            have hf_G9 := heap_alloc_new w8 (.cells #[.string (bs y.name), .string (bs y.ver), .slice gn y.needs.length gcn, .slice gc y.conf.length gcc, .slice gf y.files.length gcf, .slice gu y.units.length gcu] 37)
            generalize w8.alloc (.cells #[.string (bs y.name), .string (bs y.ver), .slice gn y.needs.length gcn, .slice gc y.conf.length gcc, .slice gf y.files.length gcf, .slice gu y.units.length gcu] 37) = w9 at hx_w9 hf_G9 ⊢
            obtain ⟨G9, h_G9⟩ : ∃ x, x = w8.heap.size := ⟨_, rfl⟩
            rw [← h_G9] at hf_G9
            try rw [← h_G9]
            have hs_G9 : w8.heap.size ≤ G9 := by omega
            clear h_G9
            have HX79 := Lib.hid (HX8.out.trans hx_w9)
            have HX59 := Lib.hid (HX57.out.trans HX79.out)
            clear hx_w9 hf_G9 hs_G9
            have hcs : ∀ W, Ext w9 W → (W.cell? ⟨B, 0, none⟩ = some (.map (some b)) ∧ W.cell? ⟨C8, 0, none⟩ = some (.map (some b2))) := fun W z => ⟨blk_cell ((HX59.out.trans z).heap HB.out) 0 _ rfl, blk_cell ((HX79.out.trans z).heap HC.out) 0 _ rfl⟩
            have HCS := Lib.hid hcs; clear hcs
            have HK := Lib.hid ((Ext.refl w9).drew)
            go_cut [68] from 52 to 68 (fun v wx => v = .bool false ∧ Hid (Ext w9 wx))
            case first =>
              refine wp_region_noPanic ?_
              refine wp_region_held_drew (S := (fun W => W.cell? ⟨B, 0, none⟩ = some (.map (some b)) ∧ W.cell? ⟨C8, 0, none⟩ = some (.map (some b2)))) (by kernel_rfl) (HCS.out _ HK.out) (fun hHeld => ?_)
              clear hHeld
              generalize w9.drew = wc at HK ⊢
              refine wpAnyH_take (i := 0) (v := ?_) rfl (by kernel_rfl) (by kernel_rfl) (by kernel_rfl) (fun _ _ _ h => h) (Or.inl ⟨by kernel_rfl, ?_⟩) (HCS.out _ HK.out) ?_
              rotate_left
              · (intro wq hSw; (try dsimp only at hSw); first | (go_simp; done) | (go_simp; with_reducible rfl))
              try simp only [List.getElem_toArray, List.getElem_cons_zero, Act.put, List.setIfInBounds_toArray, List.set_cons_zero, List.set_cons_succ]
              refine wpAnyH_take (i := 1) (v := ?_) rfl (by kernel_rfl) (by kernel_rfl) (by kernel_rfl) (fun _ _ _ h => h) (Or.inl ⟨by kernel_rfl, ?_⟩) (HCS.out _ HK.out) ?_
              rotate_left
              · (intro wq hSw; (try dsimp only at hSw); first | (go_simp; done) | (go_simp; with_reducible rfl))
              try simp only [List.getElem_toArray, List.getElem_cons_zero, List.getElem_cons_succ, Act.put, List.setIfInBounds_toArray, List.set_cons_zero, List.set_cons_succ]
              refine wpAnyH_take (i := 3) (v := ?_) rfl (by kernel_rfl) (by kernel_rfl) (by kernel_rfl) (fun _ _ _ h => h) (Or.inl ⟨by kernel_rfl, ?_⟩) (HCS.out _ HK.out) ?_
              rotate_left
              · (intro wq _; first | (go_simp; done) | (go_simp; with_reducible rfl))
              try simp only [List.getElem_toArray, List.getElem_cons_zero, List.getElem_cons_succ, Act.put, List.setIfInBounds_toArray, List.set_cons_zero, List.set_cons_succ]
              all_goals (
                first
                  | refine wpAnyH_ready (rs := [2]) (by decide +kernel) (by simp) ?_
                repeat' (first | exact AllReadyH.nil | (refine AllReadyH.cons rfl (fun K hK => ?_) ?_)))
              all_goals (
                first
                  | (go_simp
                     first
                       | (go_at_call 16
                          refine (base_same (.agg #[.map (some b)]) (.agg #[.map (some b2)]) k k f (lessF f x) wc (HBM.out _ (HX59.out.trans HK.out)) (HCM.out _ (HX79.out.trans HK.out)) HG.out HGL.out (by omega) (by omega)).mono ?_
                          rintro E wn ⟨⟨q, rfl, hq⟩, hx⟩
                          replace HK := Lib.hid (HK.out.trans hx)
                          have hqv : q = false := by cases q; rfl; exact absurd (hq.1 rfl) (less_ne HOK.out)
                          subst hqv
                          clear hq hx
                          go_wp2_with fail
                          refine hK.out _ _ (HCS.out _ HK.out) (fun _ => ?_)
                          clear hK K
                          obtain ⟨wc, rfl⟩ : ∃ x : World, x = wn := ⟨_, rfl⟩
                          try simp only [List.getElem_toArray, List.getElem_cons_zero, List.getElem_cons_succ, Act.put, List.setIfInBounds_toArray, List.set_cons_zero, List.set_cons_succ]
                          refine wpAnyH_take (i := 4) (v := ?_) rfl (by kernel_rfl) (by kernel_rfl) (by kernel_rfl) (fun _ _ _ h => h) (Or.inl ⟨by kernel_rfl, ?_⟩) (HCS.out _ HK.out) ?_
                          rotate_left
                          · (intro wq _; first | (go_simp; done) | (go_simp; with_reducible rfl))
                          try simp only [List.getElem_toArray, List.getElem_cons_zero, List.getElem_cons_succ, Act.put, List.setIfInBounds_toArray, List.set_cons_zero, List.set_cons_succ]
                          refine wpAnyH_take (i := 5) (v := ?_) rfl (by kernel_rfl) (by kernel_rfl) (by kernel_rfl) (fun _ _ _ h => h) (Or.inl ⟨by kernel_rfl, ?_⟩) (HCS.out _ HK.out) ?_
                          rotate_left
                          · (intro wq _; first | (go_simp; done) | (go_simp; with_reducible rfl))
                          try simp only [List.getElem_toArray, List.getElem_cons_zero, List.getElem_cons_succ, Act.put, List.setIfInBounds_toArray, List.set_cons_zero, List.set_cons_succ]
                          refine wpAnyH_take (i := 6) (v := ?_) rfl (by kernel_rfl) (by kernel_rfl) (by kernel_rfl) (fun _ _ _ h => h) (Or.inl ⟨by kernel_rfl, ?_⟩) (HCS.out _ HK.out) ?_
                          rotate_left
                          · (intro wq hSw; (try dsimp only at hSw); first | (go_simp; done) | (go_simp; with_reducible rfl))
                          try simp only [List.getElem_toArray, List.getElem_cons_zero, List.getElem_cons_succ, Act.put, List.setIfInBounds_toArray, List.set_cons_zero, List.set_cons_succ]
                          refine wpAnyH_take (i := 9) (v := ?_) rfl (by kernel_rfl) (by kernel_rfl) (by kernel_rfl) (fun _ _ _ h => h) (Or.inl ⟨by kernel_rfl, ?_⟩) (HCS.out _ HK.out) ?_
                          rotate_left
                          · (intro wq hSw; (try dsimp only at hSw); first | (go_simp; done) | (go_simp; with_reducible rfl))
                          try simp only [List.getElem_toArray, List.getElem_cons_zero, List.getElem_cons_succ, Act.put, List.setIfInBounds_toArray, List.set_cons_zero, List.set_cons_succ]
                          refine wpAnyH_take (i := 12) (v := ?_) rfl (by kernel_rfl) (by kernel_rfl) (by kernel_rfl) (fun _ _ _ h => h) (Or.inl ⟨by kernel_rfl, ?_⟩) (HCS.out _ HK.out) ?_
                          rotate_left
                          · (intro wq _; first | (go_simp; done) | (go_simp; with_reducible rfl))
                          try simp only [List.getElem_toArray, List.getElem_cons_zero, List.getElem_cons_succ, Act.put, List.setIfInBounds_toArray, List.set_cons_zero, List.set_cons_succ])))
              all_goals (
                first
                  | refine wpAnyH_ready (rs := [7]) (by decide +kernel) (by simp) ?_
                repeat' (first | exact AllReadyH.nil | (refine AllReadyH.cons rfl (fun K hK => ?_) ?_)))
              all_goals (
                first
                  | (go_simp
                     first
                       | (go_at_call 20
                          refine (base_names (.agg #[.map (some b2)]) k (lessF f x) wc (HCM.out _ (HX79.out.trans HK.out)) (by omega)).mono ?_
                          rintro E wn ⟨ta, tc, tt, rfl, htt, _, htl, hx⟩
                          replace HK := Lib.hid (HK.out.trans hx)
                          obtain ⟨nt, hnt⟩ : ∃ z, z = tt.length := ⟨_, rfl⟩
                          rw [← hnt] at htl ⊢
                          have HTT := Lib.hid htt
                          have HNT := Lib.hid hnt
                          clear htt hnt hx
                          go_wp2_with fail
                          refine hK.out _ _ (HCS.out _ HK.out) (fun _ => ?_)
                          clear hK K
                          obtain ⟨wc, rfl⟩ : ∃ x : World, x = wn := ⟨_, rfl⟩
                          try simp only [List.getElem_toArray, List.getElem_cons_zero, List.getElem_cons_succ, Act.put, List.setIfInBounds_toArray, List.set_cons_zero, List.set_cons_succ]
                          refine wpAnyH_take (i := 8) (v := ?_) rfl (by kernel_rfl) (by kernel_rfl) (by kernel_rfl) (fun _ _ _ h => h) (Or.inl ⟨by kernel_rfl, ?_⟩) (HCS.out _ HK.out) ?_
                          rotate_left
                          · (intro wq _; first | (go_simp; done) | (go_simp; with_reducible rfl))
                          try simp only [List.getElem_toArray, List.getElem_cons_zero, List.getElem_cons_succ, Act.put, List.setIfInBounds_toArray, List.set_cons_zero, List.set_cons_succ])))
              all_goals (
                first
                  | refine wpAnyH_ready (rs := [10]) (by decide +kernel) (by simp) ?_
                repeat' (first | exact AllReadyH.nil | (refine AllReadyH.cons rfl (fun K hK => ?_) ?_)))
              all_goals (
                first
                  | (go_simp
                     first
                       | (go_at_call 20
                          refine (base_names (.agg #[.map (some b)]) k f wc (HBM.out _ (HX59.out.trans HK.out)) (by omega)).mono ?_
                          rintro E wn ⟨sa, sc, ss, rfl, hss, _, hsl, hx⟩
                          replace HK := Lib.hid (HK.out.trans hx)
                          obtain ⟨ns, hns⟩ : ∃ z, z = ss.length := ⟨_, rfl⟩
                          rw [← hns] at hsl ⊢
                          have hlen : nt + 1 = ns := by rw [HNT.out, hns]; exact names_less hss HTT.out HOK.out
                          have HLEN := Lib.hid hlen
                          clear hss hns hlen hx
                          go_wp2_with fail
                          refine hK.out _ _ (HCS.out _ HK.out) (fun _ => ?_)
                          clear hK K
                          obtain ⟨wc, rfl⟩ : ∃ x : World, x = wn := ⟨_, rfl⟩
                          try simp only [List.getElem_toArray, List.getElem_cons_zero, List.getElem_cons_succ, Act.put, List.setIfInBounds_toArray, List.set_cons_zero, List.set_cons_succ]
                          refine wpAnyH_take (i := 11) (v := ?_) rfl (by kernel_rfl) (by kernel_rfl) (by kernel_rfl) (fun _ _ _ h => h) (Or.inl ⟨by kernel_rfl, ?_⟩) (HCS.out _ HK.out) ?_
                          rotate_left
                          · (intro wq _; first | (go_simp; done) | (go_simp; with_reducible rfl))
                          try simp only [List.getElem_toArray, List.getElem_cons_zero, List.getElem_cons_succ, Act.put, List.setIfInBounds_toArray, List.set_cons_zero, List.set_cons_succ])))
              all_goals (
                first
                  | refine wpAnyH_ready (rs := [13]) (by decide +kernel) (by simp) ?_
                repeat' (first | exact AllReadyH.nil | (refine AllReadyH.cons rfl (fun K hK => ?_) ?_)))
              all_goals (
                first
                  | (go_simp
                     first
                       | (go_at_call 21
                          refine (law_count true wc).mono ?_
                          rintro E wn ⟨rfl, rfl⟩
                          go_wp2_with fail
                          refine hK.out _ _ (HCS.out _ HK.out) (fun _ => ?_)
                          clear hK K
                          have hsub : IntKind.i64.wrap ((ns : Int) - 1) = (nt : Int) := by have h := HLEN.out; rw [IntWalk.i64_in _ (by omega)]; omega
                          try simp only [List.getElem_toArray, List.getElem_cons_zero, List.getElem_cons_succ, Act.put, List.setIfInBounds_toArray, List.set_cons_zero, List.set_cons_succ]
                          refine wpAnyH_take (i := 14) (v := ?_) rfl (by kernel_rfl) (by kernel_rfl) (by kernel_rfl) (fun _ _ _ h => h) (Or.inl ⟨by kernel_rfl, ?_⟩) (HCS.out _ HK.out) ?_
                          rotate_left
                          · (intro wq _; first | (go_simp; done) | (go_simp; with_reducible rfl))
                          try simp only [List.getElem_toArray, List.getElem_cons_zero, List.getElem_cons_succ, Act.put, List.setIfInBounds_toArray, List.set_cons_zero, List.set_cons_succ]
                          refine wpAnyH_take (i := 15) (v := ?_) rfl (by kernel_rfl) (by kernel_rfl) (by kernel_rfl) (fun _ _ _ h => h) (Or.inl ⟨by kernel_rfl, ?_⟩) (HCS.out _ HK.out) ?_
                          rotate_left
                          · (intro wq _; first | (go_simp; done) | (go_simp; with_reducible rfl))
                          try simp only [List.getElem_toArray, List.getElem_cons_zero, List.getElem_cons_succ, Act.put, List.setIfInBounds_toArray, List.set_cons_zero, List.set_cons_succ]
                          refine wpAnyH_take (i := 16) (v := ?_) rfl (by kernel_rfl) (by kernel_rfl) (by kernel_rfl) (fun _ _ _ h => h) (Or.inl ⟨by kernel_rfl, ?_⟩) (HCS.out _ HK.out) ?_
                          rotate_left
                          · (intro wq _; first | (go_simp; done) | (go_simp; with_reducible rfl))
                          try simp only [List.getElem_toArray, List.getElem_cons_zero, List.getElem_cons_succ, Act.put, List.setIfInBounds_toArray, List.set_cons_zero, List.set_cons_succ])))
              all_goals (
                refine wpAnyH_done (by kernel_rfl) ?_ _
                refine NoPanic.normal ?_
                clear hsub
                go_wp2_with fail
                go_meet
                exact ⟨rfl, HK⟩)
            case rest =>
              obtain ⟨rfl, hx⟩ := hcut
              obtain ⟨wA, rfl⟩ : ∃ wA : World, wA = wc := ⟨_, rfl⟩
              have HX5A := Lib.hid (HX59.out.trans hx.out)
              clear hx HK HCS
              have hnm := base_names (.agg #[.map (some b)]) k f wA (HBM.out _ HX5A.out) (by omega)
              have HNM := Lib.hid hnm; clear hnm
              have b0 := blk_cell (HX5A.out.heap HB.out) 0 (Value.map (some b)) rfl
              go_wp2_with (go_at_call 20; refine HNM.out.mono ?_; rintro E wB ⟨sa, sc, ss, rfl, hss, hown, hsl, hxB⟩; have HSS := Lib.hid hss; have HST := Lib.hid hown.strs.1; have HXB := Lib.hid hxB; clear hss hown hxB)
              clear b0 HNM
              obtain ⟨m, hmm⟩ : ∃ m, m = ss.length := ⟨_, rfl⟩
              rw [← hmm] at hsl ⊢
              have HMM := Lib.hid hmm; clear hmm
              have HX5B := Lib.hid (HX5A.out.trans HXB.out)
              go_loopw [72] (fun i wr => ∃ j : Nat, i = .int .i64 j ∧ j ≤ m ∧ Hid (Ext wB wr)) (fun i _ => m - (intOf i).toNat)
              case atStart => exact ⟨0, rfl, Nat.zero_le _, Lib.hid (Ext.refl _)⟩
              case round =>
                obtain ⟨j, rfl, hj, hXj⟩ := hrel
                by_cases hjl : j < m
                · have hjL : j < ss.length := by have := HMM.out; omega
                  obtain ⟨g, off, rfl, _, hc⟩ := (HST.out.ext hXj.out).at (by intro e; rw [e] at hjL; simp at hjL)
                  have c0 := hc j hjL
                  clear hc
                  obtain ⟨z, hz⟩ : ∃ z, z = ss.getD j [] := ⟨_, rfl⟩
                  rw [← hz] at c0
                  have hzs : z ∈ ss := by rw [hz, List.getD_eq_getElem?_getD, List.getElem?_eq_getElem hjL]; simp
                  clear hz
                  obtain ⟨e, hfe⟩ := Option.isSome_iff_exists.1 ((HSS.out.2.2 z).1 hzs)
                  have hge := HG.out z e hfe
                  have hzl : z.length ≤ 100000 := by have := right_lens hge.2.1; rw [← hge.1]; omega
                  have hget := base_get (.agg #[.map (some b)]) k f z wr (HBM.out _ (HX5B.out.trans hXj.out)) HG.out hzl
                  rw [hfe] at hget
                  have HGT := Lib.hid hget; clear hget
                  have HFE := Lib.hid hfe; clear hfe
                  have HGE := Lib.hid hge; clear hge hzs
                  have b0 := blk_cell ((HX5B.out.trans hXj.out).heap HB.out) 0 (Value.map (some b)) rfl
                  go_upto_region 20 with (go_at_call 19; refine HGT.out.mono ?_; rintro E wC ⟨gA, hE8, hent, hpc, hxC⟩; obtain ⟨gn, gc, gf, gu, gcn, gcc, gcf, gcu⟩ := gA; unfold pkgV at hE8; simp only [Option.getD_some] at hE8 hent hpc; subst hE8; have HENT := Lib.hid hent; have HPC2 := Lib.hid hpc; have HXC := Lib.hid hxC; clear hxC hent hpc)
                  clear b0 c0 HGT
                  try simp only
                  have hx_wD : Ext wC (wC.alloc (.cells #[.string (bs e.name), .string (bs e.ver), .slice gn e.needs.length gcn, .slice gc e.conf.length gcc, .slice gf e.files.length gcf, .slice gu e.units.length gcu] 37)) := (Ext.alloc _ _)
                  have hf_G := heap_alloc_new wC (.cells #[.string (bs e.name), .string (bs e.ver), .slice gn e.needs.length gcn, .slice gc e.conf.length gcc, .slice gf e.files.length gcf, .slice gu e.units.length gcu] 37)
                  generalize wC.alloc (.cells #[.string (bs e.name), .string (bs e.ver), .slice gn e.needs.length gcn, .slice gc e.conf.length gcc, .slice gf e.files.length gcf, .slice gu e.units.length gcu] 37) = wD at hx_wD hf_G ⊢
                  obtain ⟨G, h_G⟩ : ∃ x, x = wC.heap.size := ⟨_, rfl⟩
                  rw [← h_G] at hf_G
                  try rw [← h_G]
                  have hs_G : wC.heap.size ≤ G := by omega
                  clear h_G
                  have HGB := Lib.hid hf_G; clear hf_G
                  replace HENT := Lib.hid (HENT.out.ext hx_wD)
                  have HXjD := Lib.hid (hXj.out.trans (HXC.out.trans hx_wD)); clear hx_wD hs_G
                  have HX5D := Lib.hid (HX5B.out.trans HXjD.out)
                  have hcs : ∀ W, Ext wD W → W.cell? ⟨B, 0, none⟩ = some (.map (some b)) ∧ W.cell? ⟨G, 0, none⟩ = some (.string (bs e.name)) ∧ W.cell? ⟨G, 1, none⟩ = some (.string (bs e.ver)) ∧ W.cell? ⟨G, 2, none⟩ = some (.slice gn e.needs.length gcn) ∧ W.cell? ⟨G, 3, none⟩ = some (.slice gc e.conf.length gcc) ∧ W.cell? ⟨G, 4, none⟩ = some (.slice gf e.files.length gcf) ∧ W.cell? ⟨G, 5, none⟩ = some (.slice gu e.units.length gcu) := fun W z => ⟨blk_cell ((HX5D.out.trans z).heap HB.out) 0 _ rfl, blk_cell (z.heap HGB.out) 0 _ rfl, blk_cell (z.heap HGB.out) 1 _ rfl, blk_cell (z.heap HGB.out) 2 _ rfl, blk_cell (z.heap HGB.out) 3 _ rfl, blk_cell (z.heap HGB.out) 4 _ rfl, blk_cell (z.heap HGB.out) 5 _ rfl⟩
                  have HCS := Lib.hid hcs; clear hcs
                  have HK := Lib.hid ((Ext.refl wD).drew)
                  go_cut [100] from 82 to 100 (fun v wx => v = .bool false ∧ Hid (Ext wD wx))
                  case first =>
                    refine wp_region_noPanic ?_
                    refine wp_region_held_drew (S := (fun W => W.cell? ⟨B, 0, none⟩ = some (.map (some b)) ∧ W.cell? ⟨G, 0, none⟩ = some (.string (bs e.name)) ∧ W.cell? ⟨G, 1, none⟩ = some (.string (bs e.ver)) ∧ W.cell? ⟨G, 2, none⟩ = some (.slice gn e.needs.length gcn) ∧ W.cell? ⟨G, 3, none⟩ = some (.slice gc e.conf.length gcc) ∧ W.cell? ⟨G, 4, none⟩ = some (.slice gf e.files.length gcf) ∧ W.cell? ⟨G, 5, none⟩ = some (.slice gu e.units.length gcu))) (by kernel_rfl) (HCS.out _ HK.out) (fun hHeld => ?_)
                    clear hHeld
                    generalize wD.drew = wc at HK ⊢
                    refine wpAnyH_take (i := 0) (v := ?_) rfl (by kernel_rfl) (by kernel_rfl) (by kernel_rfl) (fun _ _ _ h => h) (Or.inl ⟨by kernel_rfl, ?_⟩) (HCS.out _ HK.out) ?_
                    rotate_left
                    · (intro wq hSw; (try dsimp only at hSw); first | (go_simp; done) | (go_simp; with_reducible rfl))
                    try simp only [List.getElem_toArray, List.getElem_cons_zero, Act.put, List.setIfInBounds_toArray, List.set_cons_zero, List.set_cons_succ]
                    refine wpAnyH_take (i := 1) (v := ?_) rfl (by kernel_rfl) (by kernel_rfl) (by kernel_rfl) (fun _ _ _ h => h) (Or.inl ⟨by kernel_rfl, ?_⟩) (HCS.out _ HK.out) ?_
                    rotate_left
                    · (intro wq hSw; (try dsimp only at hSw); first | (go_simp; done) | (go_simp; with_reducible rfl))
                    try simp only [List.getElem_toArray, List.getElem_cons_zero, List.getElem_cons_succ, Act.put, List.setIfInBounds_toArray, List.set_cons_zero, List.set_cons_succ]
                    refine wpAnyH_take (i := 4) (v := ?_) rfl (by kernel_rfl) (by kernel_rfl) (by kernel_rfl) (fun _ _ _ h => h) (Or.inl ⟨by kernel_rfl, ?_⟩) (HCS.out _ HK.out) ?_
                    rotate_left
                    · (intro wq hSw; (try dsimp only at hSw); first | (go_simp; done) | (go_simp; with_reducible rfl))
                    try simp only [List.getElem_toArray, List.getElem_cons_zero, List.getElem_cons_succ, Act.put, List.setIfInBounds_toArray, List.set_cons_zero, List.set_cons_succ]
                    all_goals (
                      first
                        | refine wpAnyH_ready (rs := [2]) (by decide +kernel) (by simp) ?_
                      repeat' (first | exact AllReadyH.nil | (refine AllReadyH.cons rfl (fun K hK => ?_) ?_)))
                    all_goals (
                      first
                        | (go_simp
                           first
                             | (have hx := Ext.alloc wc (.cells #[.string (bs e.name), .string (bs e.ver), .slice gn e.needs.length gcn, .slice gc e.conf.length gcc, .slice gf e.files.length gcf, .slice gu e.units.length gcu] 37)
                                have hbn := heap_alloc_new wc (.cells #[.string (bs e.name), .string (bs e.ver), .slice gn e.needs.length gcn, .slice gc e.conf.length gcc, .slice gf e.files.length gcf, .slice gu e.units.length gcu] 37)
                                refine hK.out _ (wc.alloc (.cells #[.string (bs e.name), .string (bs e.ver), .slice gn e.needs.length gcn, .slice gc e.conf.length gcc, .slice gf e.files.length gcf, .slice gu e.units.length gcu] 37)) (HCS.out _ (HK.out.trans hx)) (fun _ => ?_)
                                clear hK K
                                try replace HV := Lib.hid (hx.heap HV.out)
                                try replace HU := Lib.hid (hx.heap HU.out)
                                try replace HV2 := Lib.hid (hx.heap HV2.out)
                                try replace HM3 := Lib.hid (HM3.out.ext hx)
                                try replace HM4 := Lib.hid (HM4.out.ext hx)
                                try replace HM5 := Lib.hid (HM5.out.ext hx)
                                replace HK := Lib.hid (HK.out.trans hx)
                                obtain ⟨V, hB⟩ : ∃ x, x = wc.heap.size := ⟨_, rfl⟩
                                rw [← hB] at hbn ⊢
                                have HV := Lib.hid hbn
                                clear hbn hB hx
                                generalize wc.alloc (.cells #[.string (bs e.name), .string (bs e.ver), .slice gn e.needs.length gcn, .slice gc e.conf.length gcc, .slice gf e.files.length gcf, .slice gu e.units.length gcu] 37) = wc at *
                                try simp only [List.getElem_toArray, List.getElem_cons_zero, List.getElem_cons_succ, Act.put, List.setIfInBounds_toArray, List.set_cons_zero, List.set_cons_succ])))
                    all_goals (
                      first
                        | refine wpAnyH_ready (rs := [3]) (by decide +kernel) (by simp) ?_
                      repeat' (first | exact AllReadyH.nil | (refine AllReadyH.cons rfl (fun K hK => ?_) ?_)))
                    all_goals (
                      first
                        | (go_simp
                           first
                             | (go_at_call 17
                                refine (base_with (.agg #[.map (some b)]) k f (some ⟨V, 0, none⟩) 1 [(e, ⟨gn, gc, gf, gu, gcn, gcc, gcf, gcu⟩)] wc (HBM.out _ (HX5D.out.trans HK.out)) (ent_one HV.out (HENT.out.ext HK.out) HPC2.out) (by intro t ht; simp only [List.mem_singleton] at ht; rw [ht]; exact HGE.out.2.1) (by simp only [List.length_cons, List.length_nil]; omega)).mono ?_
                                rintro E wn ⟨b3, A3, rfl, _, hm3, hx⟩
                                try replace HV := Lib.hid (hx.heap HV.out)
                                try replace HU := Lib.hid (hx.heap HU.out)
                                try replace HV2 := Lib.hid (hx.heap HV2.out)
                                try replace HM3 := Lib.hid (HM3.out.ext hx)
                                try replace HM4 := Lib.hid (HM4.out.ext hx)
                                try replace HM5 := Lib.hid (HM5.out.ext hx)
                                replace HK := Lib.hid (HK.out.trans hx)
                                have hm3' : EntsM wn b3 (k + 1) (withF f e) A3 := hm3
                                rw [withF_self HG.out HFE.out] at hm3'
                                have HM3 := Lib.hid hm3'
                                clear hm3 hm3' hx
                                go_wp2_with fail
                                refine hK.out _ _ (HCS.out _ HK.out) (fun _ => ?_)
                                clear hK K
                                obtain ⟨wc, rfl⟩ : ∃ x : World, x = wn := ⟨_, rfl⟩
                                try simp only [List.getElem_toArray, List.getElem_cons_zero, List.getElem_cons_succ, Act.put, List.setIfInBounds_toArray, List.set_cons_zero, List.set_cons_succ])))
                    all_goals (
                      first
                        | refine wpAnyH_ready (rs := [5]) (by decide +kernel) (by simp) ?_
                      repeat' (first | exact AllReadyH.nil | (refine AllReadyH.cons rfl (fun K hK => ?_) ?_)))
                    all_goals (
                      first
                        | (go_simp
                           first
                             | (go_at_call 16
                                refine (base_same (.agg #[.map (some b3)]) (.agg #[.map (some b)]) (k + 1) k f f wc (Or.inr ⟨b3, A3, rfl, HM3.out⟩) (HBM.out _ (HX5D.out.trans HK.out)) HG.out HG.out (by omega) (by omega)).mono ?_
                                rintro E wn ⟨⟨q, rfl, hq⟩, hx⟩
                                try replace HV := Lib.hid (hx.heap HV.out)
                                try replace HU := Lib.hid (hx.heap HU.out)
                                try replace HV2 := Lib.hid (hx.heap HV2.out)
                                try replace HM3 := Lib.hid (HM3.out.ext hx)
                                try replace HM4 := Lib.hid (HM4.out.ext hx)
                                try replace HM5 := Lib.hid (HM5.out.ext hx)
                                replace HK := Lib.hid (HK.out.trans hx)
                                have hqv : q = true := hq.2 (by first | rfl | trivial)
                                subst hqv
                                clear hq hx
                                go_wp2_with fail
                                refine hK.out _ _ (HCS.out _ HK.out) (fun _ => ?_)
                                clear hK K
                                obtain ⟨wc, rfl⟩ : ∃ x : World, x = wn := ⟨_, rfl⟩
                                try simp only [List.getElem_toArray, List.getElem_cons_zero, List.getElem_cons_succ, Act.put, List.setIfInBounds_toArray, List.set_cons_zero, List.set_cons_succ]
                                refine wpAnyH_take (i := 6) (v := ?_) rfl (by kernel_rfl) (by kernel_rfl) (by kernel_rfl) (fun _ _ _ h => h) (Or.inl ⟨by kernel_rfl, ?_⟩) (HCS.out _ HK.out) ?_
                                rotate_left
                                · (intro wq _; first | (go_simp; done) | (go_simp; with_reducible rfl))
                                try simp only [List.getElem_toArray, List.getElem_cons_zero, List.getElem_cons_succ, Act.put, List.setIfInBounds_toArray, List.set_cons_zero, List.set_cons_succ]
                                refine wpAnyH_take (i := 7) (v := ?_) rfl (by kernel_rfl) (by kernel_rfl) (by kernel_rfl) (fun _ _ _ h => h) (Or.inl ⟨by kernel_rfl, ?_⟩) (HCS.out _ HK.out) ?_
                                rotate_left
                                · (intro wq _; first | (go_simp; done) | (go_simp; with_reducible rfl))
                                try simp only [List.getElem_toArray, List.getElem_cons_zero, List.getElem_cons_succ, Act.put, List.setIfInBounds_toArray, List.set_cons_zero, List.set_cons_succ]
                                refine wpAnyH_take (i := 8) (v := ?_) rfl (by kernel_rfl) (by kernel_rfl) (by kernel_rfl) (fun _ _ _ h => h) (Or.inl ⟨by kernel_rfl, ?_⟩) (HCS.out _ HK.out) ?_
                                rotate_left
                                · (intro wq hSw; (try dsimp only at hSw); first | (go_simp; done) | (go_simp; with_reducible rfl))
                                try simp only [List.getElem_toArray, List.getElem_cons_zero, List.getElem_cons_succ, Act.put, List.setIfInBounds_toArray, List.set_cons_zero, List.set_cons_succ]
                                refine wpAnyH_take (i := 9) (v := ?_) rfl (by kernel_rfl) (by kernel_rfl) (by kernel_rfl) (fun _ _ _ h => h) (Or.inl ⟨by kernel_rfl, ?_⟩) (HCS.out _ HK.out) ?_
                                rotate_left
                                · (intro wq _; first | (go_simp; done) | (go_simp; with_reducible rfl))
                                try simp only [List.getElem_toArray, List.getElem_cons_zero, List.getElem_cons_succ, Act.put, List.setIfInBounds_toArray, List.set_cons_zero, List.set_cons_succ]
                                refine wpAnyH_take (i := 12) (v := ?_) rfl (by kernel_rfl) (by kernel_rfl) (by kernel_rfl) (fun _ _ _ h => h) (Or.inl ⟨by kernel_rfl, ?_⟩) (HCS.out _ HK.out) ?_
                                rotate_left
                                · (intro wq hSw; (try dsimp only at hSw); first | (go_simp; done) | (go_simp; with_reducible rfl))
                                try simp only [List.getElem_toArray, List.getElem_cons_zero, List.getElem_cons_succ, Act.put, List.setIfInBounds_toArray, List.set_cons_zero, List.set_cons_succ]
                                refine wpAnyH_take (i := 15) (v := ?_) rfl (by kernel_rfl) (by kernel_rfl) (by kernel_rfl) (fun _ _ _ h => h) (Or.inl ⟨by kernel_rfl, ?_⟩) (HCS.out _ HK.out) ?_
                                rotate_left
                                · (intro wq hSw; (try dsimp only at hSw); first | (go_simp; done) | (go_simp; with_reducible rfl))
                                try simp only [List.getElem_toArray, List.getElem_cons_zero, List.getElem_cons_succ, Act.put, List.setIfInBounds_toArray, List.set_cons_zero, List.set_cons_succ])))
                    all_goals (
                      first
                        | refine wpAnyH_ready (rs := [10, 13]) (by decide +kernel) (by simp) ?_
                      repeat' (first | exact AllReadyH.nil | (refine AllReadyH.cons rfl (fun K hK => ?_) ?_)))
                    all_goals (
                      first
                        | (go_simp
                           first
                             | (have hx := Ext.alloc wc (.cells #[.string (bs z)] 9)
                                have hbn := heap_alloc_new wc (.cells #[.string (bs z)] 9)
                                refine hK.out _ (wc.alloc (.cells #[.string (bs z)] 9)) (HCS.out _ (HK.out.trans hx)) (fun _ => ?_)
                                clear hK K
                                try replace HV := Lib.hid (hx.heap HV.out)
                                try replace HU := Lib.hid (hx.heap HU.out)
                                try replace HV2 := Lib.hid (hx.heap HV2.out)
                                try replace HM3 := Lib.hid (HM3.out.ext hx)
                                try replace HM4 := Lib.hid (HM4.out.ext hx)
                                try replace HM5 := Lib.hid (HM5.out.ext hx)
                                replace HK := Lib.hid (HK.out.trans hx)
                                obtain ⟨U, hB⟩ : ∃ x, x = wc.heap.size := ⟨_, rfl⟩
                                rw [← hB] at hbn ⊢
                                have HU := Lib.hid hbn
                                clear hbn hB hx
                                generalize wc.alloc (.cells #[.string (bs z)] 9) = wc at *
                                try simp only [List.getElem_toArray, List.getElem_cons_zero, List.getElem_cons_succ, Act.put, List.setIfInBounds_toArray, List.set_cons_zero, List.set_cons_succ])
                             | (have hx := Ext.alloc wc (.cells #[.string (bs e.name), .string (bs e.ver), .slice gn e.needs.length gcn, .slice gc e.conf.length gcc, .slice gf e.files.length gcf, .slice gu e.units.length gcu] 37)
                                have hbn := heap_alloc_new wc (.cells #[.string (bs e.name), .string (bs e.ver), .slice gn e.needs.length gcn, .slice gc e.conf.length gcc, .slice gf e.files.length gcf, .slice gu e.units.length gcu] 37)
                                refine hK.out _ (wc.alloc (.cells #[.string (bs e.name), .string (bs e.ver), .slice gn e.needs.length gcn, .slice gc e.conf.length gcc, .slice gf e.files.length gcf, .slice gu e.units.length gcu] 37)) (HCS.out _ (HK.out.trans hx)) (fun _ => ?_)
                                clear hK K
                                try replace HV := Lib.hid (hx.heap HV.out)
                                try replace HU := Lib.hid (hx.heap HU.out)
                                try replace HV2 := Lib.hid (hx.heap HV2.out)
                                try replace HM3 := Lib.hid (HM3.out.ext hx)
                                try replace HM4 := Lib.hid (HM4.out.ext hx)
                                try replace HM5 := Lib.hid (HM5.out.ext hx)
                                replace HK := Lib.hid (HK.out.trans hx)
                                obtain ⟨V2, hB⟩ : ∃ x, x = wc.heap.size := ⟨_, rfl⟩
                                rw [← hB] at hbn ⊢
                                have HV2 := Lib.hid hbn
                                clear hbn hB hx
                                generalize wc.alloc (.cells #[.string (bs e.name), .string (bs e.ver), .slice gn e.needs.length gcn, .slice gc e.conf.length gcc, .slice gf e.files.length gcf, .slice gu e.units.length gcu] 37) = wc at *
                                try simp only [List.getElem_toArray, List.getElem_cons_zero, List.getElem_cons_succ, Act.put, List.setIfInBounds_toArray, List.set_cons_zero, List.set_cons_succ])))
                    all_goals (
                      first
                        | refine wpAnyH_ready (rs := [11, 13]) (by decide +kernel) (by simp) ?_
                        | refine wpAnyH_ready (rs := [10]) (by decide +kernel) (by simp) ?_
                      repeat' (first | exact AllReadyH.nil | (refine AllReadyH.cons rfl (fun K hK => ?_) ?_)))
                    all_goals (
                      first
                        | (go_simp
                           first
                             | (have hx := Ext.alloc wc (.cells #[.string (bs z)] 9)
                                have hbn := heap_alloc_new wc (.cells #[.string (bs z)] 9)
                                refine hK.out _ (wc.alloc (.cells #[.string (bs z)] 9)) (HCS.out _ (HK.out.trans hx)) (fun _ => ?_)
                                clear hK K
                                try replace HV := Lib.hid (hx.heap HV.out)
                                try replace HU := Lib.hid (hx.heap HU.out)
                                try replace HV2 := Lib.hid (hx.heap HV2.out)
                                try replace HM3 := Lib.hid (HM3.out.ext hx)
                                try replace HM4 := Lib.hid (HM4.out.ext hx)
                                try replace HM5 := Lib.hid (HM5.out.ext hx)
                                replace HK := Lib.hid (HK.out.trans hx)
                                obtain ⟨U, hB⟩ : ∃ x, x = wc.heap.size := ⟨_, rfl⟩
                                rw [← hB] at hbn ⊢
                                have HU := Lib.hid hbn
                                clear hbn hB hx
                                generalize wc.alloc (.cells #[.string (bs z)] 9) = wc at *
                                try simp only [List.getElem_toArray, List.getElem_cons_zero, List.getElem_cons_succ, Act.put, List.setIfInBounds_toArray, List.set_cons_zero, List.set_cons_succ])
                             | (go_at_call 18
                                refine (base_without (.agg #[.map (some b)]) k f (some ⟨U, 0, none⟩) 1 [z] wc (HBM.out _ (HX5D.out.trans HK.out)) (strs_run.2 (run_of_blk HU.out)) (by intro t ht; simp only [List.mem_singleton] at ht; rw [ht]; exact hzl) (by omega) (by simp)).mono ?_
                                rintro E wn ⟨b4, A4, rfl, _, hm4, hx⟩
                                try replace HV := Lib.hid (hx.heap HV.out)
                                try replace HU := Lib.hid (hx.heap HU.out)
                                try replace HV2 := Lib.hid (hx.heap HV2.out)
                                try replace HM3 := Lib.hid (HM3.out.ext hx)
                                try replace HM4 := Lib.hid (HM4.out.ext hx)
                                try replace HM5 := Lib.hid (HM5.out.ext hx)
                                replace HK := Lib.hid (HK.out.trans hx)
                                have hm4' : EntsM wn b4 k (lessF f z) A4 := hm4
                                have HM4 := Lib.hid hm4'
                                clear hm4 hm4' hx
                                go_wp2_with fail
                                refine hK.out _ _ (HCS.out _ HK.out) (fun _ => ?_)
                                clear hK K
                                obtain ⟨wc, rfl⟩ : ∃ x : World, x = wn := ⟨_, rfl⟩
                                try simp only [List.getElem_toArray, List.getElem_cons_zero, List.getElem_cons_succ, Act.put, List.setIfInBounds_toArray, List.set_cons_zero, List.set_cons_succ])
                             | (have hx := Ext.alloc wc (.cells #[.string (bs e.name), .string (bs e.ver), .slice gn e.needs.length gcn, .slice gc e.conf.length gcc, .slice gf e.files.length gcf, .slice gu e.units.length gcu] 37)
                                have hbn := heap_alloc_new wc (.cells #[.string (bs e.name), .string (bs e.ver), .slice gn e.needs.length gcn, .slice gc e.conf.length gcc, .slice gf e.files.length gcf, .slice gu e.units.length gcu] 37)
                                refine hK.out _ (wc.alloc (.cells #[.string (bs e.name), .string (bs e.ver), .slice gn e.needs.length gcn, .slice gc e.conf.length gcc, .slice gf e.files.length gcf, .slice gu e.units.length gcu] 37)) (HCS.out _ (HK.out.trans hx)) (fun _ => ?_)
                                clear hK K
                                try replace HV := Lib.hid (hx.heap HV.out)
                                try replace HU := Lib.hid (hx.heap HU.out)
                                try replace HV2 := Lib.hid (hx.heap HV2.out)
                                try replace HM3 := Lib.hid (HM3.out.ext hx)
                                try replace HM4 := Lib.hid (HM4.out.ext hx)
                                try replace HM5 := Lib.hid (HM5.out.ext hx)
                                replace HK := Lib.hid (HK.out.trans hx)
                                obtain ⟨V2, hB⟩ : ∃ x, x = wc.heap.size := ⟨_, rfl⟩
                                rw [← hB] at hbn ⊢
                                have HV2 := Lib.hid hbn
                                clear hbn hB hx
                                generalize wc.alloc (.cells #[.string (bs e.name), .string (bs e.ver), .slice gn e.needs.length gcn, .slice gc e.conf.length gcc, .slice gf e.files.length gcf, .slice gu e.units.length gcu] 37) = wc at *
                                try simp only [List.getElem_toArray, List.getElem_cons_zero, List.getElem_cons_succ, Act.put, List.setIfInBounds_toArray, List.set_cons_zero, List.set_cons_succ])))
                    all_goals (
                      first
                        | refine wpAnyH_ready (rs := [13]) (by decide +kernel) (by simp) ?_
                        | refine wpAnyH_ready (rs := [11]) (by decide +kernel) (by simp) ?_
                      repeat' (first | exact AllReadyH.nil | (refine AllReadyH.cons rfl (fun K hK => ?_) ?_)))
                    all_goals (
                      first
                        | (go_simp
                           first
                             | (go_at_call 18
                                refine (base_without (.agg #[.map (some b)]) k f (some ⟨U, 0, none⟩) 1 [z] wc (HBM.out _ (HX5D.out.trans HK.out)) (strs_run.2 (run_of_blk HU.out)) (by intro t ht; simp only [List.mem_singleton] at ht; rw [ht]; exact hzl) (by omega) (by simp)).mono ?_
                                rintro E wn ⟨b4, A4, rfl, _, hm4, hx⟩
                                try replace HV := Lib.hid (hx.heap HV.out)
                                try replace HU := Lib.hid (hx.heap HU.out)
                                try replace HV2 := Lib.hid (hx.heap HV2.out)
                                try replace HM3 := Lib.hid (HM3.out.ext hx)
                                try replace HM4 := Lib.hid (HM4.out.ext hx)
                                try replace HM5 := Lib.hid (HM5.out.ext hx)
                                replace HK := Lib.hid (HK.out.trans hx)
                                have hm4' : EntsM wn b4 k (lessF f z) A4 := hm4
                                have HM4 := Lib.hid hm4'
                                clear hm4 hm4' hx
                                go_wp2_with fail
                                refine hK.out _ _ (HCS.out _ HK.out) (fun _ => ?_)
                                clear hK K
                                obtain ⟨wc, rfl⟩ : ∃ x : World, x = wn := ⟨_, rfl⟩
                                try simp only [List.getElem_toArray, List.getElem_cons_zero, List.getElem_cons_succ, Act.put, List.setIfInBounds_toArray, List.set_cons_zero, List.set_cons_succ])
                             | (have hx := Ext.alloc wc (.cells #[.string (bs e.name), .string (bs e.ver), .slice gn e.needs.length gcn, .slice gc e.conf.length gcc, .slice gf e.files.length gcf, .slice gu e.units.length gcu] 37)
                                have hbn := heap_alloc_new wc (.cells #[.string (bs e.name), .string (bs e.ver), .slice gn e.needs.length gcn, .slice gc e.conf.length gcc, .slice gf e.files.length gcf, .slice gu e.units.length gcu] 37)
                                refine hK.out _ (wc.alloc (.cells #[.string (bs e.name), .string (bs e.ver), .slice gn e.needs.length gcn, .slice gc e.conf.length gcc, .slice gf e.files.length gcf, .slice gu e.units.length gcu] 37)) (HCS.out _ (HK.out.trans hx)) (fun _ => ?_)
                                clear hK K
                                try replace HV := Lib.hid (hx.heap HV.out)
                                try replace HU := Lib.hid (hx.heap HU.out)
                                try replace HV2 := Lib.hid (hx.heap HV2.out)
                                try replace HM3 := Lib.hid (HM3.out.ext hx)
                                try replace HM4 := Lib.hid (HM4.out.ext hx)
                                try replace HM5 := Lib.hid (HM5.out.ext hx)
                                replace HK := Lib.hid (HK.out.trans hx)
                                obtain ⟨V2, hB⟩ : ∃ x, x = wc.heap.size := ⟨_, rfl⟩
                                rw [← hB] at hbn ⊢
                                have HV2 := Lib.hid hbn
                                clear hbn hB hx
                                generalize wc.alloc (.cells #[.string (bs e.name), .string (bs e.ver), .slice gn e.needs.length gcn, .slice gc e.conf.length gcc, .slice gf e.files.length gcf, .slice gu e.units.length gcu] 37) = wc at *
                                try simp only [List.getElem_toArray, List.getElem_cons_zero, List.getElem_cons_succ, Act.put, List.setIfInBounds_toArray, List.set_cons_zero, List.set_cons_succ])))
                    all_goals (
                      first
                        | refine wpAnyH_ready (rs := [14]) (by decide +kernel) (by simp) ?_
                      repeat' (first | exact AllReadyH.nil | (refine AllReadyH.cons rfl (fun K hK => ?_) ?_)))
                    all_goals (
                      first
                        | (go_simp
                           first
                             | (go_at_call 17
                                refine (base_with (.agg #[.map (some b4)]) k (lessF f z) (some ⟨V2, 0, none⟩) 1 [(e, ⟨gn, gc, gf, gu, gcn, gcc, gcf, gcu⟩)] wc (Or.inr ⟨b4, A4, rfl, HM4.out⟩) (ent_one HV2.out (HENT.out.ext HK.out) HPC2.out) (by intro t ht; simp only [List.mem_singleton] at ht; rw [ht]; exact HGE.out.2.1) (by simp only [List.length_cons, List.length_nil]; omega)).mono ?_
                                rintro E wn ⟨b5, A5, rfl, _, hm5, hx⟩
                                try replace HV := Lib.hid (hx.heap HV.out)
                                try replace HU := Lib.hid (hx.heap HU.out)
                                try replace HV2 := Lib.hid (hx.heap HV2.out)
                                try replace HM3 := Lib.hid (HM3.out.ext hx)
                                try replace HM4 := Lib.hid (HM4.out.ext hx)
                                try replace HM5 := Lib.hid (HM5.out.ext hx)
                                replace HK := Lib.hid (HK.out.trans hx)
                                have hm5' : EntsM wn b5 (k + 1) (withF (lessF f z) e) A5 := hm5
                                rw [lessF_with HG.out HFE.out] at hm5'
                                have HM5 := Lib.hid hm5'
                                clear hm5 hm5' hx
                                go_wp2_with fail
                                refine hK.out _ _ (HCS.out _ HK.out) (fun _ => ?_)
                                clear hK K
                                obtain ⟨wc, rfl⟩ : ∃ x : World, x = wn := ⟨_, rfl⟩
                                try simp only [List.getElem_toArray, List.getElem_cons_zero, List.getElem_cons_succ, Act.put, List.setIfInBounds_toArray, List.set_cons_zero, List.set_cons_succ])))
                    all_goals (
                      first
                        | refine wpAnyH_ready (rs := [16]) (by decide +kernel) (by simp) ?_
                      repeat' (first | exact AllReadyH.nil | (refine AllReadyH.cons rfl (fun K hK => ?_) ?_)))
                    all_goals (
                      first
                        | (go_simp
                           first
                             | (go_at_call 16
                                refine (base_same (.agg #[.map (some b5)]) (.agg #[.map (some b)]) (k + 1) k f f wc (Or.inr ⟨b5, A5, rfl, HM5.out⟩) (HBM.out _ (HX5D.out.trans HK.out)) HG.out HG.out (by omega) (by omega)).mono ?_
                                rintro E wn ⟨⟨q, rfl, hq⟩, hx⟩
                                try replace HV := Lib.hid (hx.heap HV.out)
                                try replace HU := Lib.hid (hx.heap HU.out)
                                try replace HV2 := Lib.hid (hx.heap HV2.out)
                                try replace HM3 := Lib.hid (HM3.out.ext hx)
                                try replace HM4 := Lib.hid (HM4.out.ext hx)
                                try replace HM5 := Lib.hid (HM5.out.ext hx)
                                replace HK := Lib.hid (HK.out.trans hx)
                                have hqv : q = true := hq.2 (by first | rfl | trivial)
                                subst hqv
                                clear hq hx
                                go_wp2_with fail
                                refine hK.out _ _ (HCS.out _ HK.out) (fun _ => ?_)
                                clear hK K
                                obtain ⟨wc, rfl⟩ : ∃ x : World, x = wn := ⟨_, rfl⟩
                                try simp only [List.getElem_toArray, List.getElem_cons_zero, List.getElem_cons_succ, Act.put, List.setIfInBounds_toArray, List.set_cons_zero, List.set_cons_succ]
                                refine wpAnyH_take (i := 17) (v := ?_) rfl (by kernel_rfl) (by kernel_rfl) (by kernel_rfl) (fun _ _ _ h => h) (Or.inl ⟨by kernel_rfl, ?_⟩) (HCS.out _ HK.out) ?_
                                rotate_left
                                · (intro wq _; first | (go_simp; done) | (go_simp; with_reducible rfl))
                                try simp only [List.getElem_toArray, List.getElem_cons_zero, List.getElem_cons_succ, Act.put, List.setIfInBounds_toArray, List.set_cons_zero, List.set_cons_succ]
                                refine wpAnyH_take (i := 18) (v := ?_) rfl (by kernel_rfl) (by kernel_rfl) (by kernel_rfl) (fun _ _ _ h => h) (Or.inl ⟨by kernel_rfl, ?_⟩) (HCS.out _ HK.out) ?_
                                rotate_left
                                · (intro wq _; first | (go_simp; done) | (go_simp; with_reducible rfl))
                                try simp only [List.getElem_toArray, List.getElem_cons_zero, List.getElem_cons_succ, Act.put, List.setIfInBounds_toArray, List.set_cons_zero, List.set_cons_succ])))
                    all_goals (
                      refine wpAnyH_done (by kernel_rfl) ?_ _
                      refine NoPanic.normal ?_
                      go_wp2_with fail
                      go_meet
                      exact ⟨rfl, HK⟩)
                  case rest =>
                    obtain ⟨rfl, hx⟩ := hcut
                    obtain ⟨wF, rfl⟩ : ∃ wF : World, wF = wc := ⟨_, rfl⟩
                    clear HK HCS
                    go_wp2_with fail
                    first
                      | exact ⟨⟨j + 1, by go_num, by omega, Lib.hid (HXjD.out.trans hx.out)⟩, by simp [intOf]; omega⟩
                      | (go_roundw
                         case rel =>
                           first
                             | exact ⟨j + 1, by go_num, by omega, Lib.hid (HXjD.out.trans hx.out)⟩
                             | (repeat (first | refine ⟨j + 1, ?_⟩ | apply Exists.intro)
                                first
                                  | exact ⟨by go_num, by omega, Lib.hid (HXjD.out.trans hx.out)⟩
                                  | exact ⟨⟨j + 1, by go_num, by omega, Lib.hid (HXjD.out.trans hx.out)⟩, rfl⟩)
                         case measure => simp [intOf]; omega)
                · have HX5j := Lib.hid (HX5B.out.trans hXj.out)
                  have hcs : ∀ W, Ext wr W → W.cell? ⟨B, 0, none⟩ = some (.map (some b)) := fun W z => blk_cell ((HX5j.out.trans z).heap HB.out) 0 _ rfl
                  have HCS := Lib.hid hcs; clear hcs
                  have HK := Lib.hid ((Ext.refl wr).drew)
                  go_upto_region 23 with (fail)
                  refine wp_region_noPanic ?_
                  refine wp_region_held_drew (S := (fun W => W.cell? ⟨B, 0, none⟩ = some (.map (some b)))) (by kernel_rfl) (HCS.out _ HK.out) (fun hHeld => ?_)
                  clear hHeld
                  generalize wr.drew = wc at HK ⊢
                  refine wpAnyH_take (i := 0) (v := ?_) rfl (by kernel_rfl) (by kernel_rfl) (by kernel_rfl) (fun _ _ _ h => h) (Or.inl ⟨by kernel_rfl, ?_⟩) (HCS.out _ HK.out) ?_
                  rotate_left
                  · (intro wq hSw; (try dsimp only at hSw); first | (go_simp; done) | (go_simp; with_reducible rfl))
                  try simp only [List.getElem_toArray, List.getElem_cons_zero, Act.put, List.setIfInBounds_toArray, List.set_cons_zero, List.set_cons_succ]
                  refine wpAnyH_take (i := 2) (v := ?_) rfl (by kernel_rfl) (by kernel_rfl) (by kernel_rfl) (fun _ _ _ h => h) (Or.inl ⟨by kernel_rfl, ?_⟩) (HCS.out _ HK.out) ?_
                  rotate_left
                  · (intro wq hSw; (try dsimp only at hSw); first | (go_simp; done) | (go_simp; with_reducible rfl))
                  try simp only [List.getElem_toArray, List.getElem_cons_zero, List.getElem_cons_succ, Act.put, List.setIfInBounds_toArray, List.set_cons_zero, List.set_cons_succ]
                  all_goals (
                    first
                      | refine wpAnyH_ready (rs := [1]) (by decide +kernel) (by simp) ?_
                    repeat' (first | exact AllReadyH.nil | (refine AllReadyH.cons rfl (fun K hK => ?_) ?_)))
                  all_goals (
                    first
                      | (go_simp
                         first
                           | (go_at_call 17
                              refine (base_with (.agg #[.map (some b)]) k f none 0 [] wc (HBM.out _ (HX5j.out.trans HK.out)) (Or.inl rfl) (by simp) (by simp only [List.length_nil]; omega)).mono ?_
                              rintro E wn ⟨b3, A3, rfl, _, hm3, hx⟩
                              try replace HM3 := Lib.hid (HM3.out.ext hx)
                              try replace HM4 := Lib.hid (HM4.out.ext hx)
                              replace HK := Lib.hid (HK.out.trans hx)
                              have hm3' : EntsM wn b3 k f A3 := hm3
                              have HM3 := Lib.hid hm3'
                              clear hm3 hm3' hx
                              go_wp2_with fail
                              refine hK.out _ _ (HCS.out _ HK.out) (fun _ => ?_)
                              clear hK K
                              obtain ⟨wc, rfl⟩ : ∃ x : World, x = wn := ⟨_, rfl⟩
                              try simp only [List.getElem_toArray, List.getElem_cons_zero, List.getElem_cons_succ, Act.put, List.setIfInBounds_toArray, List.set_cons_zero, List.set_cons_succ])))
                  all_goals (
                    first
                      | refine wpAnyH_ready (rs := [3]) (by decide +kernel) (by simp) ?_
                    repeat' (first | exact AllReadyH.nil | (refine AllReadyH.cons rfl (fun K hK => ?_) ?_)))
                  all_goals (
                    first
                      | (go_simp
                         first
                           | (go_at_call 16
                              refine (base_same (.agg #[.map (some b3)]) (.agg #[.map (some b)]) k k f f wc (Or.inr ⟨b3, A3, rfl, HM3.out⟩) (HBM.out _ (HX5j.out.trans HK.out)) HG.out HG.out (by omega) (by omega)).mono ?_
                              rintro E wn ⟨⟨q, rfl, hq⟩, hx⟩
                              try replace HM3 := Lib.hid (HM3.out.ext hx)
                              try replace HM4 := Lib.hid (HM4.out.ext hx)
                              replace HK := Lib.hid (HK.out.trans hx)
                              have hqv : q = true := hq.2 (by first | rfl | trivial)
                              subst hqv
                              clear hq hx
                              go_wp2_with fail
                              refine hK.out _ _ (HCS.out _ HK.out) (fun _ => ?_)
                              clear hK K
                              obtain ⟨wc, rfl⟩ : ∃ x : World, x = wn := ⟨_, rfl⟩
                              try simp only [List.getElem_toArray, List.getElem_cons_zero, List.getElem_cons_succ, Act.put, List.setIfInBounds_toArray, List.set_cons_zero, List.set_cons_succ]
                              refine wpAnyH_take (i := 4) (v := ?_) rfl (by kernel_rfl) (by kernel_rfl) (by kernel_rfl) (fun _ _ _ h => h) (Or.inl ⟨by kernel_rfl, ?_⟩) (HCS.out _ HK.out) ?_
                              rotate_left
                              · (intro wq _; first | (go_simp; done) | (go_simp; with_reducible rfl))
                              try simp only [List.getElem_toArray, List.getElem_cons_zero, List.getElem_cons_succ, Act.put, List.setIfInBounds_toArray, List.set_cons_zero, List.set_cons_succ]
                              refine wpAnyH_take (i := 5) (v := ?_) rfl (by kernel_rfl) (by kernel_rfl) (by kernel_rfl) (fun _ _ _ h => h) (Or.inl ⟨by kernel_rfl, ?_⟩) (HCS.out _ HK.out) ?_
                              rotate_left
                              · (intro wq hSw; (try dsimp only at hSw); first | (go_simp; done) | (go_simp; with_reducible rfl))
                              try simp only [List.getElem_toArray, List.getElem_cons_zero, List.getElem_cons_succ, Act.put, List.setIfInBounds_toArray, List.set_cons_zero, List.set_cons_succ]
                              refine wpAnyH_take (i := 7) (v := ?_) rfl (by kernel_rfl) (by kernel_rfl) (by kernel_rfl) (fun _ _ _ h => h) (Or.inl ⟨by kernel_rfl, ?_⟩) (HCS.out _ HK.out) ?_
                              rotate_left
                              · (intro wq hSw; (try dsimp only at hSw); first | (go_simp; done) | (go_simp; with_reducible rfl))
                              try simp only [List.getElem_toArray, List.getElem_cons_zero, List.getElem_cons_succ, Act.put, List.setIfInBounds_toArray, List.set_cons_zero, List.set_cons_succ])))
                  all_goals (
                    first
                      | refine wpAnyH_ready (rs := [6]) (by decide +kernel) (by simp) ?_
                    repeat' (first | exact AllReadyH.nil | (refine AllReadyH.cons rfl (fun K hK => ?_) ?_)))
                  all_goals (
                    first
                      | (go_simp
                         first
                           | (go_at_call 18
                              refine (base_without (.agg #[.map (some b)]) k f none 0 [] wc (HBM.out _ (HX5j.out.trans HK.out)) (Or.inl rfl) (by simp) (by omega) (by simp)).mono ?_
                              rintro E wn ⟨b4, A4, rfl, _, hm4, hx⟩
                              try replace HM3 := Lib.hid (HM3.out.ext hx)
                              try replace HM4 := Lib.hid (HM4.out.ext hx)
                              replace HK := Lib.hid (HK.out.trans hx)
                              have hm4' : EntsM wn b4 k f A4 := hm4
                              have HM4 := Lib.hid hm4'
                              clear hm4 hm4' hx
                              go_wp2_with fail
                              refine hK.out _ _ (HCS.out _ HK.out) (fun _ => ?_)
                              clear hK K
                              obtain ⟨wc, rfl⟩ : ∃ x : World, x = wn := ⟨_, rfl⟩
                              try simp only [List.getElem_toArray, List.getElem_cons_zero, List.getElem_cons_succ, Act.put, List.setIfInBounds_toArray, List.set_cons_zero, List.set_cons_succ])))
                  all_goals (
                    first
                      | refine wpAnyH_ready (rs := [8]) (by decide +kernel) (by simp) ?_
                    repeat' (first | exact AllReadyH.nil | (refine AllReadyH.cons rfl (fun K hK => ?_) ?_)))
                  all_goals (
                    first
                      | (go_simp
                         first
                           | (go_at_call 16
                              refine (base_same (.agg #[.map (some b4)]) (.agg #[.map (some b)]) k k f f wc (Or.inr ⟨b4, A4, rfl, HM4.out⟩) (HBM.out _ (HX5j.out.trans HK.out)) HG.out HG.out (by omega) (by omega)).mono ?_
                              rintro E wn ⟨⟨q, rfl, hq⟩, hx⟩
                              try replace HM3 := Lib.hid (HM3.out.ext hx)
                              try replace HM4 := Lib.hid (HM4.out.ext hx)
                              replace HK := Lib.hid (HK.out.trans hx)
                              have hqv : q = true := hq.2 (by first | rfl | trivial)
                              subst hqv
                              clear hq hx
                              go_wp2_with fail
                              refine hK.out _ _ (HCS.out _ HK.out) (fun _ => ?_)
                              clear hK K
                              obtain ⟨wc, rfl⟩ : ∃ x : World, x = wn := ⟨_, rfl⟩
                              try simp only [List.getElem_toArray, List.getElem_cons_zero, List.getElem_cons_succ, Act.put, List.setIfInBounds_toArray, List.set_cons_zero, List.set_cons_succ]
                              refine wpAnyH_take (i := 9) (v := ?_) rfl (by kernel_rfl) (by kernel_rfl) (by kernel_rfl) (fun _ _ _ h => h) (Or.inl ⟨by kernel_rfl, ?_⟩) (HCS.out _ HK.out) ?_
                              rotate_left
                              · (intro wq _; first | (go_simp; done) | (go_simp; with_reducible rfl))
                              try simp only [List.getElem_toArray, List.getElem_cons_zero, List.getElem_cons_succ, Act.put, List.setIfInBounds_toArray, List.set_cons_zero, List.set_cons_succ]
                              refine wpAnyH_take (i := 10) (v := ?_) rfl (by kernel_rfl) (by kernel_rfl) (by kernel_rfl) (fun _ _ _ h => h) (Or.inl ⟨by kernel_rfl, ?_⟩) (HCS.out _ HK.out) ?_
                              rotate_left
                              · (intro wq _; first | (go_simp; done) | (go_simp; with_reducible rfl))
                              try simp only [List.getElem_toArray, List.getElem_cons_zero, List.getElem_cons_succ, Act.put, List.setIfInBounds_toArray, List.set_cons_zero, List.set_cons_succ])))
                  all_goals (
                    refine wpAnyH_done (by kernel_rfl) ?_ _
                    refine NoPanic.normal ?_
                    go_wp2_with fail
                    rw [HR.out]
                    exact ⟨rfl, HX5.out.trans (HX5j.out.trans HK.out)⟩)
theorem base_apart_s (a : Option Addr) (c : Nat) (L : List StepD) (s : ByteArray) (w : World) (hE : EnvN w) (hL : StepsL w a L) (hl : L.length ≤ 1099511627776) :
    Calls Tryz.prog 4 #[.slice a L.length c, .string s] w fun e w' => e = .returned (.bool true) ∧ Ext w w' := by
  have h := base_apart a c L s.data.toList w hE hL hl
  rw [bs_of] at h
  exact h
end Go.Proofs.YtnclibfhbngkjaaGreatDoor
