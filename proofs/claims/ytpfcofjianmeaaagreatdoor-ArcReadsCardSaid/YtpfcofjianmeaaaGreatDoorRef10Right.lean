/- farrierref10.Right: may a package be, as the document has it. -/
import Derived.Test.YtpfcofjianmeaaaGreatDoorRef10Small
import Derived.Test.YtpfcofjianmeaaaGreatDoorArcPack
import Derived.Outline
import Derived.BigQuiet
import Derived.Deep.QuietTactic
namespace Go.Proofs.YtpfcofjianmeaaaGreatDoor
open Go.RowKit
theorem all_at {α : Type} {f : α → Bool} {L : List α} {k : Nat} {d : α} (h : k < L.length) (hf : f (L.getD k d) = false) : L.all f = false := by
  rw [List.all_eq_false]
  exact ⟨L.getD k d, by rw [List.getD_eq_getElem?_getD, List.getElem?_eq_getElem h]; simp, by rw [hf]; simp⟩
theorem all_succ {α : Type} {f : α → Bool} {L : List α} {k : Nat} {d : α} (h : k < L.length) (h1 : (L.take k).all f = true) (hf : f (L.getD k d) = true) : (L.take (k + 1)).all f = true := by
  rw [List.take_succ_eq_append_getElem h, List.all_append, h1]
  rw [List.getD_eq_getElem?_getD, List.getElem?_eq_getElem h] at hf
  simpa using hf
theorem filesQ_no {L : List FileD} {n k : Nat} (hk : k < n) (h : (fileQ (L.getD k ⟨[], false, []⟩) && pairsQ L k k) = false) : filesQ L n = false := by
  unfold filesQ
  rw [List.all_eq_false]
  exact ⟨k, by simp; exact hk, by rw [h]; simp⟩
theorem pairsQ_no {L : List FileD} {k n j : Nat} (hj : j < n) (h : pairQ L k j = false) : pairsQ L k n = false := by
  unfold pairsQ
  rw [List.all_eq_false]
  exact ⟨j, by simp; exact hj, by rw [h]; simp⟩
set_option maxRecDepth 100000 in
set_option maxHeartbeats 6400000 in
theorem right10 (p : PkgD) (an ac af au : Option Addr) (cn cc cf cu : Nat) (w : World) (hM : PkgM w p ⟨an, ac, af, au, cn, cc, cf, cu⟩) (hS : FitP p) :
    Calls Tryz.prog 10 #[.agg #[.string (bs p.name), .string (bs p.ver), .slice an p.needs.length cn, .slice ac p.conf.length cc, .slice af p.files.length cf, .slice au p.units.length cu]] w fun e w' => e = .returned (.bool (rightQ p)) ∧ Ext w w' := by
  obtain ⟨R, hR⟩ : ∃ R : Ending → World → Prop, R = fun e w' => e = .returned (.bool (rightQ p)) ∧ Ext w w' := ⟨_, rfl⟩
  rw [← hR]
  have HR := Lib.hid hR; clear hR
  have HM := Lib.hid hM; clear hM
  have HS := Lib.hid hS
  have hnn := hS.nn
  have hnc := hS.nc
  have hnf := hS.nf
  have hnu := hS.nu
  have hnv := hS.ver
  clear hS
  have hnm : ∀ s W, Calls Tryz.prog 30 #[.string (bs s)] W fun e w' => e = .returned (.bool (nameL s)) ∧ W = w' := fun s W => by have := ref_name (bs s) W; rw [bs_data] at this; exact this
  have HNM := Lib.hid hnm; clear hnm
  have hno : rightQ p = false → R = fun e w' => e = .returned (.bool false) ∧ Ext w w' := fun h => by rw [HR.out, h]
  have HNO := Lib.hid hno; clear hno
  have hbx := heap_alloc_new w (.cells #[.string (bs p.name), .string (bs p.ver), .slice an p.needs.length cn, .slice ac p.conf.length cc, .slice af p.files.length cf, .slice au p.units.length cu] 32)
  have hx1 : Ext w (w.alloc (.cells #[.string (bs p.name), .string (bs p.ver), .slice an p.needs.length cn, .slice ac p.conf.length cc, .slice af p.files.length cf, .slice au p.units.length cu] 32)) := Ext.alloc _ _
  have HBX := Lib.hid hbx; clear hbx
  have HX1 := Lib.hid hx1; clear hx1
  go_enter Tryz.func10, Tryz.ntmps10
  go_upto_region 1 with (fail)
  generalize w.alloc (.cells #[.string (bs p.name), .string (bs p.ver), .slice an p.needs.length cn, .slice ac p.conf.length cc, .slice af p.files.length cf, .slice au p.units.length cu] 32) = w1 at HBX HX1 ⊢
  obtain ⟨B, hB⟩ : ∃ B, B = w.heap.size := ⟨_, rfl⟩
  rw [← hB] at HBX ⊢
  clear hB
  have d0 : w1.cell? ⟨B, 0, none⟩ = some (.string (bs p.name)) := blk_cell HBX.out 0 _ rfl
  have d1 : w1.cell? ⟨B, 1, none⟩ = some (.string (bs p.ver)) := blk_cell HBX.out 1 _ rfl
  have d2 : w1.cell? ⟨B, 2, none⟩ = some (.slice an p.needs.length cn) := blk_cell HBX.out 2 _ rfl
  have d3 : w1.cell? ⟨B, 3, none⟩ = some (.slice ac p.conf.length cc) := blk_cell HBX.out 3 _ rfl
  have d4 : w1.cell? ⟨B, 4, none⟩ = some (.slice af p.files.length cf) := blk_cell HBX.out 4 _ rfl
  have d5 : w1.cell? ⟨B, 5, none⟩ = some (.slice au p.units.length cu) := blk_cell HBX.out 5 _ rfl
  have hN := HNM.out p.name
  have hV := fun W => version10 p.ver hnv W
  cases hn : nameL p.name
  · rw [hn] at hN
    have HN := Lib.hid hN; clear hN hV
    have HF := Lib.hid (HNO.out (by show (headP p && _) = false; rw [show headP p = false by unfold headP; rw [hn]; rfl]; rfl))
    go_wp2_with (first | (go_at_call 30; refine (HN.out _).mono ?_; rintro e wq ⟨rfl, rfl⟩))
    rw [HF.out]
    exact ⟨rfl, HX1.out⟩
  rw [hn] at hN
  have HN := Lib.hid hN; clear hN
  cases hv : verR p.ver
  · rw [hv] at hV
    have HV := Lib.hid hV; clear hV
    have HF := Lib.hid (HNO.out (by show (headP p && _) = false; rw [show headP p = false by unfold headP; rw [hn, hv]; rfl]; rfl))
    go_wp2_with (first | (go_at_call 30; refine (HN.out _).mono ?_; rintro e wq ⟨rfl, rfl⟩) | (go_at_call 31; refine (HV.out _).mono ?_; rintro e w2 ⟨rfl, hx2⟩; have HY := Lib.hid (hx2.heap HBX.out); have HX2 := Lib.hid (HX1.out.trans hx2); clear hx2 d0 d1 d2 d3 d4 d5; have d2 : w2.cell? ⟨B, 2, none⟩ = some (.slice an p.needs.length cn) := blk_cell HY.out 2 _ rfl; have d3 : w2.cell? ⟨B, 3, none⟩ = some (.slice ac p.conf.length cc) := blk_cell HY.out 3 _ rfl; have d4 : w2.cell? ⟨B, 4, none⟩ = some (.slice af p.files.length cf) := blk_cell HY.out 4 _ rfl; have d5 : w2.cell? ⟨B, 5, none⟩ = some (.slice au p.units.length cu) := blk_cell HY.out 5 _ rfl))
    rw [HF.out]
    exact ⟨rfl, HX2.out⟩
  rw [hv] at hV
  have HV := Lib.hid hV; clear hV
  by_cases l1 : p.needs.length ≤ 8
  case neg =>
    have l1b : decide ((8 : Int) < (p.needs.length : Int)) = true := decide_eq_true (by omega)
    have HF := Lib.hid (HNO.out (by show (headP p && _) = false; rw [show headP p = false by unfold headP; rw [hn, hv, decide_eq_false l1]; simp]; rfl))
    go_wp2_with (first | (go_at_call 30; refine (HN.out _).mono ?_; rintro e wq ⟨rfl, rfl⟩) | (go_at_call 31; refine (HV.out _).mono ?_; rintro e w2 ⟨rfl, hx2⟩; have HY := Lib.hid (hx2.heap HBX.out); have HX2 := Lib.hid (HX1.out.trans hx2); clear hx2 d0 d1 d2 d3 d4 d5; have d2 : w2.cell? ⟨B, 2, none⟩ = some (.slice an p.needs.length cn) := blk_cell HY.out 2 _ rfl; have d3 : w2.cell? ⟨B, 3, none⟩ = some (.slice ac p.conf.length cc) := blk_cell HY.out 3 _ rfl; have d4 : w2.cell? ⟨B, 4, none⟩ = some (.slice af p.files.length cf) := blk_cell HY.out 4 _ rfl; have d5 : w2.cell? ⟨B, 5, none⟩ = some (.slice au p.units.length cu) := blk_cell HY.out 5 _ rfl))
    rw [HF.out]
    exact ⟨rfl, HX2.out⟩
  by_cases l2 : p.conf.length ≤ 8
  case neg =>
    have l2b : decide ((8 : Int) < (p.conf.length : Int)) = true := decide_eq_true (by omega)
    have l1b : decide ((8 : Int) < (p.needs.length : Int)) = false := decide_eq_false (by omega)
    have HF := Lib.hid (HNO.out (by show (headP p && _) = false; rw [show headP p = false by unfold headP; rw [hn, hv, decide_eq_true l1, decide_eq_false l2]; simp]; rfl))
    go_wp2_with (first | (go_at_call 30; refine (HN.out _).mono ?_; rintro e wq ⟨rfl, rfl⟩) | (go_at_call 31; refine (HV.out _).mono ?_; rintro e w2 ⟨rfl, hx2⟩; have HY := Lib.hid (hx2.heap HBX.out); have HX2 := Lib.hid (HX1.out.trans hx2); clear hx2 d0 d1 d2 d3 d4 d5; have d2 : w2.cell? ⟨B, 2, none⟩ = some (.slice an p.needs.length cn) := blk_cell HY.out 2 _ rfl; have d3 : w2.cell? ⟨B, 3, none⟩ = some (.slice ac p.conf.length cc) := blk_cell HY.out 3 _ rfl; have d4 : w2.cell? ⟨B, 4, none⟩ = some (.slice af p.files.length cf) := blk_cell HY.out 4 _ rfl; have d5 : w2.cell? ⟨B, 5, none⟩ = some (.slice au p.units.length cu) := blk_cell HY.out 5 _ rfl))
    rw [HF.out]
    exact ⟨rfl, HX2.out⟩
  by_cases l3 : p.files.length ≤ 12
  case neg =>
    have l3b : decide ((12 : Int) < (p.files.length : Int)) = true := decide_eq_true (by omega)
    have l1b : decide ((8 : Int) < (p.needs.length : Int)) = false := decide_eq_false (by omega)
    have l2b : decide ((8 : Int) < (p.conf.length : Int)) = false := decide_eq_false (by omega)
    have HF := Lib.hid (HNO.out (by show (headP p && _) = false; rw [show headP p = false by unfold headP; rw [hn, hv, decide_eq_true l1, decide_eq_true l2, decide_eq_false l3]; simp]; rfl))
    go_wp2_with (first | (go_at_call 30; refine (HN.out _).mono ?_; rintro e wq ⟨rfl, rfl⟩) | (go_at_call 31; refine (HV.out _).mono ?_; rintro e w2 ⟨rfl, hx2⟩; have HY := Lib.hid (hx2.heap HBX.out); have HX2 := Lib.hid (HX1.out.trans hx2); clear hx2 d0 d1 d2 d3 d4 d5; have d2 : w2.cell? ⟨B, 2, none⟩ = some (.slice an p.needs.length cn) := blk_cell HY.out 2 _ rfl; have d3 : w2.cell? ⟨B, 3, none⟩ = some (.slice ac p.conf.length cc) := blk_cell HY.out 3 _ rfl; have d4 : w2.cell? ⟨B, 4, none⟩ = some (.slice af p.files.length cf) := blk_cell HY.out 4 _ rfl; have d5 : w2.cell? ⟨B, 5, none⟩ = some (.slice au p.units.length cu) := blk_cell HY.out 5 _ rfl))
    rw [HF.out]
    exact ⟨rfl, HX2.out⟩
  by_cases l4 : p.units.length ≤ 4
  case neg =>
    have l4b : decide ((4 : Int) < (p.units.length : Int)) = true := decide_eq_true (by omega)
    have l1b : decide ((8 : Int) < (p.needs.length : Int)) = false := decide_eq_false (by omega)
    have l2b : decide ((8 : Int) < (p.conf.length : Int)) = false := decide_eq_false (by omega)
    have l3b : decide ((12 : Int) < (p.files.length : Int)) = false := decide_eq_false (by omega)
    have HF := Lib.hid (HNO.out (by show (headP p && _) = false; rw [show headP p = false by unfold headP; rw [hn, hv, decide_eq_true l1, decide_eq_true l2, decide_eq_true l3, decide_eq_false l4]; simp]; rfl))
    go_wp2_with (first | (go_at_call 30; refine (HN.out _).mono ?_; rintro e wq ⟨rfl, rfl⟩) | (go_at_call 31; refine (HV.out _).mono ?_; rintro e w2 ⟨rfl, hx2⟩; have HY := Lib.hid (hx2.heap HBX.out); have HX2 := Lib.hid (HX1.out.trans hx2); clear hx2 d0 d1 d2 d3 d4 d5; have d2 : w2.cell? ⟨B, 2, none⟩ = some (.slice an p.needs.length cn) := blk_cell HY.out 2 _ rfl; have d3 : w2.cell? ⟨B, 3, none⟩ = some (.slice ac p.conf.length cc) := blk_cell HY.out 3 _ rfl; have d4 : w2.cell? ⟨B, 4, none⟩ = some (.slice af p.files.length cf) := blk_cell HY.out 4 _ rfl; have d5 : w2.cell? ⟨B, 5, none⟩ = some (.slice au p.units.length cu) := blk_cell HY.out 5 _ rfl))
    rw [HF.out]
    exact ⟨rfl, HX2.out⟩
  have l1b : decide ((8 : Int) < (p.needs.length : Int)) = false := decide_eq_false (by omega)
  have l2b : decide ((8 : Int) < (p.conf.length : Int)) = false := decide_eq_false (by omega)
  have l3b : decide ((12 : Int) < (p.files.length : Int)) = false := decide_eq_false (by omega)
  have l4b : decide ((4 : Int) < (p.units.length : Int)) = false := decide_eq_false (by omega)
  have HHD : Hid (headP p = true) := Lib.hid (by unfold headP; rw [hn, hv, decide_eq_true l1, decide_eq_true l2, decide_eq_true l3, decide_eq_true l4]; rfl)
  clear hn hv
  go_wp2_with (first | (go_at_call 30; refine (HN.out _).mono ?_; rintro e wq ⟨rfl, rfl⟩) | (go_at_call 31; refine (HV.out _).mono ?_; rintro e w2 ⟨rfl, hx2⟩; have HY := Lib.hid (hx2.heap HBX.out); have HX2 := Lib.hid (HX1.out.trans hx2); clear hx2 d0 d1 d2 d3 d4 d5; have d2 : w2.cell? ⟨B, 2, none⟩ = some (.slice an p.needs.length cn) := blk_cell HY.out 2 _ rfl; have d3 : w2.cell? ⟨B, 3, none⟩ = some (.slice ac p.conf.length cc) := blk_cell HY.out 3 _ rfl; have d4 : w2.cell? ⟨B, 4, none⟩ = some (.slice af p.files.length cf) := blk_cell HY.out 4 _ rfl; have d5 : w2.cell? ⟨B, 5, none⟩ = some (.slice au p.units.length cu) := blk_cell HY.out 5 _ rfl))
  clear l1b l2b l3b l4b d2 d3 d4 d5 HN HV
  go_loopw [3] (fun i wr => ∃ k : Nat, i = .int .i64 k ∧ k ≤ p.needs.length ∧ Hid ((p.needs.take k).all needQ = true) ∧ Hid (Ext w2 wr)) (fun i _ => p.needs.length - (intOf i).toNat)
  case atStart => exact ⟨0, rfl, Nat.zero_le _, Lib.hid rfl, Lib.hid (Ext.refl _)⟩
  case round =>
    obtain ⟨k, rfl, hk, HA, HC⟩ := hrel
    have d2 := blk_cell (HC.out.heap HY.out) 2 _ rfl
    by_cases hlt : k < p.needs.length
    · obtain ⟨gN, off, rfl, _, h1, h2, h3⟩ := (HM.out.needs.ext (HX2.out.trans HC.out)).at hlt
      have hsm := (HS.out.needs _ (getD_memN hlt)).2
      obtain ⟨q, hq⟩ : ∃ q, q = p.needs.getD k nz := ⟨_, rfl⟩
      rw [← hq] at h1 h2 h3 hsm
      have hno2 : needQ q = false → R = fun e w' => e = .returned (.bool false) ∧ Ext w w' := fun h => HNO.out (by
        show (headP p && (p.needs.all needQ && _)) = false
        rw [all_at hlt (by rw [← hq]; exact h)]; simp)
      have hyes : needQ q = true → (p.needs.take (k + 1)).all needQ = true := fun h => all_succ hlt HA.out (by rw [← hq]; exact h)
      obtain ⟨mn, mk, mv⟩ := q
      simp only at h1 h2 h3 hsm
      have HNO2 := Lib.hid hno2; clear hno2
      have HYES := Lib.hid hyes; clear hyes hq
      have hi0 : (0 : Int) ≤ (k : Int) := by omega
      have hi1 : (k : Int) < (p.needs.length : Int) := by omega
      have hn0 := cell_new wr #[.string (bs mn), .int .i64 mk, .string (bs mv)] 52 0 _ rfl
      have hn1 := cell_new wr #[.string (bs mn), .int .i64 mk, .string (bs mv)] 52 1 _ rfl
      have hn2 := cell_new wr #[.string (bs mn), .int .i64 mk, .string (bs mv)] 52 2 _ rfl
      have hxn := HC.out.trans (Ext.alloc wr (.cells #[.string (bs mn), .int .i64 mk, .string (bs mv)] 52))
      have HZ := Lib.hid (And.intro hn0 (And.intro hn1 (And.intro hn2 hxn))); clear hn0 hn1 hn2 hxn
      go_upto_region 7 with (fail)
      generalize wr.alloc (.cells #[.string (bs mn), .int .i64 mk, .string (bs mv)] 52) = wn at HZ ⊢
      obtain ⟨n0, n1, n2, hxn⟩ := HZ.out
      have HC2 := Lib.hid hxn; clear hxn d2 h1 h2 h3 HZ
      have hN := HNM.out mn
      have hV := fun W => version10 mv hsm W
      cases hn : nameL mn
      · rw [hn] at hN
        have HN := Lib.hid hN; clear hN hV
        have HF := Lib.hid (HNO2.out (by unfold needQ; simp only [hn]; rfl)); clear hn
        go_wp2_with (first | (go_at_call 30; refine (HN.out _).mono ?_; rintro e wq ⟨rfl, rfl⟩))
        rw [HF.out]
        exact ⟨rfl, HX2.out.trans HC2.out⟩
      rw [hn] at hN
      have HN := Lib.hid hN; clear hN
      by_cases hlo : mk < 0
      · have hlob : decide (mk < 0) = true := decide_eq_true hlo
        have HF := Lib.hid (HNO2.out (by unfold needQ; rw [hn, decide_eq_false (by show ¬ (0 ≤ mk); omega)]; rfl)); clear hn hV
        go_wp2_with (first | (go_at_call 30; refine (HN.out _).mono ?_; rintro e wq ⟨rfl, rfl⟩))
        rw [HF.out]
        exact ⟨rfl, HX2.out.trans HC2.out⟩
      have hlob : decide (mk < 0) = false := decide_eq_false hlo
      by_cases hhi : 3 < mk
      · have hhib : decide ((3 : Int) < mk) = true := decide_eq_true hhi
        have HF := Lib.hid (HNO2.out (by unfold needQ; rw [hn, decide_eq_true (by show 0 ≤ mk; omega), decide_eq_false (by show ¬ (mk ≤ 3); omega)]; rfl)); clear hn hV
        go_wp2_with (first | (go_at_call 30; refine (HN.out _).mono ?_; rintro e wq ⟨rfl, rfl⟩))
        rw [HF.out]
        exact ⟨rfl, HX2.out.trans HC2.out⟩
      have hhib : decide ((3 : Int) < mk) = false := decide_eq_false hhi
      have hQ : needQ ⟨mn, mk, mv⟩ = (!(decide (mk = 0) && !decide (mv = [])) && !(decide (0 < mk) && !verR mv)) := by
        unfold needQ; rw [hn, decide_eq_true (by show 0 ≤ mk; omega), decide_eq_true (by show mk ≤ 3; omega)]; rfl
      have HNQ := Lib.hid hQ; clear hQ hn
      by_cases h0 : mk = 0
      · have h0b : (mk == 0) = true := by simp [h0]
        have hposb : decide ((0 : Int) < mk) = false := decide_eq_false (by omega)
        by_cases hve : mv = []
        · have hveb : ((bs mv).toList.isEmpty) = true := by rw [bs_toList, hve]; rfl
          have HF := Lib.hid (HYES.out (by rw [HNQ.out, decide_eq_true hve, hposb]; simp)); clear hV hve h0
          go_wp2_with (first | (go_at_call 30; refine (HN.out _).mono ?_; rintro e wq ⟨rfl, rfl⟩))
          go_roundw
          case rel => exact ⟨k + 1, by go_num, by omega, HF, HC2⟩
          case measure => simp [intOf]; omega
        · have hveb : ((bs mv).toList.isEmpty) = false := by
            rw [bs_toList]
            simpa using hve
          have HF := Lib.hid (HNO2.out (by rw [HNQ.out, decide_eq_false hve, decide_eq_true h0]; rfl)); clear hV hve h0
          go_wp2_with (first | (go_at_call 30; refine (HN.out _).mono ?_; rintro e wq ⟨rfl, rfl⟩))
          rw [HF.out]
          exact ⟨rfl, HX2.out.trans HC2.out⟩
      · have h0b : (mk == 0) = false := by simpa using h0
        have hposb : decide ((0 : Int) < mk) = true := decide_eq_true (by omega)
        cases hv : verR mv
        · rw [hv] at hV
          have HV := Lib.hid hV; clear hV
          have HF := Lib.hid (HNO2.out (by rw [HNQ.out, hposb, hv]; simp)); clear hv h0
          go_wp2_with (first | (go_at_call 30; refine (HN.out _).mono ?_; rintro e wq ⟨rfl, rfl⟩) | (go_at_call 31; refine (HV.out _).mono ?_; rintro e w3 ⟨rfl, hx3⟩; have HX3 := Lib.hid (HC2.out.trans hx3); clear hx3 n0 n1 n2))
          rw [HF.out]
          exact ⟨rfl, HX2.out.trans HX3.out⟩
        · rw [hv] at hV
          have HV := Lib.hid hV; clear hV
          have HF := Lib.hid (HYES.out (by rw [HNQ.out, hposb, hv, decide_eq_false h0]; rfl)); clear hv h0
          go_wp2_with (first | (go_at_call 30; refine (HN.out _).mono ?_; rintro e wq ⟨rfl, rfl⟩) | (go_at_call 31; refine (HV.out _).mono ?_; rintro e w3 ⟨rfl, hx3⟩; have HX3 := Lib.hid (HC2.out.trans hx3); clear hx3 n0 n1 n2))
          go_roundw
          case rel => exact ⟨k + 1, by go_num, by omega, HF, HX3⟩
          case measure => simp [intOf]; omega
    · have hkk : k = p.needs.length := by omega
      have hA2 := HA.out
      rw [hkk, List.take_length] at hA2
      have HAN := Lib.hid hA2; clear hA2 HA hkk
      obtain ⟨w3, hw3⟩ : ∃ x : World, x = wr := ⟨_, rfl⟩
      rw [← hw3] at HC d2 ⊢
      clear hw3
      have HX3 := Lib.hid (HX2.out.trans HC.out)
      have HY3 := Lib.hid (HC.out.heap HY.out)
      have d3 := blk_cell HY3.out 3 _ rfl
      clear HC
      go_wp2_with fail
      clear d2 d3 hk hlt
      go_loopw [5] (fun i wr => ∃ k : Nat, i = .int .i64 k ∧ k ≤ p.conf.length ∧ Hid ((p.conf.take k).all (confR p) = true) ∧ Hid (Ext w3 wr)) (fun i _ => p.conf.length - (intOf i).toNat)
      case atStart => exact ⟨0, rfl, Nat.zero_le _, Lib.hid rfl, Lib.hid (Ext.refl _)⟩
      case round =>
        obtain ⟨k, rfl, hk, HA, HC⟩ := hrel
        have d3 := blk_cell (HC.out.heap HY3.out) 3 _ rfl
        by_cases hlt : k < p.conf.length
        · obtain ⟨gN, off, rfl, _, hcl⟩ := (HM.out.conf.ext (HX3.out.trans HC.out)).at (by intro e; rw [e] at hlt; simp at hlt)
          have h1 := hcl k hlt
          clear hcl
          have d0 := blk_cell (HC.out.heap HY3.out) 0 _ rfl
          obtain ⟨q, hq⟩ : ∃ q, q = p.conf.getD k [] := ⟨_, rfl⟩
          rw [← hq] at h1
          have hno2 : confR p q = false → R = fun e w' => e = .returned (.bool false) ∧ Ext w w' := fun h => HNO.out (by
            show (headP p && (p.needs.all needQ && (p.conf.all (confR p) && _))) = false
            rw [all_at hlt (by rw [← hq]; exact h)]; simp)
          have hyes : confR p q = true → (p.conf.take (k + 1)).all (confR p) = true := fun h => all_succ hlt HA.out (by rw [← hq]; exact h)
          have HNO2 := Lib.hid hno2; clear hno2
          have HYES := Lib.hid hyes; clear hyes hq
          have hi0 : (0 : Int) ≤ (k : Int) := by omega
          have hi1 : (k : Int) < (p.conf.length : Int) := by omega
          have hN : ∀ W, Calls Tryz.prog 30 #[.string (bs q)] W fun e w' => e = .returned (.bool (nameL q)) ∧ ∃ n, w' = W.drewN n := fun W => (HNM.out q W).mono fun _ _ h => ⟨h.1, 0, by rw [← h.2]; rfl⟩
          cases hn : nameL q
          · rw [hn] at hN
            have HN := Lib.hid hN; clear hN
            have HF := Lib.hid (HNO2.out (by unfold confR; rw [hn]; rfl)); clear hn
            go_wp2_with fail
            go_quiet (first | (go_at_call 30; exact Calls.quiet_of (HN.out _)))
            go_wp2_with fail
            rw [HF.out]
            exact ⟨rfl, HX3.out.trans (HC.out.drewN _)⟩
          rw [hn] at hN
          have HN := Lib.hid hN; clear hN
          by_cases he : q = p.name
          · have heb : ((bs q).toList == (bs p.name).toList) = true := by rw [bs_toList, bs_toList, he]; simp
            have HF := Lib.hid (HNO2.out (by unfold confR; rw [hn, decide_eq_true he]; rfl)); clear hn he
            go_wp2_with fail
            go_quiet (first | (go_at_call 30; exact Calls.quiet_of (HN.out _)))
            go_wp2_with fail
            rw [HF.out]
            exact ⟨rfl, HX3.out.trans (HC.out.drewN _)⟩
          · have heb : ((bs q).toList == (bs p.name).toList) = false := by rw [bs_toList, bs_toList]; simpa using he
            have HF := Lib.hid (HYES.out (by unfold confR; rw [hn, decide_eq_false he]; rfl)); clear hn he
            go_wp2_with fail
            go_quiet (first | (go_at_call 30; exact Calls.quiet_of (HN.out _)))
            go_wp2_with fail
            go_roundw
            case rel => exact ⟨k + 1, by go_num, by omega, HF, Lib.hid (HC.out.drewN _)⟩
            case measure => simp [intOf]; omega
        · have hkk : k = p.conf.length := by omega
          have hA2 := HA.out
          rw [hkk, List.take_length] at hA2
          have HAC := Lib.hid hA2; clear hA2 HA hkk
          obtain ⟨w4, hw4⟩ : ∃ x : World, x = wr := ⟨_, rfl⟩
          rw [← hw4] at HC d3 ⊢
          clear hw4
          have HX4 := Lib.hid (HX3.out.trans HC.out)
          have HY4 := Lib.hid (HC.out.heap HY3.out)
          have d5 := blk_cell HY4.out 5 _ rfl
          clear HC
          go_wp2_with fail
          clear d3 d5 hk hlt
          go_loopw [6] (fun i wr => ∃ k : Nat, i = .int .i64 k ∧ k ≤ p.units.length ∧ Hid ((p.units.take k).all (fun s => decide (s.length ≤ 300)) = true) ∧ Hid (Ext w4 wr)) (fun i _ => p.units.length - (intOf i).toNat)
          case atStart => exact ⟨0, rfl, Nat.zero_le _, Lib.hid rfl, Lib.hid (Ext.refl _)⟩
          case round =>
            obtain ⟨k, rfl, hk, HA, HC⟩ := hrel
            have d5 := blk_cell (HC.out.heap HY4.out) 5 _ rfl
            by_cases hlt : k < p.units.length
            · obtain ⟨gN, off, rfl, _, hcl⟩ := (HM.out.units.ext (HX4.out.trans HC.out)).at (by intro e; rw [e] at hlt; simp at hlt)
              have h1 := hcl k hlt
              clear hcl
              obtain ⟨q, hq⟩ : ∃ q, q = p.units.getD k [] := ⟨_, rfl⟩
              rw [← hq] at h1
              have hi0 : (0 : Int) ≤ (k : Int) := by omega
              have hi1 : (k : Int) < (p.units.length : Int) := by omega
              by_cases h3 : q.length ≤ 300
              · have h3b : decide ((300 : Int) < ((bs q).size : Int)) = false := by rw [bs_size]; exact decide_eq_false (by omega)
                have HF := Lib.hid (all_succ (f := fun s : By => decide (s.length ≤ 300)) hlt HA.out (by rw [← hq]; exact decide_eq_true h3)); clear hq h3
                go_wp2_with fail
                go_roundw
                case rel => exact ⟨k + 1, by go_num, by omega, HF, HC⟩
                case measure => simp [intOf]; omega
              · have h3b : decide ((300 : Int) < ((bs q).size : Int)) = true := by rw [bs_size]; exact decide_eq_true (by omega)
                have HF := Lib.hid (HNO.out (by
                  show (headP p && (p.needs.all needQ && (p.conf.all (confR p) && (p.units.all (fun s => decide (s.length ≤ 300)) && _)))) = false
                  rw [all_at hlt (by rw [← hq]; exact decide_eq_false h3)]; simp)); clear hq h3
                go_wp2_with fail
                rw [HF.out]
                exact ⟨rfl, HX4.out.trans HC.out⟩
            · have hkk : k = p.units.length := by omega
              have hA2 := HA.out
              rw [hkk, List.take_length] at hA2
              have HAU := Lib.hid hA2; clear hA2 HA hkk
              obtain ⟨w5, hw5⟩ : ∃ x : World, x = wr := ⟨_, rfl⟩
              rw [← hw5] at HC d5 ⊢
              clear hw5
              have HX5 := Lib.hid (HX4.out.trans HC.out)
              have HY5 := Lib.hid (HC.out.heap HY4.out)
              have d4 := blk_cell HY5.out 4 _ rfl
              clear HC
              go_wp2_with fail
              clear d5 d4 hk hlt
              go_loopw [7] (fun i wr => ∃ k : Nat, i = .int .i64 k ∧ k ≤ p.files.length ∧ Hid (filesQ p.files k = true) ∧ Hid (Ext w5 wr)) (fun i _ => p.files.length - (intOf i).toNat)
              case atStart => exact ⟨0, rfl, Nat.zero_le _, Lib.hid rfl, Lib.hid (Ext.refl _)⟩
              case round =>
                obtain ⟨k, rfl, hk, HA, HC⟩ := hrel
                have d4 := blk_cell (HC.out.heap HY5.out) 4 _ rfl
                by_cases hlt : k < p.files.length
                · obtain ⟨gN, off, rfl, _, hfa⟩ := (HM.out.files.ext HX5.out).at hlt
                  have hsm := (HS.out.files _ (getD_memF hlt)).1
                  obtain ⟨q, hq⟩ : ∃ q, q = p.files.getD k fz := ⟨_, rfl⟩
                  rw [← hq] at hfa hsm
                  have hno2 : (fileQ q && pairsQ p.files k k) = false → R = fun e w' => e = .returned (.bool false) ∧ Ext w w' := fun h => HNO.out (by
                    show (headP p && (p.needs.all needQ && (p.conf.all (confR p) && (p.units.all (fun s => decide (s.length ≤ 300)) && filesQ p.files p.files.length)))) = false
                    rw [filesQ_no hlt (by have h2 : p.files.getD k ⟨[], false, []⟩ = q := hq.symm; rw [h2]; exact h)]; simp)
                  have hyes : fileQ q = true → pairsQ p.files k k = true → filesQ p.files (k + 1) = true := fun h1 h2 => by
                    have h3 : p.files.getD k ⟨[], false, []⟩ = q := hq.symm
                    rw [filesQ_succ, HA.out, h3, h1, h2]; rfl
                  have hpq : ∀ j, pairQ p.files k j = (ltL (p.files.getD j fz).path q.path && !beginsL q.path ((p.files.getD j fz).path ++ [47])) := fun j => by
                    have h3 : p.files.getD k ⟨[], false, []⟩ = q := hq.symm
                    unfold pairQ; rw [h3]; rfl
                  have HNO2 := Lib.hid hno2; clear hno2
                  have HYES := Lib.hid hyes; clear hyes hq
                  have HPQ := Lib.hid hpq; clear hpq
                  obtain ⟨fp, fb, fx⟩ := q
                  obtain ⟨h1, h2, fd, fc, h3, _, _⟩ := hfa
                  simp only at h1 h2 h3 hsm
                  replace h1 := HC.out.cell h1
                  replace h2 := HC.out.cell h2
                  replace h3 := HC.out.cell h3
                  have hi0 : (0 : Int) ≤ (k : Int) := by omega
                  have hi1 : (k : Int) < (p.files.length : Int) := by omega
                  have hn0 := heap_alloc_new wr (.cells #[.string (bs fp), .bool fb, .slice fd fx.length fc] 53)
                  have hxn := HC.out.trans (Ext.alloc wr (.cells #[.string (bs fp), .bool fb, .slice fd fx.length fc] 53))
                  have HZ := Lib.hid (And.intro hn0 hxn); clear hn0 hxn
                  go_upto_region 23 with (fail)
                  generalize wr.alloc (.cells #[.string (bs fp), .bool fb, .slice fd fx.length fc] 53) = wn at HZ ⊢
                  obtain ⟨G, hG⟩ : ∃ x, x = wr.heap.size := ⟨_, rfl⟩
                  rw [← hG] at HZ ⊢
                  clear hG
                  obtain ⟨hgn, hxn⟩ := HZ.out
                  have HGN := Lib.hid hgn; clear hgn
                  have HC2 := Lib.hid hxn; clear hxn d4 h1 h2 h3 HZ HC
                  have n0 := blk_cell HGN.out 0 _ rfl
                  have hsp := fun W => ref_split (bs fp) W
                  rw [bs_data] at hsp
                  cases hp : pathL fp with
                  | none =>
                    rw [hp] at hsp
                    have hsp : ∀ W, Calls Tryz.prog 32 #[.string (bs fp)] W fun e w' => e = .returned (.tuple #[.slice none 0 0, .bool false]) ∧ Ext W w' := hsp
                    have HSP := Lib.hid hsp; clear hsp
                    have HF := Lib.hid (HNO2.out (by unfold fileQ; simp only [hp]; rfl)); clear hp
                    go_wp2_with (go_at_call 32; refine (HSP.out _).mono ?_; rintro e w6 ⟨rfl, hx6⟩; have HX6 := Lib.hid (HC2.out.trans hx6); clear hx6 n0)
                    rw [HF.out]
                    exact ⟨rfl, HX5.out.trans HX6.out⟩
                  | some L =>
                    rw [hp] at hsp
                    have hsp : ∀ W, Calls Tryz.prog 32 #[.string (bs fp)] W fun e w' => ∃ a cap, e = .returned (.tuple #[.slice a L.length cap, .bool true]) ∧ L.length ≤ cap ∧ Strs w' a L ∧ Ext W w' := hsp
                    have HSP := Lib.hid hsp; clear hsp
                    cases L with
                    | nil =>
                      have HF := Lib.hid (HNO2.out (by unfold fileQ; simp only [hp]; rfl)); clear hp
                      go_wp2_with (go_at_call 32; refine (HSP.out _).mono ?_; rintro e w6 ⟨a6, q6, rfl, _, _, hx6⟩; have HX6 := Lib.hid (HC2.out.trans hx6); clear hx6 n0)
                      rw [HF.out]
                      exact ⟨rfl, HX5.out.trans HX6.out⟩
                    | cons x L =>
                      have hQ : fileQ ⟨fp, fb, fx⟩ = (!decide (x = wVar) && decide (fx.length ≤ 512)) := by unfold fileQ; simp only [hp]
                      have HFQ := Lib.hid hQ; clear hQ hp
                      have hL0 : (0 : Int) < (((x :: L).length : Nat) : Int) := by simp
                      have hLn : (x :: L).length ≠ 0 := by simp
                      obtain ⟨nL, hnL⟩ : ∃ n, n = (x :: L).length := ⟨_, rfl⟩
                      rw [← hnL] at hL0 hLn HSP
                      have hL1 : ((nL : Int) == 0) = false := by simp; omega
                      have HNL := Lib.hid hnL; clear hnL
                      have hd2 := blk_cell HGN.out 2 _ rfl
                      clear hd2
                      by_cases hvx : x = wVar
                      · have hxb : ((bs x).toList == [118, 97, 114]) = true := by rw [bs_toList, hvx]; rfl
                        have HF := Lib.hid (HNO2.out (by rw [HFQ.out, decide_eq_true hvx]; rfl)); clear hvx
                        go_wp2_with (go_at_call 32; refine (HSP.out _).mono ?_; rintro e w6 ⟨a6, q6, rfl, _, hst, hx6⟩; obtain ⟨gs, os, rfl, _, hcs⟩ := hst.at (by simp); have hc0 : w6.cell? ⟨gs, os, none⟩ = some (.string (bs x)) := hcs 0 (by simp); have HX6 := Lib.hid (HC2.out.trans hx6); have n2 := blk_cell (hx6.heap HGN.out) 2 _ rfl; clear hx6 n0 hcs hst)
                        rw [HF.out]
                        exact ⟨rfl, HX5.out.trans HX6.out⟩
                      · have hxb : ((bs x).toList == [118, 97, 114]) = false := by
                          rw [bs_toList]
                          have : x ≠ [118, 97, 114] := hvx
                          simpa using this
                        by_cases h5 : fx.length ≤ 512
                        case neg =>
                          have h5b : decide ((512 : Int) < (fx.length : Int)) = true := decide_eq_true (by omega)
                          have HF := Lib.hid (HNO2.out (by rw [HFQ.out, decide_eq_false h5]; simp)); clear hvx h5
                          go_wp2_with (go_at_call 32; refine (HSP.out _).mono ?_; rintro e w6 ⟨a6, q6, rfl, _, hst, hx6⟩; obtain ⟨gs, os, rfl, _, hcs⟩ := hst.at (by simp); have hc0 : w6.cell? ⟨gs, os, none⟩ = some (.string (bs x)) := hcs 0 (by simp); have HX6 := Lib.hid (HC2.out.trans hx6); have n2 := blk_cell (hx6.heap HGN.out) 2 _ rfl; have HG6 := Lib.hid (hx6.heap HGN.out); clear hx6 n0 hcs hst)
                          rw [HF.out]
                          exact ⟨rfl, HX5.out.trans HX6.out⟩
                        have h5b : decide ((512 : Int) < (fx.length : Int)) = false := decide_eq_false (by omega)
                        have HFY : Hid (fileQ ⟨fp, fb, fx⟩ = true) := Lib.hid (by rw [HFQ.out, decide_eq_false hvx, decide_eq_true h5]; rfl)
                        clear hvx h5
                        go_wp2_with (go_at_call 32; refine (HSP.out _).mono ?_; rintro e w6 ⟨a6, q6, rfl, _, hst, hx6⟩; obtain ⟨gs, os, rfl, _, hcs⟩ := hst.at (by simp); have hc0 : w6.cell? ⟨gs, os, none⟩ = some (.string (bs x)) := hcs 0 (by simp); have HX6 := Lib.hid (HC2.out.trans hx6); have n2 := blk_cell (hx6.heap HGN.out) 2 _ rfl; have HG6 := Lib.hid (hx6.heap HGN.out); clear hx6 n0 hcs hst)
                        clear hxb h5b hc0 n2 hL0 hL1 hLn
                        go_loopw [11] (fun i wr => ∃ j : Nat, i = .int .i64 j ∧ j ≤ k ∧ Hid (pairsQ p.files k j = true) ∧ Hid (Ext w6 wr)) (fun i _ => k - (intOf i).toNat)
                        case atStart => exact ⟨0, rfl, Nat.zero_le _, Lib.hid rfl, Lib.hid (Ext.refl _)⟩
                        case round =>
                          obtain ⟨j, rfl, hj, HP, HC⟩ := hrel
                          by_cases hjk : j < k
                          · obtain ⟨gN', off', hgo, _, hfa⟩ := (HM.out.files.ext HX5.out).at (show j < p.files.length by omega)
                            obtain ⟨rfl, rfl⟩ : gN = gN' ∧ off = off' := by
                              have := Option.some.inj hgo
                              simp only [Addr.mk.injEq, and_true] at this
                              exact this
                            have hsm2 := (HS.out.files _ (getD_memF (show j < p.files.length by omega))).1
                            obtain ⟨h1, _⟩ := hfa
                            have hPQ := HPQ.out j
                            obtain ⟨qp, hqp⟩ : ∃ x, x = (p.files.getD j fz).path := ⟨_, rfl⟩
                            rw [← hqp] at h1 hsm2 hPQ
                            replace h1 := HC.out.cell (HX6.out.cell h1)
                            have n0 := blk_cell (HC.out.heap HG6.out) 0 _ rfl
                            have d4 := blk_cell (HC.out.heap (HX6.out.heap HY5.out)) 4 _ rfl
                            have hj0 : (0 : Int) ≤ (j : Int) := by omega
                            have hj1 : (j : Int) < (p.files.length : Int) := by omega
                            have hlq : Op.bytesLess (bs qp).toList (bs fp).toList = ltL qp fp := by rw [bs_toList, bs_toList]; exact less_ltL _ _
                            clear hqp hgo
                            cases hlt2 : ltL qp fp
                            · rw [hlt2] at hlq
                              have HF := Lib.hid (HNO2.out (by rw [pairsQ_no hjk (by rw [hPQ, hlt2]; rfl)]; simp)); clear hPQ hlt2
                              go_wp2_with fail
                              go_quiet (fail)
                              go_wp2_with fail
                              rw [HF.out]
                              exact ⟨rfl, HX5.out.trans (HX6.out.trans (HC.out.drewN _))⟩
                            · rw [hlt2] at hlq
                              have hz1 : (bs qp).size ≤ 1099511627776 := by rw [bs_size]; omega
                              have hcat : (bs qp) ++ (⟨#[47]⟩ : ByteArray) = bs (qp ++ [47]) := bs_append qp [47]
                              have hbg : ∀ W, Calls Tryz.prog 33 #[.string (bs fp), .string (bs (qp ++ [47]))] W fun e w' => e = .returned (.bool (beginsL fp (qp ++ [47]))) ∧ ∃ n, w' = W.drewN n := fun W => (begins10 fp (qp ++ [47]) W (by omega) (by simp; omega)).mono fun _ _ h => ⟨h.1, 0, by rw [← h.2]; rfl⟩
                              cases hbb : beginsL fp (qp ++ [47])
                              · rw [hbb] at hbg
                                have HBG := Lib.hid hbg; clear hbg
                                have HF : Hid (pairsQ p.files k (j + 1) = true) := Lib.hid (by rw [pairsQ_succ, HP.out, hPQ, hlt2, hbb]; rfl); clear hPQ hlt2 hbb
                                go_wp2_with fail
                                go_quiet (first | (go_at_call 33; exact Calls.quiet_of (HBG.out _)))
                                go_wp2_with fail
                                go_roundw
                                case rel => exact ⟨j + 1, by go_num, by omega, HF, Lib.hid (HC.out.drewN _)⟩
                                case measure => simp [intOf]; omega
                              · rw [hbb] at hbg
                                have HBG := Lib.hid hbg; clear hbg
                                have HF := Lib.hid (HNO2.out (by rw [pairsQ_no hjk (by rw [hPQ, hlt2, hbb]; rfl)]; simp)); clear hPQ hlt2 hbb
                                go_wp2_with fail
                                go_quiet (first | (go_at_call 33; exact Calls.quiet_of (HBG.out _)))
                                go_wp2_with fail
                                rw [HF.out]
                                exact ⟨rfl, HX5.out.trans (HX6.out.trans (HC.out.drewN _))⟩
                          · have hjj : j = k := by omega
                            have HF := Lib.hid (HYES.out HFY.out (by have := HP.out; rw [hjj] at this; exact this))
                            subst hjj
                            go_wp2_with fail
                            go_roundw
                            case rel => exact ⟨j + 1, by go_num, by omega, HF, Lib.hid (HX6.out.trans HC.out)⟩
                            case measure => simp [intOf]; omega
                · have hkk : k = p.files.length := by omega
                  have HF : Hid (rightQ p = true) := Lib.hid (by
                    show (headP p && (p.needs.all needQ && (p.conf.all (confR p) && (p.units.all (fun s => decide (s.length ≤ 300)) && filesQ p.files p.files.length)))) = true
                    rw [HHD.out, HAN.out, HAC.out, HAU.out, ← hkk, HA.out]; rfl)
                  go_wp2_with fail
                  rw [HR.out, HF.out]
                  exact ⟨rfl, HX5.out.trans HC.out⟩
end Go.Proofs.YtpfcofjianmeaaaGreatDoor
