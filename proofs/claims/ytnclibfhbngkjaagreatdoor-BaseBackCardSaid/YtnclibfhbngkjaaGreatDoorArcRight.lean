/- arc.Right: may a package be? -/
import Derived.Test.YtnclibfhbngkjaaGreatDoorArcFile
import Derived.Deep.RegionHeld3
import Derived.Deep.DrawnRows
import Derived.IntWalk
import Derived.Deep.Cut
namespace Go.Proofs.YtnclibfhbngkjaaGreatDoor
open Go.RowKit
attribute [local go_sem ↓] Go.wp_at_zero Go.wp_at_succ
theorem less_ltL : ∀ (a b : By), Op.bytesLess a b = ltL a b
  | [], [] => rfl
  | [], _ :: _ => rfl
  | _ :: _, [] => rfl
  | x :: a, y :: b => by
    unfold Op.bytesLess ltL
    rw [less_ltL a b]
    by_cases h : x.toNat < y.toNat
    · have : x < y := h
      simp [this, h]
    · have hn : ¬ x < y := h
      by_cases e : x = y
      · subst e; simp
      · have : x.toNat ≠ y.toNat := fun k => e (UInt8.toNat_inj.1 k)
        simp [hn, h, e, this]
/-- A package that is small enough for all that is asked of it. -/
structure FitP (p : PkgD) : Prop where
  name : p.name.length ≤ 1000
  ver : p.ver.length ≤ 1000
  nn : p.needs.length ≤ 100000
  nc : p.conf.length ≤ 100000
  nf : p.files.length ≤ 100000
  nu : p.units.length ≤ 100000
  needs : ∀ n ∈ p.needs, n.name.length ≤ 1000 ∧ n.ver.length ≤ 1000
  conf : ∀ s ∈ p.conf, s.length ≤ 1000
  files : ∀ f ∈ p.files, f.path.length ≤ 1000 ∧ f.data.length ≤ 1000
  units : ∀ s ∈ p.units, s.length ≤ 1000
  pack : (packP p).length ≤ 100000
/-- As the statements have it. -/
structure SmallP (p : PkgD) : Prop where
  name : p.name.length ≤ 60
  ver : p.ver.length ≤ 60
  nn : p.needs.length ≤ 20
  nc : p.conf.length ≤ 20
  nf : p.files.length ≤ 20
  nu : p.units.length ≤ 20
  needs : ∀ n ∈ p.needs, n.name.length ≤ 60 ∧ n.ver.length ≤ 60
  conf : ∀ s ∈ p.conf, s.length ≤ 60
  files : ∀ f ∈ p.files, f.path.length ≤ 60 ∧ f.data.length ≤ 600
  units : ∀ s ∈ p.units, s.length ≤ 400
theorem packP_size (p : PkgD) : (packP p).length = 24 + p.name.length + p.ver.length + (p.needs.flatMap needB).length + (p.conf.flatMap raw4).length + (p.files.flatMap fileB).length + (p.units.flatMap raw4).length := by
  simp [packP, raw4_len]; omega
theorem SmallP.fit {p : PkgD} (h : SmallP p) : FitP p := by
  have a1 := flat_len_le (enc := needB) (m := 132) p.needs (fun x hx => by have := h.needs x hx; rw [needB_len]; omega)
  have a2 := flat_len_le (enc := raw4) (m := 64) p.conf (fun x hx => by have := h.conf x hx; rw [raw4_len]; omega)
  have a3 := flat_len_le (enc := fileB) (m := 672) p.files (fun x hx => by have := h.files x hx; rw [fileB_len]; omega)
  have a4 := flat_len_le (enc := raw4) (m := 404) p.units (fun x hx => by have := h.units x hx; rw [raw4_len]; omega)
  have := packP_size p
  have := h.name
  have := h.ver
  have := h.nn
  have := h.nc
  have := h.nf
  have := h.nu
  exact ⟨by omega, by omega, by omega, by omega, by omega, by omega, fun n hn => by have := h.needs n hn; omega, fun n hn => by have := h.conf n hn; omega, fun n hn => by have := h.files n hn; omega, fun n hn => by have := h.units n hn; omega, by omega⟩
theorem filesTo_no {L : List FileD} {k : Nat} (hk : k < L.length) (h : fileAt L k = false) : filesTo L L.length = false := by
  unfold filesTo
  rw [List.all_eq_false]
  exact ⟨k, by simp; exact hk, by rw [h]; simp⟩
theorem FilesM.take {w : World} {a : Option Addr} {L : List FileD} (h : FilesM w a L) (k : Nat) : FilesM w a (L.take k) := by
  rcases h with h | ⟨g, off, ha, hg, hc⟩
  · exact Or.inl (by rw [h]; simp)
  · refine Or.inr ⟨g, off, ha, hg, fun i hi => ?_⟩
    have hi2 : i < k ∧ i < L.length := by rw [List.length_take] at hi; omega
    have := hc i hi2.2
    have e : (L.take k).getD i fz = L.getD i fz := by simp [List.getD_eq_getElem?_getD, hi2.1]
    rw [e]; exact this
set_option maxRecDepth 100000 in
set_option maxHeartbeats 6400000 in
theorem arc_right0 (p : PkgD) (an ac af au : Option Addr) (cn cc cf cu : Nat) (w : World) (hE : EnvN w) (hM : PkgM w p ⟨an, ac, af, au, cn, cc, cf, cu⟩) (hS : FitP p) (hC : p.files.length ≤ cf) :
    Calls Tryz.prog 10 #[.agg #[.string (bs p.name), .string (bs p.ver), .slice an p.needs.length cn, .slice ac p.conf.length cc, .slice af p.files.length cf, .slice au p.units.length cu]] w fun e w' => e = .returned (.bool (rightP p)) ∧ Ext w w' := by
  obtain ⟨R, hR⟩ : ∃ R : Ending → World → Prop, R = fun e w' => e = .returned (.bool (rightP p)) ∧ Ext w w' := ⟨_, rfl⟩
  rw [← hR]
  have HR := Lib.hid hR; clear hR
  have HM := Lib.hid hM; clear hM
  have HS := Lib.hid hS; clear hS
  have hx0 : Ext w (w.alloc (.cells #[.string (bs p.name), .string (bs p.ver), .slice an p.needs.length cn, .slice ac p.conf.length cc, .slice af p.files.length cf, .slice au p.units.length cu] 31)) := Ext.alloc _ _
  have HX0 := Lib.hid hx0; clear hx0
  have hnm := fun W (_ : Ext w W) => name_ext p.name W
  have hvr := fun W (k : Ext w W) => ver_right (bs p.ver) (by rw [bs_size]; have := HS.out.ver; omega) W (hE.ext k)
  rw [bs_data] at hvr
  have stop : headP p = false → rightP p = false := fun h => by unfold rightP; rw [h]; rfl
  have HST := Lib.hid stop; clear stop
  cases hn : nameL p.name with
  | false =>
    rw [hn] at hnm
    have HF := Lib.hid (HST.out (by unfold headP; rw [hn]; rfl))
    have HNM := Lib.hid hnm; clear hnm hvr hn
    go_enter Tryz.func10, Tryz.ntmps10
    go_wp2_with (go_at_call 28; refine (HNM.out _ HX0.out).mono ?_; rintro e w1 ⟨rfl, hx1⟩; have hx1 := Lib.hid hx1)
    rw [HR.out, HF.out]
    exact ⟨rfl, HX0.out.trans hx1.out⟩
  | true =>
    rw [hn] at hnm
    have HNM := Lib.hid hnm; clear hnm
    cases hv : (verL p.ver).isSome with
    | false =>
      rw [hv] at hvr
      have HF := Lib.hid (HST.out (by unfold headP verR; rw [hv]; simp))
      have HVR := Lib.hid hvr; clear hvr hv hn
      go_enter Tryz.func10, Tryz.ntmps10
      go_wp2_with (first
        | (go_at_call 28; refine (HNM.out _ HX0.out).mono ?_; rintro e w1 ⟨rfl, hx1⟩; have k1 : w1.cell? ⟨w.heap.size, 1, none⟩ = some (.string (bs p.ver)) := hx1.cell (cell_new w _ _ 1 _ rfl); have hx1 := Lib.hid hx1)
        | (go_at_call 29; refine (HVR.out _ (HX0.out.trans hx1.out)).mono ?_; rintro e w2 ⟨rfl, hx2⟩; have hx2 := Lib.hid hx2))
      rw [HR.out, HF.out]
      exact ⟨rfl, HX0.out.trans (hx1.out.trans hx2.out)⟩
    | true =>
      rw [hv] at hvr
      have hhead : headP p = (decide (p.needs.length ≤ 8) && (decide (p.conf.length ≤ 8) && (decide (p.files.length ≤ 12) && decide (p.units.length ≤ 4)))) := by unfold headP verR; rw [hn, hv]; rfl
      have HHD := Lib.hid hhead; clear hhead hn hv
      have HVR := Lib.hid hvr; clear hvr
      have hb1 := HX0.out
      by_cases l1 : p.needs.length ≤ 8
      case neg =>
        have l1b : decide ((8 : Int) < (p.needs.length : Int)) = true := decide_eq_true (by omega)
        have HF := Lib.hid (HST.out (by rw [HHD.out, decide_eq_false l1]; simp))
        go_enter Tryz.func10, Tryz.ntmps10
        go_wp2_with (first | (go_at_call 28; refine (HNM.out _ HX0.out).mono ?_; rintro e w1 ⟨rfl, hx1⟩; have kw11 : w1.cell? ⟨w.heap.size, 1, none⟩ = some (.string (bs p.ver)) := (hx1).cell (cell_new w _ _ 1 _ rfl); have hx1 := Lib.hid hx1) | (go_at_call 29; refine (HVR.out _ (HX0.out.trans hx1.out)).mono ?_; rintro e w2 ⟨rfl, hx2⟩; have kw22 : w2.cell? ⟨w.heap.size, 2, none⟩ = some (.slice an p.needs.length cn) := (hx1.out.trans hx2).cell (cell_new w _ _ 2 _ rfl); have kw23 : w2.cell? ⟨w.heap.size, 3, none⟩ = some (.slice ac p.conf.length cc) := (hx1.out.trans hx2).cell (cell_new w _ _ 3 _ rfl); have kw24 : w2.cell? ⟨w.heap.size, 4, none⟩ = some (.slice af p.files.length cf) := (hx1.out.trans hx2).cell (cell_new w _ _ 4 _ rfl); have kw25 : w2.cell? ⟨w.heap.size, 5, none⟩ = some (.slice au p.units.length cu) := (hx1.out.trans hx2).cell (cell_new w _ _ 5 _ rfl); have hx2 := Lib.hid hx2))
        rw [HR.out, HF.out]
        exact ⟨rfl, HX0.out.trans (hx1.out.trans hx2.out)⟩
      by_cases l2 : p.conf.length ≤ 8
      case neg =>
        have l2b : decide ((8 : Int) < (p.conf.length : Int)) = true := decide_eq_true (by omega)
        have l1b : decide ((8 : Int) < (p.needs.length : Int)) = false := decide_eq_false (by omega)
        have HF := Lib.hid (HST.out (by rw [HHD.out, decide_eq_false l2]; simp))
        go_enter Tryz.func10, Tryz.ntmps10
        go_wp2_with (first | (go_at_call 28; refine (HNM.out _ HX0.out).mono ?_; rintro e w1 ⟨rfl, hx1⟩; have kw11 : w1.cell? ⟨w.heap.size, 1, none⟩ = some (.string (bs p.ver)) := (hx1).cell (cell_new w _ _ 1 _ rfl); have hx1 := Lib.hid hx1) | (go_at_call 29; refine (HVR.out _ (HX0.out.trans hx1.out)).mono ?_; rintro e w2 ⟨rfl, hx2⟩; have kw22 : w2.cell? ⟨w.heap.size, 2, none⟩ = some (.slice an p.needs.length cn) := (hx1.out.trans hx2).cell (cell_new w _ _ 2 _ rfl); have kw23 : w2.cell? ⟨w.heap.size, 3, none⟩ = some (.slice ac p.conf.length cc) := (hx1.out.trans hx2).cell (cell_new w _ _ 3 _ rfl); have kw24 : w2.cell? ⟨w.heap.size, 4, none⟩ = some (.slice af p.files.length cf) := (hx1.out.trans hx2).cell (cell_new w _ _ 4 _ rfl); have kw25 : w2.cell? ⟨w.heap.size, 5, none⟩ = some (.slice au p.units.length cu) := (hx1.out.trans hx2).cell (cell_new w _ _ 5 _ rfl); have hx2 := Lib.hid hx2))
        rw [HR.out, HF.out]
        exact ⟨rfl, HX0.out.trans (hx1.out.trans hx2.out)⟩
      by_cases l3 : p.files.length ≤ 12
      case neg =>
        have l3b : decide ((12 : Int) < (p.files.length : Int)) = true := decide_eq_true (by omega)
        have l1b : decide ((8 : Int) < (p.needs.length : Int)) = false := decide_eq_false (by omega)
        have l2b : decide ((8 : Int) < (p.conf.length : Int)) = false := decide_eq_false (by omega)
        have HF := Lib.hid (HST.out (by rw [HHD.out, decide_eq_false l3]; simp))
        go_enter Tryz.func10, Tryz.ntmps10
        go_wp2_with (first | (go_at_call 28; refine (HNM.out _ HX0.out).mono ?_; rintro e w1 ⟨rfl, hx1⟩; have kw11 : w1.cell? ⟨w.heap.size, 1, none⟩ = some (.string (bs p.ver)) := (hx1).cell (cell_new w _ _ 1 _ rfl); have hx1 := Lib.hid hx1) | (go_at_call 29; refine (HVR.out _ (HX0.out.trans hx1.out)).mono ?_; rintro e w2 ⟨rfl, hx2⟩; have kw22 : w2.cell? ⟨w.heap.size, 2, none⟩ = some (.slice an p.needs.length cn) := (hx1.out.trans hx2).cell (cell_new w _ _ 2 _ rfl); have kw23 : w2.cell? ⟨w.heap.size, 3, none⟩ = some (.slice ac p.conf.length cc) := (hx1.out.trans hx2).cell (cell_new w _ _ 3 _ rfl); have kw24 : w2.cell? ⟨w.heap.size, 4, none⟩ = some (.slice af p.files.length cf) := (hx1.out.trans hx2).cell (cell_new w _ _ 4 _ rfl); have kw25 : w2.cell? ⟨w.heap.size, 5, none⟩ = some (.slice au p.units.length cu) := (hx1.out.trans hx2).cell (cell_new w _ _ 5 _ rfl); have hx2 := Lib.hid hx2))
        rw [HR.out, HF.out]
        exact ⟨rfl, HX0.out.trans (hx1.out.trans hx2.out)⟩
      by_cases l4 : p.units.length ≤ 4
      case neg =>
        have l4b : decide ((4 : Int) < (p.units.length : Int)) = true := decide_eq_true (by omega)
        have l1b : decide ((8 : Int) < (p.needs.length : Int)) = false := decide_eq_false (by omega)
        have l2b : decide ((8 : Int) < (p.conf.length : Int)) = false := decide_eq_false (by omega)
        have l3b : decide ((12 : Int) < (p.files.length : Int)) = false := decide_eq_false (by omega)
        have HF := Lib.hid (HST.out (by rw [HHD.out, decide_eq_false l4]; simp))
        go_enter Tryz.func10, Tryz.ntmps10
        go_wp2_with (first | (go_at_call 28; refine (HNM.out _ HX0.out).mono ?_; rintro e w1 ⟨rfl, hx1⟩; have kw11 : w1.cell? ⟨w.heap.size, 1, none⟩ = some (.string (bs p.ver)) := (hx1).cell (cell_new w _ _ 1 _ rfl); have hx1 := Lib.hid hx1) | (go_at_call 29; refine (HVR.out _ (HX0.out.trans hx1.out)).mono ?_; rintro e w2 ⟨rfl, hx2⟩; have kw22 : w2.cell? ⟨w.heap.size, 2, none⟩ = some (.slice an p.needs.length cn) := (hx1.out.trans hx2).cell (cell_new w _ _ 2 _ rfl); have kw23 : w2.cell? ⟨w.heap.size, 3, none⟩ = some (.slice ac p.conf.length cc) := (hx1.out.trans hx2).cell (cell_new w _ _ 3 _ rfl); have kw24 : w2.cell? ⟨w.heap.size, 4, none⟩ = some (.slice af p.files.length cf) := (hx1.out.trans hx2).cell (cell_new w _ _ 4 _ rfl); have kw25 : w2.cell? ⟨w.heap.size, 5, none⟩ = some (.slice au p.units.length cu) := (hx1.out.trans hx2).cell (cell_new w _ _ 5 _ rfl); have hx2 := Lib.hid hx2))
        rw [HR.out, HF.out]
        exact ⟨rfl, HX0.out.trans (hx1.out.trans hx2.out)⟩
      have l1b : decide ((8 : Int) < (p.needs.length : Int)) = false := decide_eq_false (by omega)
      have l2b : decide ((8 : Int) < (p.conf.length : Int)) = false := decide_eq_false (by omega)
      have l3b : decide ((12 : Int) < (p.files.length : Int)) = false := decide_eq_false (by omega)
      have l4b : decide ((4 : Int) < (p.units.length : Int)) = false := decide_eq_false (by omega)
      have HH : Hid (headP p = true) := Lib.hid (by rw [HHD.out, decide_eq_true l1, decide_eq_true l2, decide_eq_true l3, decide_eq_true l4]; rfl)
      have hrp : rightP p = (p.needs.all needR && (p.conf.all (confR p) && (p.units.all (fun s => decide (s.length ≤ 300)) && filesTo p.files p.files.length))) := by unfold rightP; rw [HH.out]; rfl
      have HRP := Lib.hid hrp; clear hrp HHD HST
      have hcn := fun W (k : Ext w W) => contains_need an p.needs cn W (hE.ext k) ⟨HM.out.needs.ext k, fun n hn => by have := (HS.out.needs n hn).2; omega⟩ (by omega)
      have hcc := fun W (k : Ext w W) (h : W.cell? ⟨w.heap.size, 0, none⟩ = some (.string (bs p.name))) => contains_conf ac p.conf cc p w.heap.size W (hE.ext k) ⟨HM.out.conf.ext k, h⟩ (by omega)
      have hcu := fun W (k : Ext w W) => contains_unit au p.units cu W (hE.ext k) ⟨HM.out.units.ext k, trivial⟩ (by omega)
      rw [← List.not_all_eq_any_not] at hcn hcc
      have hun : (p.units.any fun s : By => !decide (s.length ≤ 300)) = !p.units.all (fun s => decide (s.length ≤ 300)) := List.not_all_eq_any_not.symm
      rw [hun] at hcu
      clear hun
      cases a1 : p.needs.all needR with
      | false =>
        rw [a1] at hcn
        have HF : Hid (rightP p = false) := Lib.hid (by rw [HRP.out, a1]; rfl)
        have HCN := Lib.hid hcn; clear hcn hcc hcu a1
        go_enter Tryz.func10, Tryz.ntmps10
        go_wp2_with (first | (go_at_call 28; refine (HNM.out _ HX0.out).mono ?_; rintro e w1 ⟨rfl, hx1⟩; have kw11 : w1.cell? ⟨w.heap.size, 1, none⟩ = some (.string (bs p.ver)) := (hx1).cell (cell_new w _ _ 1 _ rfl); have hx1 := Lib.hid hx1) | (go_at_call 29; refine (HVR.out _ (HX0.out.trans hx1.out)).mono ?_; rintro e w2 ⟨rfl, hx2⟩; have kw22 : w2.cell? ⟨w.heap.size, 2, none⟩ = some (.slice an p.needs.length cn) := (hx1.out.trans hx2).cell (cell_new w _ _ 2 _ rfl); have kw23 : w2.cell? ⟨w.heap.size, 3, none⟩ = some (.slice ac p.conf.length cc) := (hx1.out.trans hx2).cell (cell_new w _ _ 3 _ rfl); have kw24 : w2.cell? ⟨w.heap.size, 4, none⟩ = some (.slice af p.files.length cf) := (hx1.out.trans hx2).cell (cell_new w _ _ 4 _ rfl); have kw25 : w2.cell? ⟨w.heap.size, 5, none⟩ = some (.slice au p.units.length cu) := (hx1.out.trans hx2).cell (cell_new w _ _ 5 _ rfl); have hx2 := Lib.hid hx2) | (go_at_call 30; refine (HCN.out _ (HX0.out.trans (hx1.out.trans hx2.out))).mono ?_; rintro e w3 ⟨rfl, hx3⟩; have kw30 : w3.cell? ⟨w.heap.size, 0, none⟩ = some (.string (bs p.name)) := (hx1.out.trans (hx2.out.trans hx3)).cell (cell_new w _ _ 0 _ rfl); have kw33 : w3.cell? ⟨w.heap.size, 3, none⟩ = some (.slice ac p.conf.length cc) := (hx1.out.trans (hx2.out.trans hx3)).cell (cell_new w _ _ 3 _ rfl); have hx3 := Lib.hid hx3))
        rw [HR.out, HF.out]
        exact ⟨rfl, HX0.out.trans (hx1.out.trans (hx2.out.trans hx3.out))⟩
      | true =>
        rw [a1] at hcn
        have HCN := Lib.hid hcn; clear hcn
        cases a2 : p.conf.all (confR p) with
        | false =>
          rw [a2] at hcc
          have HF : Hid (rightP p = false) := Lib.hid (by rw [HRP.out, a1, a2]; rfl)
          have HCC := Lib.hid hcc; clear hcc hcu a1 a2
          go_enter Tryz.func10, Tryz.ntmps10
          go_wp2_with (first | (go_at_call 28; refine (HNM.out _ HX0.out).mono ?_; rintro e w1 ⟨rfl, hx1⟩; have kw11 : w1.cell? ⟨w.heap.size, 1, none⟩ = some (.string (bs p.ver)) := (hx1).cell (cell_new w _ _ 1 _ rfl); have hx1 := Lib.hid hx1) | (go_at_call 29; refine (HVR.out _ (HX0.out.trans hx1.out)).mono ?_; rintro e w2 ⟨rfl, hx2⟩; have kw22 : w2.cell? ⟨w.heap.size, 2, none⟩ = some (.slice an p.needs.length cn) := (hx1.out.trans hx2).cell (cell_new w _ _ 2 _ rfl); have kw23 : w2.cell? ⟨w.heap.size, 3, none⟩ = some (.slice ac p.conf.length cc) := (hx1.out.trans hx2).cell (cell_new w _ _ 3 _ rfl); have kw24 : w2.cell? ⟨w.heap.size, 4, none⟩ = some (.slice af p.files.length cf) := (hx1.out.trans hx2).cell (cell_new w _ _ 4 _ rfl); have kw25 : w2.cell? ⟨w.heap.size, 5, none⟩ = some (.slice au p.units.length cu) := (hx1.out.trans hx2).cell (cell_new w _ _ 5 _ rfl); have hx2 := Lib.hid hx2) | (go_at_call 30; refine (HCN.out _ (HX0.out.trans (hx1.out.trans hx2.out))).mono ?_; rintro e w3 ⟨rfl, hx3⟩; have kw30 : w3.cell? ⟨w.heap.size, 0, none⟩ = some (.string (bs p.name)) := (hx1.out.trans (hx2.out.trans hx3)).cell (cell_new w _ _ 0 _ rfl); have kw33 : w3.cell? ⟨w.heap.size, 3, none⟩ = some (.slice ac p.conf.length cc) := (hx1.out.trans (hx2.out.trans hx3)).cell (cell_new w _ _ 3 _ rfl); have hx3 := Lib.hid hx3) | (go_at_call_of 33 (Value.slice ac p.conf.length cc); refine (HCC.out _ (HX0.out.trans (hx1.out.trans (hx2.out.trans hx3.out))) kw30).mono ?_; rintro e w4 ⟨rfl, hx4⟩; have kw45 : w4.cell? ⟨w.heap.size, 5, none⟩ = some (.slice au p.units.length cu) := (hx1.out.trans (hx2.out.trans (hx3.out.trans hx4))).cell (cell_new w _ _ 5 _ rfl); have hx4 := Lib.hid hx4))
          rw [HR.out, HF.out]
          exact ⟨rfl, HX0.out.trans (hx1.out.trans (hx2.out.trans (hx3.out.trans hx4.out)))⟩
        | true =>
          rw [a2] at hcc
          have HCC := Lib.hid hcc; clear hcc
          cases a3 : p.units.all (fun s => decide (s.length ≤ 300)) with
          | false =>
            rw [a3] at hcu
            have HF : Hid (rightP p = false) := Lib.hid (by rw [HRP.out, a1, a2, a3]; rfl)
            have HCU := Lib.hid hcu; clear hcu a1 a2 a3
            go_enter Tryz.func10, Tryz.ntmps10
            go_wp2_with (first | (go_at_call 28; refine (HNM.out _ HX0.out).mono ?_; rintro e w1 ⟨rfl, hx1⟩; have kw11 : w1.cell? ⟨w.heap.size, 1, none⟩ = some (.string (bs p.ver)) := (hx1).cell (cell_new w _ _ 1 _ rfl); have hx1 := Lib.hid hx1) | (go_at_call 29; refine (HVR.out _ (HX0.out.trans hx1.out)).mono ?_; rintro e w2 ⟨rfl, hx2⟩; have kw22 : w2.cell? ⟨w.heap.size, 2, none⟩ = some (.slice an p.needs.length cn) := (hx1.out.trans hx2).cell (cell_new w _ _ 2 _ rfl); have kw23 : w2.cell? ⟨w.heap.size, 3, none⟩ = some (.slice ac p.conf.length cc) := (hx1.out.trans hx2).cell (cell_new w _ _ 3 _ rfl); have kw24 : w2.cell? ⟨w.heap.size, 4, none⟩ = some (.slice af p.files.length cf) := (hx1.out.trans hx2).cell (cell_new w _ _ 4 _ rfl); have kw25 : w2.cell? ⟨w.heap.size, 5, none⟩ = some (.slice au p.units.length cu) := (hx1.out.trans hx2).cell (cell_new w _ _ 5 _ rfl); have hx2 := Lib.hid hx2) | (go_at_call 30; refine (HCN.out _ (HX0.out.trans (hx1.out.trans hx2.out))).mono ?_; rintro e w3 ⟨rfl, hx3⟩; have kw30 : w3.cell? ⟨w.heap.size, 0, none⟩ = some (.string (bs p.name)) := (hx1.out.trans (hx2.out.trans hx3)).cell (cell_new w _ _ 0 _ rfl); have kw33 : w3.cell? ⟨w.heap.size, 3, none⟩ = some (.slice ac p.conf.length cc) := (hx1.out.trans (hx2.out.trans hx3)).cell (cell_new w _ _ 3 _ rfl); have hx3 := Lib.hid hx3) | (go_at_call_of 33 (Value.slice ac p.conf.length cc); refine (HCC.out _ (HX0.out.trans (hx1.out.trans (hx2.out.trans hx3.out))) kw30).mono ?_; rintro e w4 ⟨rfl, hx4⟩; have kw45 : w4.cell? ⟨w.heap.size, 5, none⟩ = some (.slice au p.units.length cu) := (hx1.out.trans (hx2.out.trans (hx3.out.trans hx4))).cell (cell_new w _ _ 5 _ rfl); have hx4 := Lib.hid hx4) | (go_at_call_of 33 (Value.slice au p.units.length cu); refine (HCU.out _ (HX0.out.trans (hx1.out.trans (hx2.out.trans (hx3.out.trans hx4.out))))).mono ?_; rintro e w5 ⟨rfl, hx5⟩; have kw54 : w5.cell? ⟨w.heap.size, 4, none⟩ = some (.slice af p.files.length cf) := (hx1.out.trans (hx2.out.trans (hx3.out.trans (hx4.out.trans hx5)))).cell (cell_new w _ _ 4 _ rfl); have hx5 := Lib.hid hx5))
            rw [HR.out, HF.out]
            exact ⟨rfl, HX0.out.trans (hx1.out.trans (hx2.out.trans (hx3.out.trans (hx4.out.trans hx5.out))))⟩
          | true =>
            rw [a3] at hcu
            have HRF : Hid (rightP p = filesTo p.files p.files.length) := Lib.hid (by rw [HRP.out, a1, a2, a3]; rfl)
            have HCU := Lib.hid hcu; clear hcu a1 a2 a3 HRP
            go_enter Tryz.func10, Tryz.ntmps10
            go_wp2_with (first | (go_at_call 28; refine (HNM.out _ HX0.out).mono ?_; rintro e w1 ⟨rfl, hx1⟩; have kw11 : w1.cell? ⟨w.heap.size, 1, none⟩ = some (.string (bs p.ver)) := (hx1).cell (cell_new w _ _ 1 _ rfl); have hx1 := Lib.hid hx1) | (go_at_call 29; refine (HVR.out _ (HX0.out.trans hx1.out)).mono ?_; rintro e w2 ⟨rfl, hx2⟩; have kw22 : w2.cell? ⟨w.heap.size, 2, none⟩ = some (.slice an p.needs.length cn) := (hx1.out.trans hx2).cell (cell_new w _ _ 2 _ rfl); have kw23 : w2.cell? ⟨w.heap.size, 3, none⟩ = some (.slice ac p.conf.length cc) := (hx1.out.trans hx2).cell (cell_new w _ _ 3 _ rfl); have kw24 : w2.cell? ⟨w.heap.size, 4, none⟩ = some (.slice af p.files.length cf) := (hx1.out.trans hx2).cell (cell_new w _ _ 4 _ rfl); have kw25 : w2.cell? ⟨w.heap.size, 5, none⟩ = some (.slice au p.units.length cu) := (hx1.out.trans hx2).cell (cell_new w _ _ 5 _ rfl); have hx2 := Lib.hid hx2) | (go_at_call 30; refine (HCN.out _ (HX0.out.trans (hx1.out.trans hx2.out))).mono ?_; rintro e w3 ⟨rfl, hx3⟩; have kw30 : w3.cell? ⟨w.heap.size, 0, none⟩ = some (.string (bs p.name)) := (hx1.out.trans (hx2.out.trans hx3)).cell (cell_new w _ _ 0 _ rfl); have kw33 : w3.cell? ⟨w.heap.size, 3, none⟩ = some (.slice ac p.conf.length cc) := (hx1.out.trans (hx2.out.trans hx3)).cell (cell_new w _ _ 3 _ rfl); have hx3 := Lib.hid hx3) | (go_at_call_of 33 (Value.slice ac p.conf.length cc); refine (HCC.out _ (HX0.out.trans (hx1.out.trans (hx2.out.trans hx3.out))) kw30).mono ?_; rintro e w4 ⟨rfl, hx4⟩; have kw45 : w4.cell? ⟨w.heap.size, 5, none⟩ = some (.slice au p.units.length cu) := (hx1.out.trans (hx2.out.trans (hx3.out.trans hx4))).cell (cell_new w _ _ 5 _ rfl); have hx4 := Lib.hid hx4) | (go_at_call_of 33 (Value.slice au p.units.length cu); refine (HCU.out _ (HX0.out.trans (hx1.out.trans (hx2.out.trans (hx3.out.trans hx4.out))))).mono ?_; rintro e w5 ⟨rfl, hx5⟩; have kw54 : w5.cell? ⟨w.heap.size, 4, none⟩ = some (.slice af p.files.length cf) := (hx1.out.trans (hx2.out.trans (hx3.out.trans (hx4.out.trans hx5)))).cell (cell_new w _ _ 4 _ rfl); have hx5 := Lib.hid hx5))
            have HX5 := Lib.hid (HX0.out.trans (hx1.out.trans (hx2.out.trans (hx3.out.trans (hx4.out.trans hx5.out)))))
            have HB5 := Lib.hid (hx1.out.trans (hx2.out.trans (hx3.out.trans (hx4.out.trans hx5.out))))
            clear l1b l2b l3b l4b
            have hnf : p.files.length ≤ 12 := l3
            clear kw11 kw22 kw23 kw24 kw25 kw30 kw33 kw45 l1 l2 l3 l4
            have hgood : ∀ k, k < p.files.length → fileAt p.files k = false → rightP p = false := fun k hk h => by
              rw [HRF.out]
              exact filesTo_no hk h
            have HGO := Lib.hid hgood; clear hgood
            go_loopw [56] (fun i wr => ∃ k : Nat, i = .int .i64 k ∧ k ≤ p.files.length ∧ Hid (filesTo p.files k = true) ∧ Hid (Ext w5 wr)) (fun i _ => p.files.length - (intOf i).toNat)
            case atStart => exact ⟨0, rfl, Nat.zero_le _, Lib.hid rfl, Lib.hid (Ext.refl _)⟩
            case round =>
              obtain ⟨k, rfl, hk, hft, hx⟩ := hrel
              by_cases hlt : k < p.files.length
              · obtain ⟨g, off, rfl, _, h1, h2, dd, dc, h3, _, _⟩ := ((HM.out.files.ext HX5.out).ext hx.out).at hlt
                obtain ⟨m, hm⟩ : ∃ m, m = p.files.getD k fz := ⟨_, rfl⟩
                rw [← hm] at h1 h2 h3
                have HMM := Lib.hid hm; clear hm
                have hfm := ((HM.out.files.ext HX5.out).ext hx.out).take k
                have HFM := Lib.hid hfm; clear hfm
                have hbx : wr.cell? ⟨w.heap.size, 4, none⟩ = some (.slice (some ⟨g, off, none⟩) p.files.length cf) := hx.out.cell kw54
                have HBX := Lib.hid hbx; clear hbx
                go_upto_region 8 with fail
                have n0 := cell_new wr #[.string (bs m.path), .bool m.config, .slice dd m.data.length dc] 76 0 _ rfl
                have n1 := cell_new wr #[.string (bs m.path), .bool m.config, .slice dd m.data.length dc] 76 1 _ rfl
                have n2 := cell_new wr #[.string (bs m.path), .bool m.config, .slice dd m.data.length dc] 76 2 _ rfl
                have hz : Ext wr (wr.alloc (.cells #[.string (bs m.path), .bool m.config, .slice dd m.data.length dc] 76)) := Ext.alloc _ _
                obtain ⟨B, hB⟩ : ∃ B, B = wr.heap.size := ⟨_, rfl⟩
                rw [← hB] at n0 n1 n2 ⊢
                have HBB := Lib.hid hB; clear hB
                generalize wr.alloc (.cells #[.string (bs m.path), .bool m.config, .slice dd m.data.length dc] 76) = wz at n0 n1 n2 hz ⊢
                have q0 : ∀ W, Ext wz W → W.cell? ⟨B, 0, none⟩ = some (.string (bs m.path)) := fun W q => q.cell n0
                have q1 : ∀ W, Ext wz W → W.cell? ⟨B, 1, none⟩ = some (.bool m.config) := fun W q => q.cell n1
                have q2 : ∀ W, Ext wz W → W.cell? ⟨B, 2, none⟩ = some (.slice dd m.data.length dc) := fun W q => q.cell n2
                have q4 : ∀ W, Ext wz W → W.cell? ⟨w.heap.size, 4, none⟩ = some (.slice (some ⟨g, off, none⟩) p.files.length cf) := fun W q => (hz.trans q).cell HBX.out
                have HXZ := Lib.hid (HX5.out.trans (hx.out.trans hz))
                have HZ5 := Lib.hid (hx.out.trans hz)
                have hrt := fun W (q : Ext wz W) => arc_file m dd dc W ((hE.ext (HXZ.out.trans q)).env)
                have hin := fun W (q : Ext wz W) => contains_file (some ⟨g, off, none⟩) (p.files.take k) cf m.path B W (hE.ext (HXZ.out.trans q)) ⟨HFM.out.ext (hz.trans q), q.cell n0⟩ (by rw [List.length_take]; omega)
                rw [List.length_take, Nat.min_eq_left hk] at hin
                unfold fileV at hrt
                have hat : fileAt p.files k = (fileR m && ((decide (k = 0) || ltL (p.files.getD (k - 1) fz).path m.path) && !((p.files.take k).any fun g => withinL m.path g.path))) := by rw [HMM.out]; rfl
                have HAT := Lib.hid hat; clear hat n0 n1 n2 h1 h2 h3
                have hHZ := Lib.hid hz
                have hz0 : Ext wz wz.drew := (Ext.refl wz).drew
                have hkc : (k : Int) ≤ (cf : Int) := by omega
                cases hr : fileR m with
                | false =>
                  rw [hr] at hrt
                  have HF := Lib.hid (HGO.out k hlt (by rw [HAT.out, hr]; rfl))
                  have HRT := Lib.hid hrt; clear hrt hin hr hz
                  go_wp2_with fail
                  refine wp_region_noPanic ?_
                  refine wp_region_held_drew (S := fun w' => Ext wz w') (by kernel_rfl) hz0 (fun hHeld => ?_)
                  refine wpAnyH_take (i := 0) (v := ?v100) rfl (by kernel_rfl) (by kernel_rfl) (by kernel_rfl) (fun _ _ _ h => h) (Or.inl ⟨by kernel_rfl, ?hy100⟩) (by assumption) ?rest100
                  case hy100 => (intro wq hSw; (try dsimp only at hSw); first | (go_simp; done) | (go_simp; with_reducible rfl))
                  try simp only [List.getElem_toArray, List.getElem_cons_zero, Act.put, List.setIfInBounds_toArray, List.set_cons_zero, List.set_cons_succ]
                  refine wpAnyH_ready (rs := [1]) (by kernel_rfl) (by simp) ?_
                  refine AllReadyH.cons rfl (fun K hK => ?_) AllReadyH.nil
                  go_simp
                  (go_at_call 36; refine (HRT.out _ (by assumption)).mono ?_; rintro e w7 ⟨rfl, hx7⟩; have hS2 := Ext.trans (by assumption : Ext wz _) hx7)
                  go_wp2_with fail
                  refine hK.out _ _ (by assumption) (fun hHeld => ?_)
                  clear hK K
                  try simp only [List.getElem_toArray, List.getElem_cons_zero, List.getElem_cons_succ, Act.put, List.setIfInBounds_toArray, List.set_cons_zero, List.set_cons_succ]
                  refine wpAnyH_take (i := 2) (v := ?v102) rfl (by kernel_rfl) (by kernel_rfl) (by kernel_rfl) (fun _ _ _ h => h) (Or.inl ⟨by kernel_rfl, ?hy102⟩) (by assumption) ?rest102
                  case hy102 => (intro wq hSw; (try dsimp only at hSw); first | (go_simp; done) | (go_simp; with_reducible rfl))
                  try simp only [List.getElem_toArray, List.getElem_cons_zero, List.getElem_cons_succ, Act.put, List.setIfInBounds_toArray, List.set_cons_zero, List.set_cons_succ]
                  refine wpAnyH_take (i := 3) (v := ?v103) rfl (by kernel_rfl) (by kernel_rfl) (by kernel_rfl) (fun _ _ _ h => h) (Or.inl ⟨by kernel_rfl, ?hy103⟩) (by assumption) ?rest103
                  case hy103 => (intro wq hSw; (try dsimp only at hSw); first | (go_simp; done) | (go_simp; with_reducible rfl))
                  try simp only [List.getElem_toArray, List.getElem_cons_zero, List.getElem_cons_succ, Act.put, List.setIfInBounds_toArray, List.set_cons_zero, List.set_cons_succ]
                  refine wpAnyH_take (i := 4) (v := undef) rfl (by kernel_rfl) (by kernel_rfl) (by kernel_rfl) (fun _ _ _ h => h) (Or.inr ⟨by kernel_rfl, rfl⟩) (by assumption) ?_
                  try simp only [List.getElem_toArray, List.getElem_cons_zero, List.getElem_cons_succ, Act.put, List.setIfInBounds_toArray, List.set_cons_zero, List.set_cons_succ]
                  refine wpAnyH_take (i := 5) (v := undef) rfl (by kernel_rfl) (by kernel_rfl) (by kernel_rfl) (fun _ _ _ h => h) (Or.inr ⟨by kernel_rfl, rfl⟩) (by assumption) ?_
                  try simp only [List.getElem_toArray, List.getElem_cons_zero, List.getElem_cons_succ, Act.put, List.setIfInBounds_toArray, List.set_cons_zero, List.set_cons_succ]
                  refine wpAnyH_take (i := 6) (v := undef) rfl (by kernel_rfl) (by kernel_rfl) (by kernel_rfl) (fun _ _ _ h => h) (Or.inr ⟨by kernel_rfl, rfl⟩) (by assumption) ?_
                  try simp only [List.getElem_toArray, List.getElem_cons_zero, List.getElem_cons_succ, Act.put, List.setIfInBounds_toArray, List.set_cons_zero, List.set_cons_succ]
                  refine wpAnyH_take (i := 7) (v := undef) rfl (by kernel_rfl) (by kernel_rfl) (by kernel_rfl) (fun _ _ _ h => h) (Or.inr ⟨by kernel_rfl, rfl⟩) (by assumption) ?_
                  try simp only [List.getElem_toArray, List.getElem_cons_zero, List.getElem_cons_succ, Act.put, List.setIfInBounds_toArray, List.set_cons_zero, List.set_cons_succ]
                  refine wpAnyH_take (i := 8) (v := undef) rfl (by kernel_rfl) (by kernel_rfl) (by kernel_rfl) (fun _ _ _ h => h) (Or.inr ⟨by kernel_rfl, rfl⟩) (by assumption) ?_
                  try simp only [List.getElem_toArray, List.getElem_cons_zero, List.getElem_cons_succ, Act.put, List.setIfInBounds_toArray, List.set_cons_zero, List.set_cons_succ]
                  refine wpAnyH_take (i := 9) (v := undef) rfl (by kernel_rfl) (by kernel_rfl) (by kernel_rfl) (fun _ _ _ h => h) (Or.inr ⟨by kernel_rfl, rfl⟩) (by assumption) ?_
                  try simp only [List.getElem_toArray, List.getElem_cons_zero, List.getElem_cons_succ, Act.put, List.setIfInBounds_toArray, List.set_cons_zero, List.set_cons_succ]
                  refine wpAnyH_take (i := 10) (v := undef) rfl (by kernel_rfl) (by kernel_rfl) (by kernel_rfl) (fun _ _ _ h => h) (Or.inr ⟨by kernel_rfl, rfl⟩) (by assumption) ?_
                  try simp only [List.getElem_toArray, List.getElem_cons_zero, List.getElem_cons_succ, Act.put, List.setIfInBounds_toArray, List.set_cons_zero, List.set_cons_succ]
                  refine wpAnyH_take (i := 11) (v := undef) rfl (by kernel_rfl) (by kernel_rfl) (by kernel_rfl) (fun _ _ _ h => h) (Or.inr ⟨by kernel_rfl, rfl⟩) (by assumption) ?_
                  try simp only [List.getElem_toArray, List.getElem_cons_zero, List.getElem_cons_succ, Act.put, List.setIfInBounds_toArray, List.set_cons_zero, List.set_cons_succ]
                  refine wpAnyH_take (i := 12) (v := undef) rfl (by kernel_rfl) (by kernel_rfl) (by kernel_rfl) (fun _ _ _ h => h) (Or.inr ⟨by kernel_rfl, rfl⟩) (by assumption) ?_
                  try simp only [List.getElem_toArray, List.getElem_cons_zero, List.getElem_cons_succ, Act.put, List.setIfInBounds_toArray, List.set_cons_zero, List.set_cons_succ]
                  refine wpAnyH_take (i := 13) (v := undef) rfl (by kernel_rfl) (by kernel_rfl) (by kernel_rfl) (fun _ _ _ h => h) (Or.inr ⟨by kernel_rfl, rfl⟩) (by assumption) ?_
                  try simp only [List.getElem_toArray, List.getElem_cons_zero, List.getElem_cons_succ, Act.put, List.setIfInBounds_toArray, List.set_cons_zero, List.set_cons_succ]
                  refine wpAnyH_take (i := 14) (v := undef) rfl (by kernel_rfl) (by kernel_rfl) (by kernel_rfl) (fun _ _ _ h => h) (Or.inr ⟨by kernel_rfl, rfl⟩) (by assumption) ?_
                  try simp only [List.getElem_toArray, List.getElem_cons_zero, List.getElem_cons_succ, Act.put, List.setIfInBounds_toArray, List.set_cons_zero, List.set_cons_succ]
                  refine wpAnyH_take (i := 15) (v := undef) rfl (by kernel_rfl) (by kernel_rfl) (by kernel_rfl) (fun _ _ _ h => h) (Or.inr ⟨by kernel_rfl, rfl⟩) (by assumption) ?_
                  try simp only [List.getElem_toArray, List.getElem_cons_zero, List.getElem_cons_succ, Act.put, List.setIfInBounds_toArray, List.set_cons_zero, List.set_cons_succ]
                  refine wpAnyH_take (i := 16) (v := undef) rfl (by kernel_rfl) (by kernel_rfl) (by kernel_rfl) (fun _ _ _ h => h) (Or.inr ⟨by kernel_rfl, rfl⟩) (by assumption) ?_
                  try simp only [List.getElem_toArray, List.getElem_cons_zero, List.getElem_cons_succ, Act.put, List.setIfInBounds_toArray, List.set_cons_zero, List.set_cons_succ]
                  refine wpAnyH_take (i := 17) (v := undef) rfl (by kernel_rfl) (by kernel_rfl) (by kernel_rfl) (fun _ _ _ h => h) (Or.inr ⟨by kernel_rfl, rfl⟩) (by assumption) ?_
                  try simp only [List.getElem_toArray, List.getElem_cons_zero, List.getElem_cons_succ, Act.put, List.setIfInBounds_toArray, List.set_cons_zero, List.set_cons_succ]
                  refine wpAnyH_take (i := 18) (v := ?v118) rfl (by kernel_rfl) (by kernel_rfl) (by kernel_rfl) (fun _ _ _ h => h) (Or.inl ⟨by kernel_rfl, ?hy118⟩) (by assumption) ?rest118
                  case hy118 => (intro wq hSw; (try dsimp only at hSw); first | (go_simp; done) | (go_simp; with_reducible rfl))
                  try simp only [List.getElem_toArray, List.getElem_cons_zero, List.getElem_cons_succ, Act.put, List.setIfInBounds_toArray, List.set_cons_zero, List.set_cons_succ]
                  refine wpAnyH_take (i := 19) (v := ?v119) rfl (by kernel_rfl) (by kernel_rfl) (by kernel_rfl) (fun _ _ _ h => h) (Or.inl ⟨by kernel_rfl, ?hy119⟩) (by assumption) ?rest119
                  case hy119 => (intro wq hSw; (try dsimp only at hSw); first | (go_simp; done) | (go_simp; with_reducible rfl))
                  try simp only [List.getElem_toArray, List.getElem_cons_zero, List.getElem_cons_succ, Act.put, List.setIfInBounds_toArray, List.set_cons_zero, List.set_cons_succ]
                  refine wpAnyH_take (i := 20) (v := undef) rfl (by kernel_rfl) (by kernel_rfl) (by kernel_rfl) (fun _ _ _ h => h) (Or.inr ⟨by kernel_rfl, rfl⟩) (by assumption) ?_
                  try simp only [List.getElem_toArray, List.getElem_cons_zero, List.getElem_cons_succ, Act.put, List.setIfInBounds_toArray, List.set_cons_zero, List.set_cons_succ]
                  refine wpAnyH_take (i := 21) (v := undef) rfl (by kernel_rfl) (by kernel_rfl) (by kernel_rfl) (fun _ _ _ h => h) (Or.inr ⟨by kernel_rfl, rfl⟩) (by assumption) ?_
                  try simp only [List.getElem_toArray, List.getElem_cons_zero, List.getElem_cons_succ, Act.put, List.setIfInBounds_toArray, List.set_cons_zero, List.set_cons_succ]
                  refine wpAnyH_take (i := 22) (v := undef) rfl (by kernel_rfl) (by kernel_rfl) (by kernel_rfl) (fun _ _ _ h => h) (Or.inr ⟨by kernel_rfl, rfl⟩) (by assumption) ?_
                  try simp only [List.getElem_toArray, List.getElem_cons_zero, List.getElem_cons_succ, Act.put, List.setIfInBounds_toArray, List.set_cons_zero, List.set_cons_succ]
                  refine wpAnyH_take (i := 23) (v := undef) rfl (by kernel_rfl) (by kernel_rfl) (by kernel_rfl) (fun _ _ _ h => h) (Or.inr ⟨by kernel_rfl, rfl⟩) (by assumption) ?_
                  try simp only [List.getElem_toArray, List.getElem_cons_zero, List.getElem_cons_succ, Act.put, List.setIfInBounds_toArray, List.set_cons_zero, List.set_cons_succ]
                  refine wpAnyH_take (i := 24) (v := undef) rfl (by kernel_rfl) (by kernel_rfl) (by kernel_rfl) (fun _ _ _ h => h) (Or.inr ⟨by kernel_rfl, rfl⟩) (by assumption) ?_
                  try simp only [List.getElem_toArray, List.getElem_cons_zero, List.getElem_cons_succ, Act.put, List.setIfInBounds_toArray, List.set_cons_zero, List.set_cons_succ]
                  refine wpAnyH_take (i := 25) (v := undef) rfl (by kernel_rfl) (by kernel_rfl) (by kernel_rfl) (fun _ _ _ h => h) (Or.inr ⟨by kernel_rfl, rfl⟩) (by assumption) ?_
                  try simp only [List.getElem_toArray, List.getElem_cons_zero, List.getElem_cons_succ, Act.put, List.setIfInBounds_toArray, List.set_cons_zero, List.set_cons_succ]
                  refine wpAnyH_take (i := 26) (v := ?v126) rfl (by kernel_rfl) (by kernel_rfl) (by kernel_rfl) (fun _ _ _ h => h) (Or.inl ⟨by kernel_rfl, ?hy126⟩) (by assumption) ?rest126
                  case hy126 => (intro wq hSw; (try dsimp only at hSw); first | (go_simp; done) | (go_simp; with_reducible rfl))
                  try simp only [List.getElem_toArray, List.getElem_cons_zero, List.getElem_cons_succ, Act.put, List.setIfInBounds_toArray, List.set_cons_zero, List.set_cons_succ]
                  refine wpAnyH_done (by kernel_rfl) ?_ _
                  refine NoPanic.normal ?_
                  go_wp2_with fail
                  rw [HR.out, HF.out]
                  exact ⟨rfl, HXZ.out.trans (by assumption)⟩
                | true =>
                  rw [hr] at hrt
                  have HRT := Lib.hid hrt; clear hrt
                  cases hany : (p.files.take k).any (fun g => withinL m.path g.path) with
                  | true =>
                    rw [hany] at hin
                    have HF := Lib.hid (HGO.out k hlt (by rw [HAT.out, hany]; simp))
                    have HIN := Lib.hid hin; clear hin hany hr hz
                    by_cases hk0 : k = 0
                    · subst hk0
                      go_wp2_with fail
                      refine wp_region_noPanic ?_
                      refine wp_region_held_drew (S := fun w' => Ext wz w') (by kernel_rfl) hz0 (fun hHeld => ?_)
                      refine wpAnyH_take (i := 0) (v := ?v200) rfl (by kernel_rfl) (by kernel_rfl) (by kernel_rfl) (fun _ _ _ h => h) (Or.inl ⟨by kernel_rfl, ?hy200⟩) (by assumption) ?rest200
                      case hy200 => (intro wq hSw; (try dsimp only at hSw); first | (go_simp; done) | (go_simp; with_reducible rfl))
                      try simp only [List.getElem_toArray, List.getElem_cons_zero, Act.put, List.setIfInBounds_toArray, List.set_cons_zero, List.set_cons_succ]
                      refine wpAnyH_ready (rs := [1]) (by kernel_rfl) (by simp) ?_
                      refine AllReadyH.cons rfl (fun K hK => ?_) AllReadyH.nil
                      go_simp
                      (go_at_call 36; refine (HRT.out _ (by assumption)).mono ?_; rintro e w7 ⟨rfl, hx7⟩; have hS2 := Ext.trans (by assumption : Ext wz _) hx7)
                      go_wp2_with fail
                      refine hK.out _ _ (by assumption) (fun hHeld => ?_)
                      clear hK K
                      try simp only [List.getElem_toArray, List.getElem_cons_zero, List.getElem_cons_succ, Act.put, List.setIfInBounds_toArray, List.set_cons_zero, List.set_cons_succ]
                      refine wpAnyH_take (i := 2) (v := ?v202) rfl (by kernel_rfl) (by kernel_rfl) (by kernel_rfl) (fun _ _ _ h => h) (Or.inl ⟨by kernel_rfl, ?hy202⟩) (by assumption) ?rest202
                      case hy202 => (intro wq hSw; (try dsimp only at hSw); first | (go_simp; done) | (go_simp; with_reducible rfl))
                      try simp only [List.getElem_toArray, List.getElem_cons_zero, List.getElem_cons_succ, Act.put, List.setIfInBounds_toArray, List.set_cons_zero, List.set_cons_succ]
                      refine wpAnyH_take (i := 3) (v := ?v203) rfl (by kernel_rfl) (by kernel_rfl) (by kernel_rfl) (fun _ _ _ h => h) (Or.inl ⟨by kernel_rfl, ?hy203⟩) (by assumption) ?rest203
                      case hy203 => (intro wq hSw; (try dsimp only at hSw); first | (go_simp; done) | (go_simp; with_reducible rfl))
                      try simp only [List.getElem_toArray, List.getElem_cons_zero, List.getElem_cons_succ, Act.put, List.setIfInBounds_toArray, List.set_cons_zero, List.set_cons_succ]
                      refine wpAnyH_take (i := 4) (v := ?v204) rfl (by kernel_rfl) (by kernel_rfl) (by kernel_rfl) (fun _ _ _ h => h) (Or.inl ⟨by kernel_rfl, ?hy204⟩) (by assumption) ?rest204
                      case hy204 => (intro wq hSw; (try dsimp only at hSw); first | (go_simp; done) | (go_simp; with_reducible rfl))
                      try simp only [List.getElem_toArray, List.getElem_cons_zero, List.getElem_cons_succ, Act.put, List.setIfInBounds_toArray, List.set_cons_zero, List.set_cons_succ]
                      refine wpAnyH_take (i := 5) (v := ?v205) rfl (by kernel_rfl) (by kernel_rfl) (by kernel_rfl) (fun _ _ _ h => h) (Or.inl ⟨by kernel_rfl, ?hy205⟩) (by assumption) ?rest205
                      case hy205 => (intro wq hSw; (try dsimp only at hSw); first | (go_simp; done) | (go_simp; with_reducible rfl))
                      try simp only [List.getElem_toArray, List.getElem_cons_zero, List.getElem_cons_succ, Act.put, List.setIfInBounds_toArray, List.set_cons_zero, List.set_cons_succ]
                      refine wpAnyH_take (i := 6) (v := ?v206) rfl (by kernel_rfl) (by kernel_rfl) (by kernel_rfl) (fun _ _ _ h => h) (Or.inl ⟨by kernel_rfl, ?hy206⟩) (by assumption) ?rest206
                      case hy206 => (intro wq hSw; (try dsimp only at hSw); first | (go_simp; done) | (go_simp; with_reducible rfl))
                      try simp only [List.getElem_toArray, List.getElem_cons_zero, List.getElem_cons_succ, Act.put, List.setIfInBounds_toArray, List.set_cons_zero, List.set_cons_succ]
                      refine wpAnyH_take (i := 7) (v := undef) rfl (by kernel_rfl) (by kernel_rfl) (by kernel_rfl) (fun _ _ _ h => h) (Or.inr ⟨by kernel_rfl, rfl⟩) (by assumption) ?_
                      try simp only [List.getElem_toArray, List.getElem_cons_zero, List.getElem_cons_succ, Act.put, List.setIfInBounds_toArray, List.set_cons_zero, List.set_cons_succ]
                      refine wpAnyH_take (i := 8) (v := undef) rfl (by kernel_rfl) (by kernel_rfl) (by kernel_rfl) (fun _ _ _ h => h) (Or.inr ⟨by kernel_rfl, rfl⟩) (by assumption) ?_
                      try simp only [List.getElem_toArray, List.getElem_cons_zero, List.getElem_cons_succ, Act.put, List.setIfInBounds_toArray, List.set_cons_zero, List.set_cons_succ]
                      refine wpAnyH_take (i := 9) (v := undef) rfl (by kernel_rfl) (by kernel_rfl) (by kernel_rfl) (fun _ _ _ h => h) (Or.inr ⟨by kernel_rfl, rfl⟩) (by assumption) ?_
                      try simp only [List.getElem_toArray, List.getElem_cons_zero, List.getElem_cons_succ, Act.put, List.setIfInBounds_toArray, List.set_cons_zero, List.set_cons_succ]
                      refine wpAnyH_take (i := 10) (v := undef) rfl (by kernel_rfl) (by kernel_rfl) (by kernel_rfl) (fun _ _ _ h => h) (Or.inr ⟨by kernel_rfl, rfl⟩) (by assumption) ?_
                      try simp only [List.getElem_toArray, List.getElem_cons_zero, List.getElem_cons_succ, Act.put, List.setIfInBounds_toArray, List.set_cons_zero, List.set_cons_succ]
                      refine wpAnyH_take (i := 11) (v := undef) rfl (by kernel_rfl) (by kernel_rfl) (by kernel_rfl) (fun _ _ _ h => h) (Or.inr ⟨by kernel_rfl, rfl⟩) (by assumption) ?_
                      try simp only [List.getElem_toArray, List.getElem_cons_zero, List.getElem_cons_succ, Act.put, List.setIfInBounds_toArray, List.set_cons_zero, List.set_cons_succ]
                      refine wpAnyH_take (i := 12) (v := undef) rfl (by kernel_rfl) (by kernel_rfl) (by kernel_rfl) (fun _ _ _ h => h) (Or.inr ⟨by kernel_rfl, rfl⟩) (by assumption) ?_
                      try simp only [List.getElem_toArray, List.getElem_cons_zero, List.getElem_cons_succ, Act.put, List.setIfInBounds_toArray, List.set_cons_zero, List.set_cons_succ]
                      refine wpAnyH_take (i := 13) (v := undef) rfl (by kernel_rfl) (by kernel_rfl) (by kernel_rfl) (fun _ _ _ h => h) (Or.inr ⟨by kernel_rfl, rfl⟩) (by assumption) ?_
                      try simp only [List.getElem_toArray, List.getElem_cons_zero, List.getElem_cons_succ, Act.put, List.setIfInBounds_toArray, List.set_cons_zero, List.set_cons_succ]
                      refine wpAnyH_take (i := 14) (v := undef) rfl (by kernel_rfl) (by kernel_rfl) (by kernel_rfl) (fun _ _ _ h => h) (Or.inr ⟨by kernel_rfl, rfl⟩) (by assumption) ?_
                      try simp only [List.getElem_toArray, List.getElem_cons_zero, List.getElem_cons_succ, Act.put, List.setIfInBounds_toArray, List.set_cons_zero, List.set_cons_succ]
                      refine wpAnyH_take (i := 15) (v := undef) rfl (by kernel_rfl) (by kernel_rfl) (by kernel_rfl) (fun _ _ _ h => h) (Or.inr ⟨by kernel_rfl, rfl⟩) (by assumption) ?_
                      try simp only [List.getElem_toArray, List.getElem_cons_zero, List.getElem_cons_succ, Act.put, List.setIfInBounds_toArray, List.set_cons_zero, List.set_cons_succ]
                      refine wpAnyH_take (i := 16) (v := undef) rfl (by kernel_rfl) (by kernel_rfl) (by kernel_rfl) (fun _ _ _ h => h) (Or.inr ⟨by kernel_rfl, rfl⟩) (by assumption) ?_
                      try simp only [List.getElem_toArray, List.getElem_cons_zero, List.getElem_cons_succ, Act.put, List.setIfInBounds_toArray, List.set_cons_zero, List.set_cons_succ]
                      refine wpAnyH_take (i := 17) (v := ?v217) rfl (by kernel_rfl) (by kernel_rfl) (by kernel_rfl) (fun _ _ _ h => h) (Or.inl ⟨by kernel_rfl, ?hy217⟩) (by assumption) ?rest217
                      case hy217 => (intro wq hSw; (try dsimp only at hSw); first | (go_simp; done) | (go_simp; with_reducible rfl))
                      try simp only [List.getElem_toArray, List.getElem_cons_zero, List.getElem_cons_succ, Act.put, List.setIfInBounds_toArray, List.set_cons_zero, List.set_cons_succ]
                      refine wpAnyH_take (i := 18) (v := ?v218) rfl (by kernel_rfl) (by kernel_rfl) (by kernel_rfl) (fun _ _ _ h => h) (Or.inl ⟨by kernel_rfl, ?hy218⟩) (by assumption) ?rest218
                      case hy218 => (intro wq hSw; (try dsimp only at hSw); first | (go_simp; done) | (go_simp; with_reducible rfl))
                      try simp only [List.getElem_toArray, List.getElem_cons_zero, List.getElem_cons_succ, Act.put, List.setIfInBounds_toArray, List.set_cons_zero, List.set_cons_succ]
                      refine wpAnyH_take (i := 19) (v := ?v219) rfl (by kernel_rfl) (by kernel_rfl) (by kernel_rfl) (fun _ _ _ h => h) (Or.inl ⟨by kernel_rfl, ?hy219⟩) (by assumption) ?rest219
                      case hy219 => (intro wq hSw; (try dsimp only at hSw); first | (go_simp; done) | (go_simp; with_reducible rfl))
                      try simp only [List.getElem_toArray, List.getElem_cons_zero, List.getElem_cons_succ, Act.put, List.setIfInBounds_toArray, List.set_cons_zero, List.set_cons_succ]
                      refine wpAnyH_take (i := 20) (v := ?v220) rfl (by kernel_rfl) (by kernel_rfl) (by kernel_rfl) (fun _ _ _ h => h) (Or.inl ⟨by kernel_rfl, ?hy220⟩) (by assumption) ?rest220
                      case hy220 => (intro wq hSw; (try dsimp only at hSw); first | (go_simp; done) | (go_simp; with_reducible rfl))
                      try simp only [List.getElem_toArray, List.getElem_cons_zero, List.getElem_cons_succ, Act.put, List.setIfInBounds_toArray, List.set_cons_zero, List.set_cons_succ]
                      refine wpAnyH_take (i := 21) (v := ?v221) rfl (by kernel_rfl) (by kernel_rfl) (by kernel_rfl) (fun _ _ _ h => h) (Or.inl ⟨by kernel_rfl, ?hy221⟩) (by assumption) ?rest221
                      case hy221 => (intro wq hSw; (try dsimp only at hSw); first | (go_simp; done) | (go_simp; with_reducible rfl))
                      try simp only [List.getElem_toArray, List.getElem_cons_zero, List.getElem_cons_succ, Act.put, List.setIfInBounds_toArray, List.set_cons_zero, List.set_cons_succ]
                      refine wpAnyH_take (i := 22) (v := ?v222) rfl (by kernel_rfl) (by kernel_rfl) (by kernel_rfl) (fun _ _ _ h => h) (Or.inl ⟨by kernel_rfl, ?hy222⟩) (by assumption) ?rest222
                      case hy222 => (intro wq hSw; (try dsimp only at hSw); first | (go_simp; done) | (go_simp; with_reducible rfl))
                      try simp only [List.getElem_toArray, List.getElem_cons_zero, List.getElem_cons_succ, Act.put, List.setIfInBounds_toArray, List.set_cons_zero, List.set_cons_succ]
                      refine wpAnyH_take (i := 23) (v := ?v223) rfl (by kernel_rfl) (by kernel_rfl) (by kernel_rfl) (fun _ _ _ h => h) (Or.inl ⟨by kernel_rfl, ?hy223⟩) (by assumption) ?rest223
                      case hy223 => (intro wq hSw; (try dsimp only at hSw); first | (go_simp; done) | (go_simp; with_reducible rfl))
                      try simp only [List.getElem_toArray, List.getElem_cons_zero, List.getElem_cons_succ, Act.put, List.setIfInBounds_toArray, List.set_cons_zero, List.set_cons_succ]
                      refine wpAnyH_take (i := 24) (v := ?v224) rfl (by kernel_rfl) (by kernel_rfl) (by kernel_rfl) (fun _ _ _ h => h) (Or.inl ⟨by kernel_rfl, ?hy224⟩) (by assumption) ?rest224
                      case hy224 => (intro wq hSw; (try dsimp only at hSw); first | (go_simp; done) | (go_simp; with_reducible rfl))
                      try simp only [List.getElem_toArray, List.getElem_cons_zero, List.getElem_cons_succ, Act.put, List.setIfInBounds_toArray, List.set_cons_zero, List.set_cons_succ]
                      refine wpAnyH_ready (rs := [25]) (by kernel_rfl) (by simp) ?_
                      refine AllReadyH.cons rfl (fun K hK => ?_) AllReadyH.nil
                      go_simp
                      (go_at_call 37; refine (HIN.out _ (by assumption)).mono ?_; rintro e w7 ⟨rfl, hx7⟩; have hS2 := Ext.trans (by assumption : Ext wz _) hx7)
                      go_wp2_with fail
                      refine hK.out _ _ (by assumption) (fun hHeld => ?_)
                      clear hK K
                      try simp only [List.getElem_toArray, List.getElem_cons_zero, List.getElem_cons_succ, Act.put, List.setIfInBounds_toArray, List.set_cons_zero, List.set_cons_succ]
                      refine wpAnyH_take (i := 26) (v := ?v226) rfl (by kernel_rfl) (by kernel_rfl) (by kernel_rfl) (fun _ _ _ h => h) (Or.inl ⟨by kernel_rfl, ?hy226⟩) (by assumption) ?rest226
                      case hy226 => (intro wq hSw; (try dsimp only at hSw); first | (go_simp; done) | (go_simp; with_reducible rfl))
                      try simp only [List.getElem_toArray, List.getElem_cons_zero, List.getElem_cons_succ, Act.put, List.setIfInBounds_toArray, List.set_cons_zero, List.set_cons_succ]
                      refine wpAnyH_done (by kernel_rfl) ?_ _
                      refine NoPanic.normal ?_
                      go_wp2_with fail
                      rw [HR.out, HF.out]
                      exact ⟨rfl, HXZ.out.trans (by assumption)⟩
                    · obtain ⟨j, rfl⟩ : ∃ j, k = j + 1 := ⟨k - 1, by omega⟩
                      have hprev := ((HM.out.files.ext HX5.out).ext hx.out).at (i := j) (by omega)
                      obtain ⟨g2, off2, hgo, _, h1p, _⟩ := hprev
                      have hgo := Option.some.inj hgo
                      obtain ⟨rfl, rfl⟩ : g = g2 ∧ off = off2 := by constructor <;> (cases hgo; rfl)
                      obtain ⟨q, hq⟩ : ∃ q, q = p.files.getD j fz := ⟨_, rfl⟩
                      rw [← hq] at h1p
                      have q5 : ∀ W, Ext wz W → W.cell? ⟨g, off + j * 3, none⟩ = some (.string (bs q.path)) := fun W k => (hHZ.out.trans k).cell h1p
                      have hlq : Op.bytesLess (bs q.path).toList (bs m.path).toList = ltL q.path m.path := by rw [bs_toList, bs_toList]; exact less_ltL _ _
                      have hj0 : (0 : Int) ≤ (j : Int) := by omega
                      have hj1 : (j : Int) < (p.files.length : Int) := by omega
                      have hwr : IntKind.i64.wrap (j : Int) = (j : Int) := IntWalk.i64_in _ (by omega)
                      have hks0 : (0 : Int) ≤ (j : Int) + 1 := by omega
                      have hks1 : (j : Int) + 1 ≤ (cf : Int) := by omega
                      have hks2 : ((j : Int) + 1).toNat = j + 1 := by omega
                      have hwq : IntKind.i64.wrap ((j : Int) + 1 - 1) = (j : Int) := by rw [IntWalk.i64_in _ (by omega)]; omega
                      clear hgo h1p hk0
                      cases hlt2 : ltL q.path m.path with
                      | false =>
                        rw [hlt2] at hlq
                        have HF2 := HF
                        clear hq hlt2
                        go_wp2_with fail
                        refine wp_region_noPanic ?_
                        refine wp_region_held_drew (S := fun w' => Ext wz w') (by kernel_rfl) hz0 (fun hHeld => ?_)
                        refine wpAnyH_take (i := 0) (v := ?v300) rfl (by kernel_rfl) (by kernel_rfl) (by kernel_rfl) (fun _ _ _ h => h) (Or.inl ⟨by kernel_rfl, ?hy300⟩) (by assumption) ?rest300
                        case hy300 => (intro wq hSw; (try dsimp only at hSw); first | (go_simp; done) | (go_simp; with_reducible rfl))
                        try simp only [List.getElem_toArray, List.getElem_cons_zero, Act.put, List.setIfInBounds_toArray, List.set_cons_zero, List.set_cons_succ]
                        refine wpAnyH_ready (rs := [1]) (by kernel_rfl) (by simp) ?_
                        refine AllReadyH.cons rfl (fun K hK => ?_) AllReadyH.nil
                        go_simp
                        (go_at_call 36; refine (HRT.out _ (by assumption)).mono ?_; rintro e w7 ⟨rfl, hx7⟩; have hS2 := Ext.trans (by assumption : Ext wz _) hx7)
                        go_wp2_with fail
                        refine hK.out _ _ (by assumption) (fun hHeld => ?_)
                        clear hK K
                        try simp only [List.getElem_toArray, List.getElem_cons_zero, List.getElem_cons_succ, Act.put, List.setIfInBounds_toArray, List.set_cons_zero, List.set_cons_succ]
                        refine wpAnyH_take (i := 2) (v := ?v302) rfl (by kernel_rfl) (by kernel_rfl) (by kernel_rfl) (fun _ _ _ h => h) (Or.inl ⟨by kernel_rfl, ?hy302⟩) (by assumption) ?rest302
                        case hy302 => (intro wq hSw; (try dsimp only at hSw); first | (go_simp; done) | (go_simp; with_reducible rfl))
                        try simp only [List.getElem_toArray, List.getElem_cons_zero, List.getElem_cons_succ, Act.put, List.setIfInBounds_toArray, List.set_cons_zero, List.set_cons_succ]
                        refine wpAnyH_take (i := 3) (v := ?v303) rfl (by kernel_rfl) (by kernel_rfl) (by kernel_rfl) (fun _ _ _ h => h) (Or.inl ⟨by kernel_rfl, ?hy303⟩) (by assumption) ?rest303
                        case hy303 => (intro wq hSw; (try dsimp only at hSw); first | (go_simp; done) | (go_simp; with_reducible rfl))
                        try simp only [List.getElem_toArray, List.getElem_cons_zero, List.getElem_cons_succ, Act.put, List.setIfInBounds_toArray, List.set_cons_zero, List.set_cons_succ]
                        refine wpAnyH_take (i := 4) (v := ?v304) rfl (by kernel_rfl) (by kernel_rfl) (by kernel_rfl) (fun _ _ _ h => h) (Or.inl ⟨by kernel_rfl, ?hy304⟩) (by assumption) ?rest304
                        case hy304 => (intro wq hSw; (try dsimp only at hSw); first | (go_simp; done) | (go_simp; with_reducible rfl))
                        try simp only [List.getElem_toArray, List.getElem_cons_zero, List.getElem_cons_succ, Act.put, List.setIfInBounds_toArray, List.set_cons_zero, List.set_cons_succ]
                        refine wpAnyH_take (i := 5) (v := ?v305) rfl (by kernel_rfl) (by kernel_rfl) (by kernel_rfl) (fun _ _ _ h => h) (Or.inl ⟨by kernel_rfl, ?hy305⟩) (by assumption) ?rest305
                        case hy305 => (intro wq hSw; (try dsimp only at hSw); first | (go_simp; done) | (go_simp; with_reducible rfl))
                        try simp only [List.getElem_toArray, List.getElem_cons_zero, List.getElem_cons_succ, Act.put, List.setIfInBounds_toArray, List.set_cons_zero, List.set_cons_succ]
                        refine wpAnyH_take (i := 6) (v := ?v306) rfl (by kernel_rfl) (by kernel_rfl) (by kernel_rfl) (fun _ _ _ h => h) (Or.inl ⟨by kernel_rfl, ?hy306⟩) (by assumption) ?rest306
                        case hy306 => (intro wq hSw; (try dsimp only at hSw); first | (go_simp; done) | (go_simp; with_reducible rfl))
                        try simp only [List.getElem_toArray, List.getElem_cons_zero, List.getElem_cons_succ, Act.put, List.setIfInBounds_toArray, List.set_cons_zero, List.set_cons_succ]
                        refine wpAnyH_take (i := 7) (v := ?v307) rfl (by kernel_rfl) (by kernel_rfl) (by kernel_rfl) (fun _ _ _ h => h) (Or.inl ⟨by kernel_rfl, ?hy307⟩) (by assumption) ?rest307
                        case hy307 => (intro wq hSw; (try dsimp only at hSw); first | (go_simp; done) | (go_simp; with_reducible rfl))
                        try simp only [List.getElem_toArray, List.getElem_cons_zero, List.getElem_cons_succ, Act.put, List.setIfInBounds_toArray, List.set_cons_zero, List.set_cons_succ]
                        refine wpAnyH_take (i := 8) (v := ?v308) rfl (by kernel_rfl) (by kernel_rfl) (by kernel_rfl) (fun _ _ _ h => h) (Or.inl ⟨by kernel_rfl, ?hy308⟩) (by assumption) ?rest308
                        case hy308 => (intro wq hSw; (try dsimp only at hSw); first | (go_simp; done) | (go_simp; with_reducible rfl))
                        try simp only [List.getElem_toArray, List.getElem_cons_zero, List.getElem_cons_succ, Act.put, List.setIfInBounds_toArray, List.set_cons_zero, List.set_cons_succ]
                        refine wpAnyH_take (i := 9) (v := ?v309) rfl (by kernel_rfl) (by kernel_rfl) (by kernel_rfl) (fun _ _ _ h => h) (Or.inl ⟨by kernel_rfl, ?hy309⟩) (by assumption) ?rest309
                        case hy309 => (intro wq hSw; (try dsimp only at hSw); first | (go_simp; done) | (go_simp; with_reducible rfl))
                        try simp only [List.getElem_toArray, List.getElem_cons_zero, List.getElem_cons_succ, Act.put, List.setIfInBounds_toArray, List.set_cons_zero, List.set_cons_succ]
                        refine wpAnyH_take (i := 10) (v := ?v310) rfl (by kernel_rfl) (by kernel_rfl) (by kernel_rfl) (fun _ _ _ h => h) (Or.inl ⟨by kernel_rfl, ?hy310⟩) (by assumption) ?rest310
                        case hy310 => (intro wq hSw; (try dsimp only at hSw); first | (go_simp; done) | (go_simp; with_reducible rfl))
                        try simp only [List.getElem_toArray, List.getElem_cons_zero, List.getElem_cons_succ, Act.put, List.setIfInBounds_toArray, List.set_cons_zero, List.set_cons_succ]
                        refine wpAnyH_take (i := 11) (v := ?v311) rfl (by kernel_rfl) (by kernel_rfl) (by kernel_rfl) (fun _ _ _ h => h) (Or.inl ⟨by kernel_rfl, ?hy311⟩) (by assumption) ?rest311
                        case hy311 => (intro wq hSw; (try dsimp only at hSw); first | (go_simp; done) | (go_simp; with_reducible rfl))
                        try simp only [List.getElem_toArray, List.getElem_cons_zero, List.getElem_cons_succ, Act.put, List.setIfInBounds_toArray, List.set_cons_zero, List.set_cons_succ]
                        refine wpAnyH_take (i := 12) (v := ?v312) rfl (by kernel_rfl) (by kernel_rfl) (by kernel_rfl) (fun _ _ _ h => h) (Or.inl ⟨by kernel_rfl, ?hy312⟩) (by assumption) ?rest312
                        case hy312 => (intro wq hSw; (try dsimp only at hSw); first | (go_simp; done) | (go_simp; with_reducible rfl))
                        try simp only [List.getElem_toArray, List.getElem_cons_zero, List.getElem_cons_succ, Act.put, List.setIfInBounds_toArray, List.set_cons_zero, List.set_cons_succ]
                        refine wpAnyH_take (i := 13) (v := ?v313) rfl (by kernel_rfl) (by kernel_rfl) (by kernel_rfl) (fun _ _ _ h => h) (Or.inl ⟨by kernel_rfl, ?hy313⟩) (by assumption) ?rest313
                        case hy313 => (intro wq hSw; (try dsimp only at hSw); first | (go_simp; done) | (go_simp; with_reducible rfl))
                        try simp only [List.getElem_toArray, List.getElem_cons_zero, List.getElem_cons_succ, Act.put, List.setIfInBounds_toArray, List.set_cons_zero, List.set_cons_succ]
                        refine wpAnyH_take (i := 14) (v := ?v314) rfl (by kernel_rfl) (by kernel_rfl) (by kernel_rfl) (fun _ _ _ h => h) (Or.inl ⟨by kernel_rfl, ?hy314⟩) (by assumption) ?rest314
                        case hy314 => (intro wq hSw; (try dsimp only at hSw); first | (go_simp; done) | (go_simp; with_reducible rfl))
                        try simp only [List.getElem_toArray, List.getElem_cons_zero, List.getElem_cons_succ, Act.put, List.setIfInBounds_toArray, List.set_cons_zero, List.set_cons_succ]
                        refine wpAnyH_take (i := 15) (v := ?v315) rfl (by kernel_rfl) (by kernel_rfl) (by kernel_rfl) (fun _ _ _ h => h) (Or.inl ⟨by kernel_rfl, ?hy315⟩) (by assumption) ?rest315
                        case hy315 => (intro wq hSw; (try dsimp only at hSw); first | (go_simp; done) | (go_simp; with_reducible rfl))
                        try simp only [List.getElem_toArray, List.getElem_cons_zero, List.getElem_cons_succ, Act.put, List.setIfInBounds_toArray, List.set_cons_zero, List.set_cons_succ]
                        refine wpAnyH_take (i := 16) (v := ?v316) rfl (by kernel_rfl) (by kernel_rfl) (by kernel_rfl) (fun _ _ _ h => h) (Or.inl ⟨by kernel_rfl, ?hy316⟩) (by assumption) ?rest316
                        case hy316 => (intro wq hSw; (try dsimp only at hSw); first | (go_simp; done) | (go_simp; with_reducible rfl))
                        try simp only [List.getElem_toArray, List.getElem_cons_zero, List.getElem_cons_succ, Act.put, List.setIfInBounds_toArray, List.set_cons_zero, List.set_cons_succ]
                        refine wpAnyH_take (i := 17) (v := ?v317) rfl (by kernel_rfl) (by kernel_rfl) (by kernel_rfl) (fun _ _ _ h => h) (Or.inl ⟨by kernel_rfl, ?hy317⟩) (by assumption) ?rest317
                        case hy317 => (intro wq hSw; (try dsimp only at hSw); first | (go_simp; done) | (go_simp; with_reducible rfl))
                        try simp only [List.getElem_toArray, List.getElem_cons_zero, List.getElem_cons_succ, Act.put, List.setIfInBounds_toArray, List.set_cons_zero, List.set_cons_succ]
                        refine wpAnyH_take (i := 18) (v := ?v318) rfl (by kernel_rfl) (by kernel_rfl) (by kernel_rfl) (fun _ _ _ h => h) (Or.inl ⟨by kernel_rfl, ?hy318⟩) (by assumption) ?rest318
                        case hy318 => (intro wq hSw; (try dsimp only at hSw); first | (go_simp; done) | (go_simp; with_reducible rfl))
                        try simp only [List.getElem_toArray, List.getElem_cons_zero, List.getElem_cons_succ, Act.put, List.setIfInBounds_toArray, List.set_cons_zero, List.set_cons_succ]
                        refine wpAnyH_take (i := 19) (v := ?v319) rfl (by kernel_rfl) (by kernel_rfl) (by kernel_rfl) (fun _ _ _ h => h) (Or.inl ⟨by kernel_rfl, ?hy319⟩) (by assumption) ?rest319
                        case hy319 => (intro wq hSw; (try dsimp only at hSw); first | (go_simp; done) | (go_simp; with_reducible rfl))
                        try simp only [List.getElem_toArray, List.getElem_cons_zero, List.getElem_cons_succ, Act.put, List.setIfInBounds_toArray, List.set_cons_zero, List.set_cons_succ]
                        refine wpAnyH_take (i := 20) (v := undef) rfl (by kernel_rfl) (by kernel_rfl) (by kernel_rfl) (fun _ _ _ h => h) (Or.inr ⟨by kernel_rfl, rfl⟩) (by assumption) ?_
                        try simp only [List.getElem_toArray, List.getElem_cons_zero, List.getElem_cons_succ, Act.put, List.setIfInBounds_toArray, List.set_cons_zero, List.set_cons_succ]
                        refine wpAnyH_take (i := 21) (v := undef) rfl (by kernel_rfl) (by kernel_rfl) (by kernel_rfl) (fun _ _ _ h => h) (Or.inr ⟨by kernel_rfl, rfl⟩) (by assumption) ?_
                        try simp only [List.getElem_toArray, List.getElem_cons_zero, List.getElem_cons_succ, Act.put, List.setIfInBounds_toArray, List.set_cons_zero, List.set_cons_succ]
                        refine wpAnyH_take (i := 22) (v := undef) rfl (by kernel_rfl) (by kernel_rfl) (by kernel_rfl) (fun _ _ _ h => h) (Or.inr ⟨by kernel_rfl, rfl⟩) (by assumption) ?_
                        try simp only [List.getElem_toArray, List.getElem_cons_zero, List.getElem_cons_succ, Act.put, List.setIfInBounds_toArray, List.set_cons_zero, List.set_cons_succ]
                        refine wpAnyH_take (i := 23) (v := undef) rfl (by kernel_rfl) (by kernel_rfl) (by kernel_rfl) (fun _ _ _ h => h) (Or.inr ⟨by kernel_rfl, rfl⟩) (by assumption) ?_
                        try simp only [List.getElem_toArray, List.getElem_cons_zero, List.getElem_cons_succ, Act.put, List.setIfInBounds_toArray, List.set_cons_zero, List.set_cons_succ]
                        refine wpAnyH_take (i := 24) (v := undef) rfl (by kernel_rfl) (by kernel_rfl) (by kernel_rfl) (fun _ _ _ h => h) (Or.inr ⟨by kernel_rfl, rfl⟩) (by assumption) ?_
                        try simp only [List.getElem_toArray, List.getElem_cons_zero, List.getElem_cons_succ, Act.put, List.setIfInBounds_toArray, List.set_cons_zero, List.set_cons_succ]
                        refine wpAnyH_take (i := 25) (v := undef) rfl (by kernel_rfl) (by kernel_rfl) (by kernel_rfl) (fun _ _ _ h => h) (Or.inr ⟨by kernel_rfl, rfl⟩) (by assumption) ?_
                        try simp only [List.getElem_toArray, List.getElem_cons_zero, List.getElem_cons_succ, Act.put, List.setIfInBounds_toArray, List.set_cons_zero, List.set_cons_succ]
                        refine wpAnyH_take (i := 26) (v := ?v326) rfl (by kernel_rfl) (by kernel_rfl) (by kernel_rfl) (fun _ _ _ h => h) (Or.inl ⟨by kernel_rfl, ?hy326⟩) (by assumption) ?rest326
                        case hy326 => (intro wq hSw; (try dsimp only at hSw); first | (go_simp; done) | (go_simp; with_reducible rfl))
                        try simp only [List.getElem_toArray, List.getElem_cons_zero, List.getElem_cons_succ, Act.put, List.setIfInBounds_toArray, List.set_cons_zero, List.set_cons_succ]
                        refine wpAnyH_done (by kernel_rfl) ?_ _
                        refine NoPanic.normal ?_
                        go_wp2_with fail
                        rw [HR.out, HF2.out]
                        exact ⟨rfl, HXZ.out.trans (by assumption)⟩
                      | true =>
                        rw [hlt2] at hlq
                        clear hq hlt2
                        go_wp2_with fail
                        go_region_held3 (fun w' => Ext wz w') (first | exact hz0 | assumption)
                          (first | (go_at_call 36; refine (HRT.out _ (by assumption)).mono ?_; rintro e w7 ⟨rfl, hx7⟩; have hS2 := Ext.trans (by assumption : Ext wz _) hx7) | (go_at_call 37; refine (HIN.out _ (by assumption)).mono ?_; rintro e w7 ⟨rfl, hx7⟩; have hS2 := Ext.trans (by assumption : Ext wz _) hx7))
                        all_goals
                          go_wp2_with fail
                          rw [HR.out, HF.out]
                          exact ⟨rfl, HXZ.out.trans (by assumption)⟩
                  | false =>
                    rw [hany] at hin
                    have HA2 : Hid (fileAt p.files k = (decide (k = 0) || ltL (p.files.getD (k - 1) fz).path m.path)) := Lib.hid (by rw [HAT.out, hr, hany]; simp)
                    have HIN := Lib.hid hin; clear hin hany hr hz
                    by_cases hk0 : k = 0
                    · subst hk0
                      have HLT := Lib.hid trivial
                      go_wp2_with fail
                      refine wp_region_noPanic ?_
                      refine wp_region_held_drew (S := fun w' => Ext wz w') (by kernel_rfl) hz0 (fun hHeld => ?_)
                      refine wpAnyH_take (i := 0) (v := ?v400) rfl (by kernel_rfl) (by kernel_rfl) (by kernel_rfl) (fun _ _ _ h => h) (Or.inl ⟨by kernel_rfl, ?hy400⟩) (by assumption) ?rest400
                      case hy400 => (intro wq hSw; (try dsimp only at hSw); first | (go_simp; done) | (go_simp; with_reducible rfl))
                      try simp only [List.getElem_toArray, List.getElem_cons_zero, Act.put, List.setIfInBounds_toArray, List.set_cons_zero, List.set_cons_succ]
                      refine wpAnyH_ready (rs := [1]) (by kernel_rfl) (by simp) ?_
                      refine AllReadyH.cons rfl (fun K hK => ?_) AllReadyH.nil
                      go_simp
                      (go_at_call 36; refine (HRT.out _ (by assumption)).mono ?_; rintro e w7 ⟨rfl, hx7⟩; have hS2 := Ext.trans (by assumption : Ext wz _) hx7)
                      go_wp2_with fail
                      refine hK.out _ _ (by assumption) (fun hHeld => ?_)
                      clear hK K
                      try simp only [List.getElem_toArray, List.getElem_cons_zero, List.getElem_cons_succ, Act.put, List.setIfInBounds_toArray, List.set_cons_zero, List.set_cons_succ]
                      refine wpAnyH_take (i := 2) (v := ?v402) rfl (by kernel_rfl) (by kernel_rfl) (by kernel_rfl) (fun _ _ _ h => h) (Or.inl ⟨by kernel_rfl, ?hy402⟩) (by assumption) ?rest402
                      case hy402 => (intro wq hSw; (try dsimp only at hSw); first | (go_simp; done) | (go_simp; with_reducible rfl))
                      try simp only [List.getElem_toArray, List.getElem_cons_zero, List.getElem_cons_succ, Act.put, List.setIfInBounds_toArray, List.set_cons_zero, List.set_cons_succ]
                      refine wpAnyH_take (i := 3) (v := ?v403) rfl (by kernel_rfl) (by kernel_rfl) (by kernel_rfl) (fun _ _ _ h => h) (Or.inl ⟨by kernel_rfl, ?hy403⟩) (by assumption) ?rest403
                      case hy403 => (intro wq hSw; (try dsimp only at hSw); first | (go_simp; done) | (go_simp; with_reducible rfl))
                      try simp only [List.getElem_toArray, List.getElem_cons_zero, List.getElem_cons_succ, Act.put, List.setIfInBounds_toArray, List.set_cons_zero, List.set_cons_succ]
                      refine wpAnyH_take (i := 4) (v := ?v404) rfl (by kernel_rfl) (by kernel_rfl) (by kernel_rfl) (fun _ _ _ h => h) (Or.inl ⟨by kernel_rfl, ?hy404⟩) (by assumption) ?rest404
                      case hy404 => (intro wq hSw; (try dsimp only at hSw); first | (go_simp; done) | (go_simp; with_reducible rfl))
                      try simp only [List.getElem_toArray, List.getElem_cons_zero, List.getElem_cons_succ, Act.put, List.setIfInBounds_toArray, List.set_cons_zero, List.set_cons_succ]
                      refine wpAnyH_take (i := 5) (v := ?v405) rfl (by kernel_rfl) (by kernel_rfl) (by kernel_rfl) (fun _ _ _ h => h) (Or.inl ⟨by kernel_rfl, ?hy405⟩) (by assumption) ?rest405
                      case hy405 => (intro wq hSw; (try dsimp only at hSw); first | (go_simp; done) | (go_simp; with_reducible rfl))
                      try simp only [List.getElem_toArray, List.getElem_cons_zero, List.getElem_cons_succ, Act.put, List.setIfInBounds_toArray, List.set_cons_zero, List.set_cons_succ]
                      refine wpAnyH_take (i := 6) (v := ?v406) rfl (by kernel_rfl) (by kernel_rfl) (by kernel_rfl) (fun _ _ _ h => h) (Or.inl ⟨by kernel_rfl, ?hy406⟩) (by assumption) ?rest406
                      case hy406 => (intro wq hSw; (try dsimp only at hSw); first | (go_simp; done) | (go_simp; with_reducible rfl))
                      try simp only [List.getElem_toArray, List.getElem_cons_zero, List.getElem_cons_succ, Act.put, List.setIfInBounds_toArray, List.set_cons_zero, List.set_cons_succ]
                      refine wpAnyH_take (i := 7) (v := undef) rfl (by kernel_rfl) (by kernel_rfl) (by kernel_rfl) (fun _ _ _ h => h) (Or.inr ⟨by kernel_rfl, rfl⟩) (by assumption) ?_
                      try simp only [List.getElem_toArray, List.getElem_cons_zero, List.getElem_cons_succ, Act.put, List.setIfInBounds_toArray, List.set_cons_zero, List.set_cons_succ]
                      refine wpAnyH_take (i := 8) (v := undef) rfl (by kernel_rfl) (by kernel_rfl) (by kernel_rfl) (fun _ _ _ h => h) (Or.inr ⟨by kernel_rfl, rfl⟩) (by assumption) ?_
                      try simp only [List.getElem_toArray, List.getElem_cons_zero, List.getElem_cons_succ, Act.put, List.setIfInBounds_toArray, List.set_cons_zero, List.set_cons_succ]
                      refine wpAnyH_take (i := 9) (v := undef) rfl (by kernel_rfl) (by kernel_rfl) (by kernel_rfl) (fun _ _ _ h => h) (Or.inr ⟨by kernel_rfl, rfl⟩) (by assumption) ?_
                      try simp only [List.getElem_toArray, List.getElem_cons_zero, List.getElem_cons_succ, Act.put, List.setIfInBounds_toArray, List.set_cons_zero, List.set_cons_succ]
                      refine wpAnyH_take (i := 10) (v := undef) rfl (by kernel_rfl) (by kernel_rfl) (by kernel_rfl) (fun _ _ _ h => h) (Or.inr ⟨by kernel_rfl, rfl⟩) (by assumption) ?_
                      try simp only [List.getElem_toArray, List.getElem_cons_zero, List.getElem_cons_succ, Act.put, List.setIfInBounds_toArray, List.set_cons_zero, List.set_cons_succ]
                      refine wpAnyH_take (i := 11) (v := undef) rfl (by kernel_rfl) (by kernel_rfl) (by kernel_rfl) (fun _ _ _ h => h) (Or.inr ⟨by kernel_rfl, rfl⟩) (by assumption) ?_
                      try simp only [List.getElem_toArray, List.getElem_cons_zero, List.getElem_cons_succ, Act.put, List.setIfInBounds_toArray, List.set_cons_zero, List.set_cons_succ]
                      refine wpAnyH_take (i := 12) (v := undef) rfl (by kernel_rfl) (by kernel_rfl) (by kernel_rfl) (fun _ _ _ h => h) (Or.inr ⟨by kernel_rfl, rfl⟩) (by assumption) ?_
                      try simp only [List.getElem_toArray, List.getElem_cons_zero, List.getElem_cons_succ, Act.put, List.setIfInBounds_toArray, List.set_cons_zero, List.set_cons_succ]
                      refine wpAnyH_take (i := 13) (v := undef) rfl (by kernel_rfl) (by kernel_rfl) (by kernel_rfl) (fun _ _ _ h => h) (Or.inr ⟨by kernel_rfl, rfl⟩) (by assumption) ?_
                      try simp only [List.getElem_toArray, List.getElem_cons_zero, List.getElem_cons_succ, Act.put, List.setIfInBounds_toArray, List.set_cons_zero, List.set_cons_succ]
                      refine wpAnyH_take (i := 14) (v := undef) rfl (by kernel_rfl) (by kernel_rfl) (by kernel_rfl) (fun _ _ _ h => h) (Or.inr ⟨by kernel_rfl, rfl⟩) (by assumption) ?_
                      try simp only [List.getElem_toArray, List.getElem_cons_zero, List.getElem_cons_succ, Act.put, List.setIfInBounds_toArray, List.set_cons_zero, List.set_cons_succ]
                      refine wpAnyH_take (i := 15) (v := undef) rfl (by kernel_rfl) (by kernel_rfl) (by kernel_rfl) (fun _ _ _ h => h) (Or.inr ⟨by kernel_rfl, rfl⟩) (by assumption) ?_
                      try simp only [List.getElem_toArray, List.getElem_cons_zero, List.getElem_cons_succ, Act.put, List.setIfInBounds_toArray, List.set_cons_zero, List.set_cons_succ]
                      refine wpAnyH_take (i := 16) (v := undef) rfl (by kernel_rfl) (by kernel_rfl) (by kernel_rfl) (fun _ _ _ h => h) (Or.inr ⟨by kernel_rfl, rfl⟩) (by assumption) ?_
                      try simp only [List.getElem_toArray, List.getElem_cons_zero, List.getElem_cons_succ, Act.put, List.setIfInBounds_toArray, List.set_cons_zero, List.set_cons_succ]
                      refine wpAnyH_take (i := 17) (v := ?v417) rfl (by kernel_rfl) (by kernel_rfl) (by kernel_rfl) (fun _ _ _ h => h) (Or.inl ⟨by kernel_rfl, ?hy417⟩) (by assumption) ?rest417
                      case hy417 => (intro wq hSw; (try dsimp only at hSw); first | (go_simp; done) | (go_simp; with_reducible rfl))
                      try simp only [List.getElem_toArray, List.getElem_cons_zero, List.getElem_cons_succ, Act.put, List.setIfInBounds_toArray, List.set_cons_zero, List.set_cons_succ]
                      refine wpAnyH_take (i := 18) (v := ?v418) rfl (by kernel_rfl) (by kernel_rfl) (by kernel_rfl) (fun _ _ _ h => h) (Or.inl ⟨by kernel_rfl, ?hy418⟩) (by assumption) ?rest418
                      case hy418 => (intro wq hSw; (try dsimp only at hSw); first | (go_simp; done) | (go_simp; with_reducible rfl))
                      try simp only [List.getElem_toArray, List.getElem_cons_zero, List.getElem_cons_succ, Act.put, List.setIfInBounds_toArray, List.set_cons_zero, List.set_cons_succ]
                      refine wpAnyH_take (i := 19) (v := ?v419) rfl (by kernel_rfl) (by kernel_rfl) (by kernel_rfl) (fun _ _ _ h => h) (Or.inl ⟨by kernel_rfl, ?hy419⟩) (by assumption) ?rest419
                      case hy419 => (intro wq hSw; (try dsimp only at hSw); first | (go_simp; done) | (go_simp; with_reducible rfl))
                      try simp only [List.getElem_toArray, List.getElem_cons_zero, List.getElem_cons_succ, Act.put, List.setIfInBounds_toArray, List.set_cons_zero, List.set_cons_succ]
                      refine wpAnyH_take (i := 20) (v := ?v420) rfl (by kernel_rfl) (by kernel_rfl) (by kernel_rfl) (fun _ _ _ h => h) (Or.inl ⟨by kernel_rfl, ?hy420⟩) (by assumption) ?rest420
                      case hy420 => (intro wq hSw; (try dsimp only at hSw); first | (go_simp; done) | (go_simp; with_reducible rfl))
                      try simp only [List.getElem_toArray, List.getElem_cons_zero, List.getElem_cons_succ, Act.put, List.setIfInBounds_toArray, List.set_cons_zero, List.set_cons_succ]
                      refine wpAnyH_take (i := 21) (v := ?v421) rfl (by kernel_rfl) (by kernel_rfl) (by kernel_rfl) (fun _ _ _ h => h) (Or.inl ⟨by kernel_rfl, ?hy421⟩) (by assumption) ?rest421
                      case hy421 => (intro wq hSw; (try dsimp only at hSw); first | (go_simp; done) | (go_simp; with_reducible rfl))
                      try simp only [List.getElem_toArray, List.getElem_cons_zero, List.getElem_cons_succ, Act.put, List.setIfInBounds_toArray, List.set_cons_zero, List.set_cons_succ]
                      refine wpAnyH_take (i := 22) (v := ?v422) rfl (by kernel_rfl) (by kernel_rfl) (by kernel_rfl) (fun _ _ _ h => h) (Or.inl ⟨by kernel_rfl, ?hy422⟩) (by assumption) ?rest422
                      case hy422 => (intro wq hSw; (try dsimp only at hSw); first | (go_simp; done) | (go_simp; with_reducible rfl))
                      try simp only [List.getElem_toArray, List.getElem_cons_zero, List.getElem_cons_succ, Act.put, List.setIfInBounds_toArray, List.set_cons_zero, List.set_cons_succ]
                      refine wpAnyH_take (i := 23) (v := ?v423) rfl (by kernel_rfl) (by kernel_rfl) (by kernel_rfl) (fun _ _ _ h => h) (Or.inl ⟨by kernel_rfl, ?hy423⟩) (by assumption) ?rest423
                      case hy423 => (intro wq hSw; (try dsimp only at hSw); first | (go_simp; done) | (go_simp; with_reducible rfl))
                      try simp only [List.getElem_toArray, List.getElem_cons_zero, List.getElem_cons_succ, Act.put, List.setIfInBounds_toArray, List.set_cons_zero, List.set_cons_succ]
                      refine wpAnyH_take (i := 24) (v := ?v424) rfl (by kernel_rfl) (by kernel_rfl) (by kernel_rfl) (fun _ _ _ h => h) (Or.inl ⟨by kernel_rfl, ?hy424⟩) (by assumption) ?rest424
                      case hy424 => (intro wq hSw; (try dsimp only at hSw); first | (go_simp; done) | (go_simp; with_reducible rfl))
                      try simp only [List.getElem_toArray, List.getElem_cons_zero, List.getElem_cons_succ, Act.put, List.setIfInBounds_toArray, List.set_cons_zero, List.set_cons_succ]
                      refine wpAnyH_ready (rs := [25]) (by kernel_rfl) (by simp) ?_
                      refine AllReadyH.cons rfl (fun K hK => ?_) AllReadyH.nil
                      go_simp
                      (go_at_call 37; refine (HIN.out _ (by assumption)).mono ?_; rintro e w7 ⟨rfl, hx7⟩; have hS2 := Ext.trans (by assumption : Ext wz _) hx7)
                      go_wp2_with fail
                      refine hK.out _ _ (by assumption) (fun hHeld => ?_)
                      clear hK K
                      try simp only [List.getElem_toArray, List.getElem_cons_zero, List.getElem_cons_succ, Act.put, List.setIfInBounds_toArray, List.set_cons_zero, List.set_cons_succ]
                      refine wpAnyH_take (i := 26) (v := ?v426) rfl (by kernel_rfl) (by kernel_rfl) (by kernel_rfl) (fun _ _ _ h => h) (Or.inl ⟨by kernel_rfl, ?hy426⟩) (by assumption) ?rest426
                      case hy426 => (intro wq hSw; (try dsimp only at hSw); first | (go_simp; done) | (go_simp; with_reducible rfl))
                      try simp only [List.getElem_toArray, List.getElem_cons_zero, List.getElem_cons_succ, Act.put, List.setIfInBounds_toArray, List.set_cons_zero, List.set_cons_succ]
                      refine wpAnyH_done (by kernel_rfl) ?_ _
                      refine NoPanic.normal ?_
                      go_wp2_with fail
                      go_roundw
                      case rel => exact ⟨0 + 1, by go_num, by omega, Lib.hid (by rw [filesTo_succ, hft.out, HA2.out]; first | (rw [HLT.out]; simp; done) | rfl), Lib.hid (HZ5.out.trans (by assumption))⟩
                      case measure => simp [intOf]; omega
                    · obtain ⟨j, rfl⟩ : ∃ j, k = j + 1 := ⟨k - 1, by omega⟩
                      have hprev := ((HM.out.files.ext HX5.out).ext hx.out).at (i := j) (by omega)
                      obtain ⟨g2, off2, hgo, _, h1p, _⟩ := hprev
                      have hgo := Option.some.inj hgo
                      obtain ⟨rfl, rfl⟩ : g = g2 ∧ off = off2 := by constructor <;> (cases hgo; rfl)
                      obtain ⟨q, hq⟩ : ∃ q, q = p.files.getD j fz := ⟨_, rfl⟩
                      rw [← hq] at h1p
                      have q5 : ∀ W, Ext wz W → W.cell? ⟨g, off + j * 3, none⟩ = some (.string (bs q.path)) := fun W k => (hHZ.out.trans k).cell h1p
                      have hlq : Op.bytesLess (bs q.path).toList (bs m.path).toList = ltL q.path m.path := by rw [bs_toList, bs_toList]; exact less_ltL _ _
                      have hj0 : (0 : Int) ≤ (j : Int) := by omega
                      have hj1 : (j : Int) < (p.files.length : Int) := by omega
                      have hwr : IntKind.i64.wrap (j : Int) = (j : Int) := IntWalk.i64_in _ (by omega)
                      have hks0 : (0 : Int) ≤ (j : Int) + 1 := by omega
                      have hks1 : (j : Int) + 1 ≤ (cf : Int) := by omega
                      have hks2 : ((j : Int) + 1).toNat = j + 1 := by omega
                      have hwq : IntKind.i64.wrap ((j : Int) + 1 - 1) = (j : Int) := by rw [IntWalk.i64_in _ (by omega)]; omega
                      clear hgo h1p hk0
                      cases hlt2 : ltL q.path m.path with
                      | false =>
                        rw [hlt2] at hlq
                        have HF2 := Lib.hid (HGO.out (j + 1) hlt (by rw [HA2.out, Nat.add_sub_cancel, ← hq, hlt2]; simp))
                        clear hq hlt2
                        go_wp2_with fail
                        refine wp_region_noPanic ?_
                        refine wp_region_held_drew (S := fun w' => Ext wz w') (by kernel_rfl) hz0 (fun hHeld => ?_)
                        refine wpAnyH_take (i := 0) (v := ?v500) rfl (by kernel_rfl) (by kernel_rfl) (by kernel_rfl) (fun _ _ _ h => h) (Or.inl ⟨by kernel_rfl, ?hy500⟩) (by assumption) ?rest500
                        case hy500 => (intro wq hSw; (try dsimp only at hSw); first | (go_simp; done) | (go_simp; with_reducible rfl))
                        try simp only [List.getElem_toArray, List.getElem_cons_zero, Act.put, List.setIfInBounds_toArray, List.set_cons_zero, List.set_cons_succ]
                        refine wpAnyH_ready (rs := [1]) (by kernel_rfl) (by simp) ?_
                        refine AllReadyH.cons rfl (fun K hK => ?_) AllReadyH.nil
                        go_simp
                        (go_at_call 36; refine (HRT.out _ (by assumption)).mono ?_; rintro e w7 ⟨rfl, hx7⟩; have hS2 := Ext.trans (by assumption : Ext wz _) hx7)
                        go_wp2_with fail
                        refine hK.out _ _ (by assumption) (fun hHeld => ?_)
                        clear hK K
                        try simp only [List.getElem_toArray, List.getElem_cons_zero, List.getElem_cons_succ, Act.put, List.setIfInBounds_toArray, List.set_cons_zero, List.set_cons_succ]
                        refine wpAnyH_take (i := 2) (v := ?v502) rfl (by kernel_rfl) (by kernel_rfl) (by kernel_rfl) (fun _ _ _ h => h) (Or.inl ⟨by kernel_rfl, ?hy502⟩) (by assumption) ?rest502
                        case hy502 => (intro wq hSw; (try dsimp only at hSw); first | (go_simp; done) | (go_simp; with_reducible rfl))
                        try simp only [List.getElem_toArray, List.getElem_cons_zero, List.getElem_cons_succ, Act.put, List.setIfInBounds_toArray, List.set_cons_zero, List.set_cons_succ]
                        refine wpAnyH_take (i := 3) (v := ?v503) rfl (by kernel_rfl) (by kernel_rfl) (by kernel_rfl) (fun _ _ _ h => h) (Or.inl ⟨by kernel_rfl, ?hy503⟩) (by assumption) ?rest503
                        case hy503 => (intro wq hSw; (try dsimp only at hSw); first | (go_simp; done) | (go_simp; with_reducible rfl))
                        try simp only [List.getElem_toArray, List.getElem_cons_zero, List.getElem_cons_succ, Act.put, List.setIfInBounds_toArray, List.set_cons_zero, List.set_cons_succ]
                        refine wpAnyH_take (i := 4) (v := ?v504) rfl (by kernel_rfl) (by kernel_rfl) (by kernel_rfl) (fun _ _ _ h => h) (Or.inl ⟨by kernel_rfl, ?hy504⟩) (by assumption) ?rest504
                        case hy504 => (intro wq hSw; (try dsimp only at hSw); first | (go_simp; done) | (go_simp; with_reducible rfl))
                        try simp only [List.getElem_toArray, List.getElem_cons_zero, List.getElem_cons_succ, Act.put, List.setIfInBounds_toArray, List.set_cons_zero, List.set_cons_succ]
                        refine wpAnyH_take (i := 5) (v := ?v505) rfl (by kernel_rfl) (by kernel_rfl) (by kernel_rfl) (fun _ _ _ h => h) (Or.inl ⟨by kernel_rfl, ?hy505⟩) (by assumption) ?rest505
                        case hy505 => (intro wq hSw; (try dsimp only at hSw); first | (go_simp; done) | (go_simp; with_reducible rfl))
                        try simp only [List.getElem_toArray, List.getElem_cons_zero, List.getElem_cons_succ, Act.put, List.setIfInBounds_toArray, List.set_cons_zero, List.set_cons_succ]
                        refine wpAnyH_take (i := 6) (v := ?v506) rfl (by kernel_rfl) (by kernel_rfl) (by kernel_rfl) (fun _ _ _ h => h) (Or.inl ⟨by kernel_rfl, ?hy506⟩) (by assumption) ?rest506
                        case hy506 => (intro wq hSw; (try dsimp only at hSw); first | (go_simp; done) | (go_simp; with_reducible rfl))
                        try simp only [List.getElem_toArray, List.getElem_cons_zero, List.getElem_cons_succ, Act.put, List.setIfInBounds_toArray, List.set_cons_zero, List.set_cons_succ]
                        refine wpAnyH_take (i := 7) (v := ?v507) rfl (by kernel_rfl) (by kernel_rfl) (by kernel_rfl) (fun _ _ _ h => h) (Or.inl ⟨by kernel_rfl, ?hy507⟩) (by assumption) ?rest507
                        case hy507 => (intro wq hSw; (try dsimp only at hSw); first | (go_simp; done) | (go_simp; with_reducible rfl))
                        try simp only [List.getElem_toArray, List.getElem_cons_zero, List.getElem_cons_succ, Act.put, List.setIfInBounds_toArray, List.set_cons_zero, List.set_cons_succ]
                        refine wpAnyH_take (i := 8) (v := ?v508) rfl (by kernel_rfl) (by kernel_rfl) (by kernel_rfl) (fun _ _ _ h => h) (Or.inl ⟨by kernel_rfl, ?hy508⟩) (by assumption) ?rest508
                        case hy508 => (intro wq hSw; (try dsimp only at hSw); first | (go_simp; done) | (go_simp; with_reducible rfl))
                        try simp only [List.getElem_toArray, List.getElem_cons_zero, List.getElem_cons_succ, Act.put, List.setIfInBounds_toArray, List.set_cons_zero, List.set_cons_succ]
                        refine wpAnyH_take (i := 9) (v := ?v509) rfl (by kernel_rfl) (by kernel_rfl) (by kernel_rfl) (fun _ _ _ h => h) (Or.inl ⟨by kernel_rfl, ?hy509⟩) (by assumption) ?rest509
                        case hy509 => (intro wq hSw; (try dsimp only at hSw); first | (go_simp; done) | (go_simp; with_reducible rfl))
                        try simp only [List.getElem_toArray, List.getElem_cons_zero, List.getElem_cons_succ, Act.put, List.setIfInBounds_toArray, List.set_cons_zero, List.set_cons_succ]
                        refine wpAnyH_take (i := 10) (v := ?v510) rfl (by kernel_rfl) (by kernel_rfl) (by kernel_rfl) (fun _ _ _ h => h) (Or.inl ⟨by kernel_rfl, ?hy510⟩) (by assumption) ?rest510
                        case hy510 => (intro wq hSw; (try dsimp only at hSw); first | (go_simp; done) | (go_simp; with_reducible rfl))
                        try simp only [List.getElem_toArray, List.getElem_cons_zero, List.getElem_cons_succ, Act.put, List.setIfInBounds_toArray, List.set_cons_zero, List.set_cons_succ]
                        refine wpAnyH_take (i := 11) (v := ?v511) rfl (by kernel_rfl) (by kernel_rfl) (by kernel_rfl) (fun _ _ _ h => h) (Or.inl ⟨by kernel_rfl, ?hy511⟩) (by assumption) ?rest511
                        case hy511 => (intro wq hSw; (try dsimp only at hSw); first | (go_simp; done) | (go_simp; with_reducible rfl))
                        try simp only [List.getElem_toArray, List.getElem_cons_zero, List.getElem_cons_succ, Act.put, List.setIfInBounds_toArray, List.set_cons_zero, List.set_cons_succ]
                        refine wpAnyH_take (i := 12) (v := ?v512) rfl (by kernel_rfl) (by kernel_rfl) (by kernel_rfl) (fun _ _ _ h => h) (Or.inl ⟨by kernel_rfl, ?hy512⟩) (by assumption) ?rest512
                        case hy512 => (intro wq hSw; (try dsimp only at hSw); first | (go_simp; done) | (go_simp; with_reducible rfl))
                        try simp only [List.getElem_toArray, List.getElem_cons_zero, List.getElem_cons_succ, Act.put, List.setIfInBounds_toArray, List.set_cons_zero, List.set_cons_succ]
                        refine wpAnyH_take (i := 13) (v := ?v513) rfl (by kernel_rfl) (by kernel_rfl) (by kernel_rfl) (fun _ _ _ h => h) (Or.inl ⟨by kernel_rfl, ?hy513⟩) (by assumption) ?rest513
                        case hy513 => (intro wq hSw; (try dsimp only at hSw); first | (go_simp; done) | (go_simp; with_reducible rfl))
                        try simp only [List.getElem_toArray, List.getElem_cons_zero, List.getElem_cons_succ, Act.put, List.setIfInBounds_toArray, List.set_cons_zero, List.set_cons_succ]
                        refine wpAnyH_take (i := 14) (v := ?v514) rfl (by kernel_rfl) (by kernel_rfl) (by kernel_rfl) (fun _ _ _ h => h) (Or.inl ⟨by kernel_rfl, ?hy514⟩) (by assumption) ?rest514
                        case hy514 => (intro wq hSw; (try dsimp only at hSw); first | (go_simp; done) | (go_simp; with_reducible rfl))
                        try simp only [List.getElem_toArray, List.getElem_cons_zero, List.getElem_cons_succ, Act.put, List.setIfInBounds_toArray, List.set_cons_zero, List.set_cons_succ]
                        refine wpAnyH_take (i := 15) (v := ?v515) rfl (by kernel_rfl) (by kernel_rfl) (by kernel_rfl) (fun _ _ _ h => h) (Or.inl ⟨by kernel_rfl, ?hy515⟩) (by assumption) ?rest515
                        case hy515 => (intro wq hSw; (try dsimp only at hSw); first | (go_simp; done) | (go_simp; with_reducible rfl))
                        try simp only [List.getElem_toArray, List.getElem_cons_zero, List.getElem_cons_succ, Act.put, List.setIfInBounds_toArray, List.set_cons_zero, List.set_cons_succ]
                        refine wpAnyH_take (i := 16) (v := ?v516) rfl (by kernel_rfl) (by kernel_rfl) (by kernel_rfl) (fun _ _ _ h => h) (Or.inl ⟨by kernel_rfl, ?hy516⟩) (by assumption) ?rest516
                        case hy516 => (intro wq hSw; (try dsimp only at hSw); first | (go_simp; done) | (go_simp; with_reducible rfl))
                        try simp only [List.getElem_toArray, List.getElem_cons_zero, List.getElem_cons_succ, Act.put, List.setIfInBounds_toArray, List.set_cons_zero, List.set_cons_succ]
                        refine wpAnyH_take (i := 17) (v := ?v517) rfl (by kernel_rfl) (by kernel_rfl) (by kernel_rfl) (fun _ _ _ h => h) (Or.inl ⟨by kernel_rfl, ?hy517⟩) (by assumption) ?rest517
                        case hy517 => (intro wq hSw; (try dsimp only at hSw); first | (go_simp; done) | (go_simp; with_reducible rfl))
                        try simp only [List.getElem_toArray, List.getElem_cons_zero, List.getElem_cons_succ, Act.put, List.setIfInBounds_toArray, List.set_cons_zero, List.set_cons_succ]
                        refine wpAnyH_take (i := 18) (v := ?v518) rfl (by kernel_rfl) (by kernel_rfl) (by kernel_rfl) (fun _ _ _ h => h) (Or.inl ⟨by kernel_rfl, ?hy518⟩) (by assumption) ?rest518
                        case hy518 => (intro wq hSw; (try dsimp only at hSw); first | (go_simp; done) | (go_simp; with_reducible rfl))
                        try simp only [List.getElem_toArray, List.getElem_cons_zero, List.getElem_cons_succ, Act.put, List.setIfInBounds_toArray, List.set_cons_zero, List.set_cons_succ]
                        refine wpAnyH_take (i := 19) (v := ?v519) rfl (by kernel_rfl) (by kernel_rfl) (by kernel_rfl) (fun _ _ _ h => h) (Or.inl ⟨by kernel_rfl, ?hy519⟩) (by assumption) ?rest519
                        case hy519 => (intro wq hSw; (try dsimp only at hSw); first | (go_simp; done) | (go_simp; with_reducible rfl))
                        try simp only [List.getElem_toArray, List.getElem_cons_zero, List.getElem_cons_succ, Act.put, List.setIfInBounds_toArray, List.set_cons_zero, List.set_cons_succ]
                        refine wpAnyH_take (i := 20) (v := undef) rfl (by kernel_rfl) (by kernel_rfl) (by kernel_rfl) (fun _ _ _ h => h) (Or.inr ⟨by kernel_rfl, rfl⟩) (by assumption) ?_
                        try simp only [List.getElem_toArray, List.getElem_cons_zero, List.getElem_cons_succ, Act.put, List.setIfInBounds_toArray, List.set_cons_zero, List.set_cons_succ]
                        refine wpAnyH_take (i := 21) (v := undef) rfl (by kernel_rfl) (by kernel_rfl) (by kernel_rfl) (fun _ _ _ h => h) (Or.inr ⟨by kernel_rfl, rfl⟩) (by assumption) ?_
                        try simp only [List.getElem_toArray, List.getElem_cons_zero, List.getElem_cons_succ, Act.put, List.setIfInBounds_toArray, List.set_cons_zero, List.set_cons_succ]
                        refine wpAnyH_take (i := 22) (v := undef) rfl (by kernel_rfl) (by kernel_rfl) (by kernel_rfl) (fun _ _ _ h => h) (Or.inr ⟨by kernel_rfl, rfl⟩) (by assumption) ?_
                        try simp only [List.getElem_toArray, List.getElem_cons_zero, List.getElem_cons_succ, Act.put, List.setIfInBounds_toArray, List.set_cons_zero, List.set_cons_succ]
                        refine wpAnyH_take (i := 23) (v := undef) rfl (by kernel_rfl) (by kernel_rfl) (by kernel_rfl) (fun _ _ _ h => h) (Or.inr ⟨by kernel_rfl, rfl⟩) (by assumption) ?_
                        try simp only [List.getElem_toArray, List.getElem_cons_zero, List.getElem_cons_succ, Act.put, List.setIfInBounds_toArray, List.set_cons_zero, List.set_cons_succ]
                        refine wpAnyH_take (i := 24) (v := undef) rfl (by kernel_rfl) (by kernel_rfl) (by kernel_rfl) (fun _ _ _ h => h) (Or.inr ⟨by kernel_rfl, rfl⟩) (by assumption) ?_
                        try simp only [List.getElem_toArray, List.getElem_cons_zero, List.getElem_cons_succ, Act.put, List.setIfInBounds_toArray, List.set_cons_zero, List.set_cons_succ]
                        refine wpAnyH_take (i := 25) (v := undef) rfl (by kernel_rfl) (by kernel_rfl) (by kernel_rfl) (fun _ _ _ h => h) (Or.inr ⟨by kernel_rfl, rfl⟩) (by assumption) ?_
                        try simp only [List.getElem_toArray, List.getElem_cons_zero, List.getElem_cons_succ, Act.put, List.setIfInBounds_toArray, List.set_cons_zero, List.set_cons_succ]
                        refine wpAnyH_take (i := 26) (v := ?v526) rfl (by kernel_rfl) (by kernel_rfl) (by kernel_rfl) (fun _ _ _ h => h) (Or.inl ⟨by kernel_rfl, ?hy526⟩) (by assumption) ?rest526
                        case hy526 => (intro wq hSw; (try dsimp only at hSw); first | (go_simp; done) | (go_simp; with_reducible rfl))
                        try simp only [List.getElem_toArray, List.getElem_cons_zero, List.getElem_cons_succ, Act.put, List.setIfInBounds_toArray, List.set_cons_zero, List.set_cons_succ]
                        refine wpAnyH_done (by kernel_rfl) ?_ _
                        refine NoPanic.normal ?_
                        go_wp2_with fail
                        rw [HR.out, HF2.out]
                        exact ⟨rfl, HXZ.out.trans (by assumption)⟩
                      | true =>
                        rw [hlt2] at hlq
                        have HLT := Lib.hid (show ltL (p.files.getD (j + 1 - 1) fz).path m.path = true by rw [Nat.add_sub_cancel, ← hq]; exact hlt2)
                        clear hq hlt2
                        go_wp2_with fail
                        go_region_held3 (fun w' => Ext wz w') (first | exact hz0 | assumption)
                          (first | (go_at_call 36; refine (HRT.out _ (by assumption)).mono ?_; rintro e w7 ⟨rfl, hx7⟩; have hS2 := Ext.trans (by assumption : Ext wz _) hx7) | (go_at_call 37; refine (HIN.out _ (by assumption)).mono ?_; rintro e w7 ⟨rfl, hx7⟩; have hS2 := Ext.trans (by assumption : Ext wz _) hx7))
                        all_goals
                          go_wp2_with fail
                          go_roundw
                          case rel => exact ⟨j + 1 + 1, by go_num, by omega, Lib.hid (by rw [filesTo_succ, hft.out, HA2.out]; first | (rw [HLT.out]; simp; done) | rfl), Lib.hid (HZ5.out.trans (by assumption))⟩
                          case measure => simp [intOf]; omega
              · have hkk : k = p.files.length := by omega
                have hft2 := hft.out
                rw [hkk] at hft2
                have HFT := Lib.hid hft2; clear hft2 hkk
                go_wp2_with fail
                rw [HR.out, HRF.out, HFT.out]
                exact ⟨rfl, HX5.out.trans hx.out⟩
theorem arc_right (p : PkgD) (A : PkgA) (w : World) (hE : EnvN w) (hM : PkgM w p A) (hS : FitP p) (hC : p.files.length ≤ A.cf) :
    Calls Tryz.prog 10 #[pkgV p A] w fun e w' => e = .returned (.bool (rightP p)) ∧ Ext w w' := arc_right0 p A.an A.ac A.af A.au A.cn A.cc A.cf A.cu w hE hM hS hC
end Go.Proofs.YtnclibfhbngkjaaGreatDoor
