/- (arc.File).right: may a file be? -/
import Derived.Test.YtnclibfhbngkjaaGreatDoorArcFuncs
namespace Go.Proofs.YtnclibfhbngkjaaGreatDoor
open Go.RowKit
theorem right_ext (l : By) (w : World) (hE : Env w) :
    Calls Tryz.prog 71 #[.string (bs l)] w fun e w' => e = .returned (.bool (rightL l)) ∧ Ext w w' := by
  have h := path_right (bs l) w hE
  rw [bs_data] at h
  exact h
theorem within_var (l : By) (w : World) (hE : Env w) :
    Calls Tryz.prog 39 #[.string (bs l), .string ⟨#[47, 118, 97, 114]⟩] w fun e w' => e = .returned (.bool (withinL l varL)) ∧ Ext w w' := by
  have h := path_within (bs l) (bs varL) w hE
  rw [bs_data, bs_data] at h
  exact h
set_option maxHeartbeats 1600000 in
theorem arc_file (f : FileD) (d : Option Addr) (c : Nat) (w : World) (hE : Env w) :
    Calls Tryz.prog 36 #[fileV f d c] w fun e w' => e = .returned (.bool (fileR f)) ∧ Ext w w' := by
  obtain ⟨R, hR⟩ : ∃ R : Ending → World → Prop, R = fun e w' => e = .returned (.bool (fileR f)) ∧ Ext w w' := ⟨_, rfl⟩
  rw [← hR]
  have HR := Lib.hid hR; clear hR
  have hx0 : Ext w (w.alloc (.cells #[.string (bs f.path), .bool f.config, .slice d f.data.length c] 76)) := Ext.alloc _ _
  have hrt := fun W (k : Ext w W) => right_ext f.path W (hE.ext k)
  have hwi := fun W (k : Ext w W) => within_var f.path W (hE.ext k)
  unfold fileV
  cases hr : rightL f.path with
  | false =>
    rw [hr] at hrt
    have HF : Hid (fileR f = false) := Lib.hid (by unfold fileR; rw [hr]; rfl)
    have HRT := Lib.hid hrt; clear hrt hwi hr
    go_enter Tryz.func36, Tryz.ntmps36
    go_wp2_with (go_at_call 71; refine (HRT.out _ hx0).mono ?_; rintro e w1 ⟨rfl, hx1⟩; have hx1 := Lib.hid hx1)
    rw [HR.out, HF.out]
    exact ⟨rfl, hx0.trans hx1.out⟩
  | true =>
    rw [hr] at hrt
    have hfr : fileR f = (decide (f.data.length ≤ 512) && (!withinL f.path varL && !decide (f.path = varL))) := by unfold fileR; rw [hr]; rfl
    have HFR := Lib.hid hfr; clear hfr hr
    have HRT := Lib.hid hrt; clear hrt
    by_cases h5 : f.data.length ≤ 512
    · have h5b : decide ((f.data.length : Int) ≤ 512) = true := decide_eq_true (by omega)
      have H5 := Lib.hid (decide_eq_true h5); clear h5
      cases hw : withinL f.path varL with
      | true =>
        rw [hw] at hwi
        have HF : Hid (fileR f = false) := Lib.hid (by rw [HFR.out, hw]; simp)
        have HWI := Lib.hid hwi; clear hwi hw
        go_enter Tryz.func36, Tryz.ntmps36
        go_wp2_with (first
          | (go_at_call 71; refine (HRT.out _ hx0).mono ?_; rintro e w1 ⟨rfl, hx1⟩; have k0 : w1.cell? ⟨w.heap.size, 0, none⟩ = some (.string (bs f.path)) := hx1.cell (cell_new w _ _ 0 _ rfl); have k2 : w1.cell? ⟨w.heap.size, 2, none⟩ = some (.slice d f.data.length c) := hx1.cell (cell_new w _ _ 2 _ rfl); have hx1 := Lib.hid hx1)
          | (go_at_call 39; refine (HWI.out _ (hx0.trans hx1.out)).mono ?_; rintro e w2 ⟨rfl, hx2⟩; have l0 := hx2.cell k0; have hx2 := Lib.hid hx2))
        rw [HR.out, HF.out]
        exact ⟨rfl, hx0.trans (hx1.out.trans hx2.out)⟩
      | false =>
        rw [hw] at hwi
        have HW := Lib.hid hw; clear hw
        have HWI := Lib.hid hwi; clear hwi
        by_cases hv : f.path = varL
        · have hvb : ((bs f.path).toList == [47, 118, 97, 114]) = true := by rw [bs_toList, hv]; rfl
          have HF : Hid (fileR f = false) := Lib.hid (by rw [HFR.out, decide_eq_true hv]; simp)
          clear hv
          go_enter Tryz.func36, Tryz.ntmps36
          go_wp2_with (first
            | (go_at_call 71; refine (HRT.out _ hx0).mono ?_; rintro e w1 ⟨rfl, hx1⟩; have k0 : w1.cell? ⟨w.heap.size, 0, none⟩ = some (.string (bs f.path)) := hx1.cell (cell_new w _ _ 0 _ rfl); have k2 : w1.cell? ⟨w.heap.size, 2, none⟩ = some (.slice d f.data.length c) := hx1.cell (cell_new w _ _ 2 _ rfl); have hx1 := Lib.hid hx1)
            | (go_at_call 39; refine (HWI.out _ (hx0.trans hx1.out)).mono ?_; rintro e w2 ⟨rfl, hx2⟩; have l0 := hx2.cell k0; have hx2 := Lib.hid hx2))
          rw [HR.out, HF.out]
          exact ⟨rfl, hx0.trans (hx1.out.trans hx2.out)⟩
        · have hvb : ((bs f.path).toList == [47, 118, 97, 114]) = false := by
            rw [bs_toList]
            have : f.path ≠ [47, 118, 97, 114] := hv
            simpa using this
          have HF : Hid (fileR f = true) := Lib.hid (by rw [HFR.out, H5.out, HW.out, decide_eq_false hv]; rfl)
          clear hv
          go_enter Tryz.func36, Tryz.ntmps36
          go_wp2_with (first
            | (go_at_call 71; refine (HRT.out _ hx0).mono ?_; rintro e w1 ⟨rfl, hx1⟩; have k0 : w1.cell? ⟨w.heap.size, 0, none⟩ = some (.string (bs f.path)) := hx1.cell (cell_new w _ _ 0 _ rfl); have k2 : w1.cell? ⟨w.heap.size, 2, none⟩ = some (.slice d f.data.length c) := hx1.cell (cell_new w _ _ 2 _ rfl); have hx1 := Lib.hid hx1)
            | (go_at_call 39; refine (HWI.out _ (hx0.trans hx1.out)).mono ?_; rintro e w2 ⟨rfl, hx2⟩; have l0 := hx2.cell k0; have hx2 := Lib.hid hx2))
          rw [HR.out, HF.out]
          exact ⟨rfl, hx0.trans (hx1.out.trans hx2.out)⟩
    · have h5b : decide ((f.data.length : Int) ≤ 512) = false := decide_eq_false (by omega)
      have HF : Hid (fileR f = false) := Lib.hid (by rw [HFR.out, decide_eq_false h5]; rfl)
      clear h5 hwi
      go_enter Tryz.func36, Tryz.ntmps36
      go_wp2_with (go_at_call 71; refine (HRT.out _ hx0).mono ?_; rintro e w1 ⟨rfl, hx1⟩; have k0 : w1.cell? ⟨w.heap.size, 0, none⟩ = some (.string (bs f.path)) := hx1.cell (cell_new w _ _ 0 _ rfl); have k2 : w1.cell? ⟨w.heap.size, 2, none⟩ = some (.slice d f.data.length c) := hx1.cell (cell_new w _ _ 2 _ rfl); have hx1 := Lib.hid hx1)
      rw [HR.out, HF.out]
      exact ⟨rfl, hx0.trans hx1.out⟩
end Go.Proofs.YtnclibfhbngkjaaGreatDoor
