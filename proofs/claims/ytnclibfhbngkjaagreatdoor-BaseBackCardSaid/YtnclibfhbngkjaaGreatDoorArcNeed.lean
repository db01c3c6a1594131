/- (arc.Need).right, and whether one of several may not be. -/
import Derived.Test.YtnclibfhbngkjaaGreatDoorM1
import Derived.Test.YtnclibfhbngkjaaGreatDoorVerCmp
import Derived.Outline
namespace Go.Proofs.YtnclibfhbngkjaaGreatDoor
open Go.RowKit
def needV (n : NeedD) : Value := .agg #[.string (bs n.name), .int .i64 n.way, .string (bs n.ver)]
theorem name_ext (l : By) (w : World) :
    Calls Tryz.prog 28 #[.string (bs l)] w fun e w' => e = .returned (.bool (nameL l)) ∧ Ext w w' := by
  have h := name_any (bs l) w
  rw [bs_data] at h
  exact h
set_option maxHeartbeats 1600000 in
theorem arc_need (n : NeedD) (w : World) (hE : EnvN w) (hv : n.ver.length ≤ 1000) :
    Calls Tryz.prog 32 #[needV n] w fun e w' => e = .returned (.bool (needR n)) ∧ Ext w w' := by
  obtain ⟨R, hR⟩ : ∃ R : Ending → World → Prop, R = fun e w' => e = .returned (.bool (needR n)) ∧ Ext w w' := ⟨_, rfl⟩
  rw [← hR]
  have HR := Lib.hid hR; clear hR
  have hnm := fun W (_ : Ext w W) => name_ext n.name W
  have hvr := fun W (k : Ext w W) => ver_right (bs n.ver) (by rw [bs_size]; exact hv) W (hE.ext k)
  rw [bs_data] at hvr
  have hx0 : Ext w (w.alloc (.cells #[.string (bs n.name), .int .i64 n.way, .string (bs n.ver)] 68)) := Ext.alloc _ _
  unfold needV
  cases hn : nameL n.name with
  | false =>
    rw [hn] at hnm
    have HF : Hid (needR n = false) := Lib.hid (by unfold needR; rw [hn]; rfl)
    have HNM := Lib.hid hnm; clear hnm hvr hn
    go_enter Tryz.func32, Tryz.ntmps32
    go_wp2_with (go_at_call 28; refine (HNM.out _ hx0).mono ?_; rintro e w1 ⟨rfl, hx1⟩; have hx1 := Lib.hid hx1)
    rw [HR.out, HF.out]
    exact ⟨rfl, hx0.trans hx1.out⟩
  | true =>
    rw [hn] at hnm
    have hneed : needR n = (decide (n.way = 0 ∧ n.ver = []) || (decide (1 ≤ n.way ∧ n.way ≤ 3) && verR n.ver)) := by unfold needR; rw [hn]; rfl
    have HND := Lib.hid hneed; clear hneed hn
    have HNM := Lib.hid hnm; clear hnm
    by_cases h0 : n.way = 0 ∧ n.ver = []
    · obtain ⟨h0, hve⟩ := h0
      have h0b : (n.way == 0) = true := by simp [h0]
      have hvb : ((bs n.ver).toList.isEmpty) = true := by rw [bs_toList, hve]; rfl
      have HF : Hid (needR n = true) := Lib.hid (by rw [HND.out, decide_eq_true ⟨h0, hve⟩]; rfl)
      clear h0 hve hvr
      go_enter Tryz.func32, Tryz.ntmps32
      go_wp2_with (go_at_call 28; refine (HNM.out _ hx0).mono ?_; rintro e w1 ⟨rfl, hx1⟩; have k1 : w1.cell? ⟨w.heap.size, 1, none⟩ = some (.int .i64 n.way) := hx1.cell (cell_new w _ _ 1 _ rfl); have k2 : w1.cell? ⟨w.heap.size, 2, none⟩ = some (.string (bs n.ver)) := hx1.cell (cell_new w _ _ 2 _ rfl); have hx1 := Lib.hid hx1)
      rw [HR.out, HF.out]
      exact ⟨rfl, hx0.trans hx1.out⟩
    · have H0 : Hid (decide (n.way = 0 ∧ n.ver = []) = false) := Lib.hid (decide_eq_false h0)
      by_cases h1 : 1 ≤ n.way
      · have h1b : decide ((1 : Int) ≤ n.way) = true := decide_eq_true h1
        have h00 : (n.way == 0) = false := by simp; omega
        by_cases h3 : n.way ≤ 3
        · have h3b : decide (n.way ≤ 3) = true := decide_eq_true h3
          have HF : Hid (needR n = verR n.ver) := Lib.hid (by rw [HND.out, H0.out, decide_eq_true ⟨h1, h3⟩]; rfl)
          unfold verR at HF
          obtain ⟨vb, hvb⟩ : ∃ vb, vb = (verL n.ver).isSome := ⟨_, rfl⟩
          rw [← hvb] at HF hvr
          have HVR := Lib.hid hvr; clear hvr hvb h0
          go_enter Tryz.func32, Tryz.ntmps32
          go_wp2_with (first
            | (go_at_call 28; refine (HNM.out _ hx0).mono ?_; rintro e w1 ⟨rfl, hx1⟩; have k1 : w1.cell? ⟨w.heap.size, 1, none⟩ = some (.int .i64 n.way) := hx1.cell (cell_new w _ _ 1 _ rfl); have k2 : w1.cell? ⟨w.heap.size, 2, none⟩ = some (.string (bs n.ver)) := hx1.cell (cell_new w _ _ 2 _ rfl); have hx1 := Lib.hid hx1)
            | (go_at_call 29; refine (HVR.out _ (hx0.trans hx1.out)).mono ?_; rintro e w2 ⟨rfl, hx2⟩; have hx2 := Lib.hid hx2))
          rw [HR.out, HF.out]
          exact ⟨rfl, hx0.trans (hx1.out.trans hx2.out)⟩
        · have h3b : decide (n.way ≤ 3) = false := decide_eq_false h3
          have HF : Hid (needR n = false) := Lib.hid (by rw [HND.out, H0.out, decide_eq_false (by omega)]; rfl)
          clear hvr h0
          go_enter Tryz.func32, Tryz.ntmps32
          go_wp2_with (go_at_call 28; refine (HNM.out _ hx0).mono ?_; rintro e w1 ⟨rfl, hx1⟩; have k1 : w1.cell? ⟨w.heap.size, 1, none⟩ = some (.int .i64 n.way) := hx1.cell (cell_new w _ _ 1 _ rfl); have k2 : w1.cell? ⟨w.heap.size, 2, none⟩ = some (.string (bs n.ver)) := hx1.cell (cell_new w _ _ 2 _ rfl); have hx1 := Lib.hid hx1)
          rw [HR.out, HF.out]
          exact ⟨rfl, hx0.trans hx1.out⟩
      · have h1b : decide ((1 : Int) ≤ n.way) = false := decide_eq_false h1
        have HF : Hid (needR n = false) := Lib.hid (by rw [HND.out, H0.out, decide_eq_false (by omega)]; rfl)
        clear hvr
        by_cases h00 : n.way = 0
        · have h0b : (n.way == 0) = true := by simp [h00]
          have hvb : ((bs n.ver).toList.isEmpty) = false := by
            rw [bs_toList]
            have : n.ver ≠ [] := fun e => h0 ⟨h00, e⟩
            simpa using this
          clear h0 h00
          go_enter Tryz.func32, Tryz.ntmps32
          go_wp2_with (go_at_call 28; refine (HNM.out _ hx0).mono ?_; rintro e w1 ⟨rfl, hx1⟩; have k1 : w1.cell? ⟨w.heap.size, 1, none⟩ = some (.int .i64 n.way) := hx1.cell (cell_new w _ _ 1 _ rfl); have k2 : w1.cell? ⟨w.heap.size, 2, none⟩ = some (.string (bs n.ver)) := hx1.cell (cell_new w _ _ 2 _ rfl); have hx1 := Lib.hid hx1)
          rw [HR.out, HF.out]
          exact ⟨rfl, hx0.trans hx1.out⟩
        · have h0b : (n.way == 0) = false := by simpa using h00
          clear h0 h00
          go_enter Tryz.func32, Tryz.ntmps32
          go_wp2_with (go_at_call 28; refine (HNM.out _ hx0).mono ?_; rintro e w1 ⟨rfl, hx1⟩; have k1 : w1.cell? ⟨w.heap.size, 1, none⟩ = some (.int .i64 n.way) := hx1.cell (cell_new w _ _ 1 _ rfl); have k2 : w1.cell? ⟨w.heap.size, 2, none⟩ = some (.string (bs n.ver)) := hx1.cell (cell_new w _ _ 2 _ rfl); have hx1 := Lib.hid hx1)
          rw [HR.out, HF.out]
          exact ⟨rfl, hx0.trans hx1.out⟩
/-- May a need not be? -/
theorem arc_need_no (n : NeedD) (w : World) (hE : EnvN w) (hv : n.ver.length ≤ 1000) :
    Calls Tryz.prog 31 #[needV n] w fun e w' => e = .returned (.bool (!needR n)) ∧ Ext w w' := by
  obtain ⟨R, hR⟩ : ∃ R : Ending → World → Prop, R = fun e w' => e = .returned (.bool (!needR n)) ∧ Ext w w' := ⟨_, rfl⟩
  rw [← hR]
  have HR := Lib.hid hR; clear hR
  have hx0 : Ext w (w.alloc (.cells #[.string (bs n.name), .int .i64 n.way, .string (bs n.ver)] 68)) := Ext.alloc _ _
  have hnr := arc_need n _ (hE.ext hx0) hv
  unfold needV at *
  obtain ⟨b, hb⟩ : ∃ b, b = needR n := ⟨_, rfl⟩
  rw [← hb] at hnr HR
  have HNR := Lib.hid hnr; clear hnr hb
  go_enter Tryz.func31, Tryz.ntmps31
  go_wp2_with (go_at_call 32; refine HNR.out.mono ?_; rintro e w1 ⟨rfl, hx1⟩; have hx1 := Lib.hid hx1)
  rw [HR.out]
  exact ⟨rfl, hx0.trans hx1.out⟩
end Go.Proofs.YtnclibfhbngkjaaGreatDoor
