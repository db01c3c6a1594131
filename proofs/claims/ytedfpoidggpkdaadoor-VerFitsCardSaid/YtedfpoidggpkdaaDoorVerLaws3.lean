/- The walk of VerFits. -/
import Derived.Test.YtedfpoidggpkdaaDoorVerLaws2
namespace Go.Proofs.YtedfpoidggpkdaaDoor
open Go.RowKit
set_option maxHeartbeats 1600000 in
theorem ver_fitslaw (a b : ByteArray) (w : World) (hE : EnvN w) :
    Calls Tryd.prog 10 #[.string a, .string b] w fun e w' => e = .returned (.bool true) ∧ Ext w w' := by
  go_enter Tryd.func10, Tryd.ntmps10
  go_wp2_with fail
  refine (alive09 _ hE).mono ?_
  rintro e w1 ⟨rfl, hx⟩
  by_cases ha : a.size ≤ 40
  · by_cases hb : b.size ≤ 40
    · go_wp2_with fail
      all_goals first | (exfalso; omega) | skip
      cases hr : (verL a.data.toList).isSome with
      | false =>
        have HR := Lib.hid hr
        have HF := Lib.hid (fitsV_no (t := verL b.data.toList) hr)
        clear hr
        refine (vright_eq _ (hE.ext hx) (by omega) HR.out).mono ?_
        rintro e w2 ⟨rfl, hx2⟩
        have hx := hx.trans hx2
        clear hx2
        go_wp2_with fail
        refine (vright_eq _ (hE.ext hx) (by omega) HR.out).mono ?_
        rintro e w3 ⟨rfl, hx2⟩
        have hx := hx.trans hx2
        clear hx2
        go_wp2_with fail
        refine (fits_eq _ (hE.ext hx) (by omega) (by omega) (HF.out _)).mono ?_
        rintro e w4 ⟨rfl, hx2⟩
        have hx := hx.trans hx2
        clear hx2
        go_wp2_with fail
        refine (fits_eq _ (hE.ext hx) (by omega) (by omega) (HF.out _)).mono ?_
        rintro e w5 ⟨rfl, hx2⟩
        have hx := hx.trans hx2
        clear hx2
        go_wp2_with fail
        refine (fits_eq _ (hE.ext hx) (by omega) (by omega) (HF.out _)).mono ?_
        rintro e w6 ⟨rfl, hx2⟩
        have hx := hx.trans hx2
        clear hx2
        go_wp2_with fail
        refine (fits_eq _ (hE.ext hx) (by omega) (by omega) (HF.out _)).mono ?_
        rintro e w7 ⟨rfl, hx2⟩
        have hx := hx.trans hx2
        clear hx2
        go_wp2_with fail
        go_ret
        exact ⟨rfl, hx⟩
      | true =>
        have HR := Lib.hid hr; clear hr
        refine (vright_eq _ (hE.ext hx) (by omega) HR.out).mono ?_
        rintro e w2 ⟨rfl, hx2⟩
        have hx := hx.trans hx2
        clear hx2
        go_wp2_with fail
        cases hr2 : (verL b.data.toList).isSome with
        | false =>
          have HR2 := Lib.hid hr2; clear hr2
          refine (vright_eq _ (hE.ext hx) (by omega) HR2.out).mono ?_
          rintro e w3 ⟨rfl, hx2⟩
          have hx := hx.trans hx2
          clear hx2
          go_wp2_with fail
          refine (vright_eq _ (hE.ext hx) (by omega) HR.out).mono ?_
          rintro e w4 ⟨rfl, hx2⟩
          have hx := hx.trans hx2
          clear hx2
          go_wp2_with fail
          go_ret
          exact ⟨rfl, hx⟩
        | true =>
          have HR2 := Lib.hid hr2; clear hr2
          refine (vright_eq _ (hE.ext hx) (by omega) HR2.out).mono ?_
          rintro e w3 ⟨rfl, hx2⟩
          have hx := hx.trans hx2
          clear hx2
          obtain ⟨z, hz⟩ : ∃ z, z = cmpV (verL a.data.toList) (verL b.data.toList) := ⟨_, rfl⟩
          have hz2 : cmpV (verL b.data.toList) (verL a.data.toList) = -z := by rw [hz, cmpV_neg]
          have F0 := Lib.hid (show fitsV (verL a.data.toList) (verL b.data.toList) 0 = true by rw [fitsV_some HR.out]; rfl)
          have F4 := Lib.hid (show fitsV (verL a.data.toList) (verL b.data.toList) 4 = false by rw [fitsV_some HR.out]; simp)
          have F1 := Lib.hid (show fitsV (verL a.data.toList) (verL b.data.toList) 1 = decide (0 ≤ z) by rw [fitsV_some HR.out, ← hz]; simp)
          have F2 := Lib.hid (show fitsV (verL a.data.toList) (verL b.data.toList) 2 = decide (z = 0) by rw [fitsV_some HR.out, ← hz]; simp)
          have F3 := Lib.hid (show fitsV (verL a.data.toList) (verL b.data.toList) 3 = decide (z < 0) by rw [fitsV_some HR.out, ← hz]; simp)
          have G1 := Lib.hid (show fitsV (verL b.data.toList) (verL a.data.toList) 1 = decide (0 ≤ -z) by rw [fitsV_some HR2.out, hz2]; simp)
          clear hz hz2
          have hcase : z < 0 ∨ z = 0 ∨ 0 < z := by omega
          have H3 : ∃ f1 f2 f3 g1 : Bool, decide (0 ≤ z) = f1 ∧ decide (z = 0) = f2 ∧ decide (z < 0) = f3 ∧ decide (0 ≤ -z) = g1 ∧ (f1 = false ∧ f2 = false ∧ f3 = true ∨ f1 = true ∧ f2 = true ∧ f3 = false ∧ g1 = true ∨ f1 = true ∧ f2 = false ∧ f3 = false ∧ g1 = false) := by
            refine ⟨_, _, _, _, rfl, rfl, rfl, rfl, ?_⟩
            rcases hcase with h | h | h
            · left; simp; omega
            · right; left; simp; omega
            · right; right; simp; omega
          obtain ⟨f1, f2, f3, g1, e1, e2, e3, e4, H3⟩ := H3
          rw [e1] at F1
          rw [e2] at F2
          rw [e3] at F3
          rw [e4] at G1
          clear e1 e2 e3 e4 hcase
          go_wp2_with fail
          refine (fits_eq _ (hE.ext hx) (by omega) (by omega) F3.out).mono ?_
          rintro e w4 ⟨rfl, hx2⟩
          have hx := hx.trans hx2
          clear hx2
          go_wp2_with fail
          refine (fits_eq _ (hE.ext hx) (by omega) (by omega) F1.out).mono ?_
          rintro e w5 ⟨rfl, hx2⟩
          have hx := hx.trans hx2
          clear hx2
          rcases H3 with ⟨rfl, rfl, rfl⟩ | ⟨rfl, rfl, rfl, rfl⟩ | ⟨rfl, rfl, rfl, rfl⟩
          · go_wp2_with fail
            refine (fits_eq _ (hE.ext hx) (by omega) (by omega) F2.out).mono ?_
            rintro e w6 ⟨rfl, hx2⟩
            have hx := hx.trans hx2
            clear hx2
            go_wp2_with fail
            refine (fits_eq _ (hE.ext hx) (by omega) (by omega) F1.out).mono ?_
            rintro e w7 ⟨rfl, hx2⟩
            have hx := hx.trans hx2
            clear hx2
            go_wp2_with fail
            refine (fits_eq _ (hE.ext hx) (by omega) (by omega) F0.out).mono ?_
            rintro e w8 ⟨rfl, hx2⟩
            have hx := hx.trans hx2
            clear hx2
            go_wp2_with fail
            refine (fits_eq _ (hE.ext hx) (by omega) (by omega) F4.out).mono ?_
            rintro e w9 ⟨rfl, hx2⟩
            have hx := hx.trans hx2
            clear hx2
            go_wp2_with fail
            go_ret
            exact ⟨rfl, hx⟩
          all_goals
            go_wp2_with fail
            refine (fits_eq _ (hE.ext hx) (by omega) (by omega) F2.out).mono ?_
            rintro e w6 ⟨rfl, hx2⟩
            have hx := hx.trans hx2
            clear hx2
            go_wp2_with fail
            refine (fits_eq _ (hE.ext hx) (by omega) (by omega) F1.out).mono ?_
            rintro e w7 ⟨rfl, hx2⟩
            have hx := hx.trans hx2
            clear hx2
            go_wp2_with fail
            refine (fits_eq _ (hE.ext hx) (by omega) (by omega) G1.out).mono ?_
            rintro e w8 ⟨rfl, hx2⟩
            have hx := hx.trans hx2
            clear hx2
            go_wp2_with fail
            refine (fits_eq _ (hE.ext hx) (by omega) (by omega) F0.out).mono ?_
            rintro e w9 ⟨rfl, hx2⟩
            have hx := hx.trans hx2
            clear hx2
            go_wp2_with fail
            refine (fits_eq _ (hE.ext hx) (by omega) (by omega) F4.out).mono ?_
            rintro e w10 ⟨rfl, hx2⟩
            have hx := hx.trans hx2
            clear hx2
            go_wp2_with fail
            go_ret
            exact ⟨rfl, hx⟩
    · go_wp2_with fail
      all_goals first | (exfalso; omega) | skip
      go_ret
      exact ⟨rfl, hx⟩
  · go_wp2_with fail
    all_goals first | (exfalso; omega) | skip
    go_ret
    exact ⟨rfl, hx⟩
end Go.Proofs.YtedfpoidggpkdaaDoor
