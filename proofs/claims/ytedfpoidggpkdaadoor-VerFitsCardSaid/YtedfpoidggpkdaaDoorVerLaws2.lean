/- The walks of VerOrders and VerFits. -/
import Derived.Test.YtedfpoidggpkdaaDoorVerLaws
namespace Go.Proofs.YtedfpoidggpkdaaDoor
open Go.RowKit
theorem fitsV_some {v t : Option (List Nat × Nat)} (h : v.isSome = true) (way : Int) : fitsV v t way = (decide (way = 0) || decide (way = 1) && decide (0 ≤ cmpV v t) || decide (way = 2) && decide (cmpV v t = 0) || decide (way = 3) && decide (cmpV v t < 0)) := by
  simp [fitsV, h]
theorem fitsV_no {v t : Option (List Nat × Nat)} (h : v.isSome = false) (way : Int) : fitsV v t way = false := by simp [fitsV, h]
set_option maxHeartbeats 1600000 in
theorem ver_orders (a b c : ByteArray) (w : World) (hE : EnvN w) :
    Calls Tryd.prog 9 #[.string a, .string b, .string c] w fun e w' => e = .returned (.bool true) ∧ Ext w w' := by
  go_enter Tryd.func9, Tryd.ntmps9
  go_wp2_with fail
  refine (alive09 _ hE).mono ?_
  rintro e w1 ⟨rfl, hx⟩
  by_cases ha : a.size ≤ 40
  · by_cases hb : b.size ≤ 40
    · by_cases hc : c.size ≤ 40
      · obtain ⟨z, hz⟩ : ∃ z, z = cmpV (verL a.data.toList) (verL b.data.toList) := ⟨_, rfl⟩
        obtain ⟨y, hy⟩ : ∃ y, y = cmpV (verL b.data.toList) (verL c.data.toList) := ⟨_, rfl⟩
        obtain ⟨x, hx0⟩ : ∃ x, x = cmpV (verL a.data.toList) (verL c.data.toList) := ⟨_, rfl⟩
        obtain ⟨r, hr⟩ : ∃ r, r = (verL a.data.toList).isSome := ⟨_, rfl⟩
        have hz2 : cmpV (verL b.data.toList) (verL a.data.toList) = -z := by rw [hz, cmpV_neg]
        have hzb : -2 ≤ z ∧ z ≤ 2 := by
          have hN : ∀ p q, -2 ≤ cmpN p q ∧ cmpN p q ≤ 2 := by intro p q; unfold cmpN; repeat' split
                                                              all_goals omega
          have hL : ∀ p q, -2 ≤ cmpL p q ∧ cmpL p q ≤ 2 := by
            intro p
            induction p with
            | nil => intro q; cases q <;> simp [cmpL]
            | cons s p ih =>
              intro q
              cases q with
              | nil => simp [cmpL]
              | cons t q =>
                have := ih q
                unfold cmpL; repeat' split
                all_goals omega
          rw [hz]
          cases verL a.data.toList <;> cases verL b.data.toList <;> simp only [cmpV]
          · omega
          · omega
          · omega
          · rename_i u v
            unfold cmpP
            split
            · exact hN _ _
            · exact hL _ _
        obtain ⟨hzb1, hzb2⟩ := hzb
        have htr : 0 ≤ z → 0 ≤ y → 0 ≤ x := by rw [hz, hy, hx0]; exact cmpV_trans
        have hsame : r = true → (z = 0 ↔ a = b) := by
          intro h
          rw [hr] at h
          obtain ⟨v, hv⟩ := Option.isSome_iff_exists.1 h
          rw [hz, cmpV_same hv]
          constructor
          · intro e; rw [← bs_of a, ← bs_of b, e]
          · intro e; rw [e]
        have HZ := Lib.hid hz; clear hz
        have HY := Lib.hid hy; clear hy
        have HX := Lib.hid hx0; clear hx0
        have HR := Lib.hid hr; clear hr
        have HZ2 := Lib.hid hz2; clear hz2
        have HTR := Lib.hid htr; clear htr
        have hsq : r = true → (z == 0) = (a.toList == b.toList) := by
          intro h
          rw [Bool.eq_iff_iff, beq_iff_eq, beq_iff_eq, hsame h]
          constructor
          · intro e; rw [e]
          · intro e; rw [ByteArray.toList_eq, ByteArray.toList_eq] at e; rw [← bs_of a, ← bs_of b, e]
        clear hsame
        have HSQ := Lib.hid hsq; clear hsq
        have hnn : (z != - -z) = false := by simp
        have hnn2 : (z != z) = false := by simp
        go_wp2_with fail
        all_goals first | (exfalso; omega) | skip
        refine (compare_eq _ (hE.ext hx) (by omega) (by omega) HZ.out.symm).mono ?_
        rintro e w2 ⟨rfl, hx2⟩
        have hx := hx.trans hx2
        clear hx2
        go_wp2_with fail
        refine (compare_eq _ (hE.ext hx) (by omega) (by omega) HZ2.out).mono ?_
        rintro e w3 ⟨rfl, hx2⟩
        have hx := hx.trans hx2
        clear hx2
        go_wp2_with fail
        refine (vright_eq _ (hE.ext hx) (by omega) HR.out.symm).mono ?_
        rintro e w4 ⟨rfl, hx2⟩
        have hx := hx.trans hx2
        clear hx2
        have rest : ∀ w : World, True := fun _ => trivial
        clear rest
        cases r with
        | false =>
          go_wp2_with fail
          refine (compare_eq _ (hE.ext hx) (by omega) (by omega) HZ.out.symm).mono ?_
          rintro e w5 ⟨rfl, hx2⟩
          have hx := hx.trans hx2
          clear hx2
          by_cases h1 : z < 0
          · have hd : decide (z < 0) = true := by simpa using h1
            go_wp2_with fail
            go_ret
            exact ⟨rfl, hx⟩
          · have hd : decide (z < 0) = false := by simpa using h1
            go_wp2_with fail
            refine (compare_eq _ (hE.ext hx) (by omega) (by omega) HY.out.symm).mono ?_
            rintro e w6 ⟨rfl, hx2⟩
            have hx := hx.trans hx2
            clear hx2
            by_cases h2 : y < 0
            · have hd2 : decide (y < 0) = true := by simpa using h2
              go_wp2_with fail
              go_ret
              exact ⟨rfl, hx⟩
            · have hd2 : decide (y < 0) = false := by simpa using h2
              go_wp2_with fail
              refine (compare_eq _ (hE.ext hx) (by omega) (by omega) HX.out.symm).mono ?_
              rintro e w7 ⟨rfl, hx2⟩
              have hx := hx.trans hx2
              clear hx2
              have h3 := HTR.out (by omega) (by omega)
              have hd3 : decide (0 ≤ x) = true := by simpa using h3
              go_wp2_with fail
              go_ret
              exact ⟨rfl, hx⟩
        | true =>
          have hsq := HSQ.out rfl
          go_wp2_with fail
          refine (compare_eq _ (hE.ext hx) (by omega) (by omega) HZ.out.symm).mono ?_
          rintro e w4 ⟨rfl, hx2⟩
          have hx := hx.trans hx2
          clear hx2
          have hbb : ((z == 0) != (a.toList == b.toList)) = false := by rw [hsq]; simp
          have hbb2 : ((a.toList == b.toList) != (a.toList == b.toList)) = false := by simp
          go_wp2_with fail
          refine (compare_eq _ (hE.ext hx) (by omega) (by omega) HZ.out.symm).mono ?_
          rintro e w5 ⟨rfl, hx2⟩
          have hx := hx.trans hx2
          clear hx2
          by_cases h1 : z < 0
          · have hd : decide (z < 0) = true := by simpa using h1
            go_wp2_with fail
            go_ret
            exact ⟨rfl, hx⟩
          · have hd : decide (z < 0) = false := by simpa using h1
            go_wp2_with fail
            refine (compare_eq _ (hE.ext hx) (by omega) (by omega) HY.out.symm).mono ?_
            rintro e w6 ⟨rfl, hx2⟩
            have hx := hx.trans hx2
            clear hx2
            by_cases h2 : y < 0
            · have hd2 : decide (y < 0) = true := by simpa using h2
              go_wp2_with fail
              go_ret
              exact ⟨rfl, hx⟩
            · have hd2 : decide (y < 0) = false := by simpa using h2
              go_wp2_with fail
              refine (compare_eq _ (hE.ext hx) (by omega) (by omega) HX.out.symm).mono ?_
              rintro e w7 ⟨rfl, hx2⟩
              have hx := hx.trans hx2
              clear hx2
              have h3 := HTR.out (by omega) (by omega)
              have hd3 : decide (0 ≤ x) = true := by simpa using h3
              go_wp2_with fail
              go_ret
              exact ⟨rfl, hx⟩
      · go_wp2_with fail
        all_goals first | (exfalso; omega) | skip
        go_ret
        exact ⟨rfl, hx⟩
    · go_wp2_with fail
      all_goals first | (exfalso; omega) | skip
      go_ret
      exact ⟨rfl, hx⟩
  · go_wp2_with fail
    all_goals first | (exfalso; omega) | skip
    go_ret
    exact ⟨rfl, hx⟩
end Go.Proofs.YtedfpoidggpkdaaDoor
