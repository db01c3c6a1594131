/- ver.Fits. -/
import Derived.Test.YtnclibfhbngkjaaGreatDoorVerCmp
namespace Go.Proofs.YtnclibfhbngkjaaGreatDoor
open Go.RowKit
theorem fitsV_none (t : Option (List Nat × Nat)) (way : Int) : fitsV none t way = false := rfl
theorem ver_fits (a b : ByteArray) (way : Int) (ha : a.size ≤ 1000) (hb : b.size ≤ 1000) (w : World) (hE : EnvN w) :
    Calls Tryz.prog 82 #[.string a, .int .i64 way, .string b] w fun e w' => e = .returned (.bool (fitsV (verL a.data.toList) (verL b.data.toList) way)) ∧ Ext w w' := by
  obtain ⟨r, hr⟩ : ∃ r, r = fitsV (verL a.data.toList) (verL b.data.toList) way := ⟨_, rfl⟩
  rw [← hr]
  have hright := ver_right a ha w hE
  obtain ⟨c, hc⟩ : ∃ c, c = cmpV (verL a.data.toList) (verL b.data.toList) := ⟨_, rfl⟩
  have hcmp : ∀ w1, Ext w w1 → Calls Tryz.prog 64 #[.string a, .string b] w1 fun e w' => e = .returned (.int .i64 c) ∧ Ext w1 w' := by
    intro w1 hx; rw [hc]; exact ver_compare a b ha hb w1 (hE.ext hx)
  have HC := Lib.hid hcmp; clear hcmp
  go_enter Tryz.func82, Tryz.ntmps82
  go_wp2_with fail
  cases hv : (verL a.data.toList).isSome with
  | false =>
    have hn : r = false := by
      cases hx : verL a.data.toList with
      | none => rw [hr, hx]; rfl
      | some _ => rw [hx] at hv; cases hv
    subst hn
    rw [hv] at hright
    have HR := Lib.hid hright; clear hright hr hc hv
    refine HR.out.mono ?_
    rintro e w1 ⟨rfl, hx⟩
    go_wp2_with fail
    go_ret
    exact ⟨rfl, hx⟩
  | true =>
    have hn : r = (decide (way = 0) || decide (way = 1) && decide (0 ≤ c) || decide (way = 2) && decide (c = 0) || decide (way = 3) && decide (c < 0)) := by
      rw [hr, fitsV, hv, hc]; simp
    rw [hv] at hright
    have HR := Lib.hid hright; clear hright hr hc hv
    have HN := Lib.hid hn; clear hn
    refine HR.out.mono ?_
    rintro e w1 ⟨rfl, hx⟩
    go_wp2_with fail
    refine (HC.out _ hx).mono ?_
    rintro e w2 ⟨rfl, hx2⟩
    by_cases h0 : way = 0
    · subst h0
      go_wp2_with fail
      go_ret
      exact ⟨ret_bool (by rw [HN.out]; simp), hx.trans hx2⟩
    · have b0 : (way == 0) = false := by simpa using h0
      by_cases h1 : way = 1
      · subst h1
        go_wp2_with fail
        go_ret
        exact ⟨ret_bool (by rw [HN.out]; simp), hx.trans hx2⟩
      · have b1 : (way == 1) = false := by simpa using h1
        by_cases h2 : way = 2
        · subst h2
          go_wp2_with fail
          go_ret
          exact ⟨ret_bool (by rw [HN.out]; simp [BEq.beq]), hx.trans hx2⟩
        · have b2 : (way == 2) = false := by simpa using h2
          by_cases h3 : way = 3
          · subst h3
            go_wp2_with fail
            go_ret
            exact ⟨ret_bool (by rw [HN.out]; simp), hx.trans hx2⟩
          · have b3 : (way == 3) = false := by simpa using h3
            have HX := Lib.hid (And.intro h0 (And.intro h1 (And.intro h2 h3)))
            clear h0 h1 h2 h3
            go_wp2_with fail
            go_ret
            exact ⟨ret_bool (by rw [HN.out]; simp [HX.out.1, HX.out.2.1, HX.out.2.2.1, HX.out.2.2.2]), hx.trans hx2⟩
end Go.Proofs.YtnclibfhbngkjaaGreatDoor
