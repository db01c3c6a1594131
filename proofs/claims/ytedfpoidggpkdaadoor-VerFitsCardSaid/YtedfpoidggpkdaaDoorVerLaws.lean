/- The walks of the statements on versions. -/
import Derived.Test.YtedfpoidggpkdaaDoorVerFit
import Derived.Test.YtedfpoidggpkdaaDoorRef09Cmp
namespace Go.Proofs.YtedfpoidggpkdaaDoor
open Go.RowKit
theorem compare_eq {s t : ByteArray} {z : Int} (w : World) (hE : EnvN w) (hs : s.size ≤ 1000) (ht : t.size ≤ 1000) (h : cmpV (verL s.data.toList) (verL t.data.toList) = z) :
    Calls Tryd.prog 33 #[.string s, .string t] w fun e w' => e = .returned (.int .i64 z) ∧ Ext w w' := by
  have := ver_compare s t hs ht w hE; rw [h] at this; exact this
theorem vright_eq {s : ByteArray} {b : Bool} (w : World) (hE : EnvN w) (hs : s.size ≤ 1000) (h : (verL s.data.toList).isSome = b) :
    Calls Tryd.prog 32 #[.string s] w fun e w' => e = .returned (.bool b) ∧ Ext w w' := by
  have := ver_right s hs w hE; rw [h] at this; exact this
theorem fits_eq {s t : ByteArray} {way : Int} {b : Bool} (w : World) (hE : EnvN w) (hs : s.size ≤ 1000) (ht : t.size ≤ 1000) (h : fitsV (verL s.data.toList) (verL t.data.toList) way = b) :
    Calls Tryd.prog 35 #[.string s, .int .i64 way, .string t] w fun e w' => e = .returned (.bool b) ∧ Ext w w' := by
  have := ver_fits s t way hs ht w hE; rw [h] at this; exact this
theorem alive09 (w : World) (hE : EnvN w) : Calls Tryd.prog 30 #[] w fun e w' => e = .returned (.bool true) ∧ Ext w w' := by
  go_enter Tryd.func30, Tryd.ntmps30
  go_wp2_with fail
  refine (compare_eq _ hE (by decide) (by decide) (z := -1) (by decide +kernel)).mono ?_
  rintro e w1 ⟨rfl, hx⟩
  go_wp2_with fail
  refine (compare_eq _ (hE.ext hx) (by decide) (by decide) (z := 1) (by decide +kernel)).mono ?_
  rintro e w2 ⟨rfl, hx2⟩
  have hx := hx.trans hx2
  clear hx2
  go_wp2_with fail
  refine (compare_eq _ (hE.ext hx) (by decide) (by decide) (z := 1) (by decide +kernel)).mono ?_
  rintro e w3 ⟨rfl, hx2⟩
  have hx := hx.trans hx2
  clear hx2
  go_wp2_with fail
  refine (vright_eq _ (hE.ext hx) (by decide) (b := true) (by decide +kernel)).mono ?_
  rintro e w4 ⟨rfl, hx2⟩
  have hx := hx.trans hx2
  clear hx2
  go_wp2_with fail
  refine (vright_eq _ (hE.ext hx) (by decide) (b := false) (by decide +kernel)).mono ?_
  rintro e w5 ⟨rfl, hx2⟩
  have hx := hx.trans hx2
  clear hx2
  go_wp2_with fail
  refine (fits_eq _ (hE.ext hx) (by decide) (by decide) (b := true) (by decide +kernel)).mono ?_
  rintro e w6 ⟨rfl, hx2⟩
  have hx := hx.trans hx2
  clear hx2
  go_wp2_with fail
  refine (fits_eq _ (hE.ext hx) (by decide) (by decide) (b := false) (by decide +kernel)).mono ?_
  rintro e w7 ⟨rfl, hx2⟩
  have hx := hx.trans hx2
  clear hx2
  go_wp2_with fail
  go_ret
  exact ⟨rfl, hx⟩
theorem ver_tells (a b : ByteArray) (way : Int) (w : World) (hE : EnvN w) :
    Calls Tryd.prog 8 #[.string a, .string b, .int .i64 way] w fun e w' => e = .returned (.bool true) ∧ Ext w w' := by
  go_enter Tryd.func8, Tryd.ntmps8
  go_wp2_with fail
  refine (alive09 _ hE).mono ?_
  rintro e w1 ⟨rfl, hx⟩
  by_cases ha : a.size ≤ 40
  · by_cases hb : b.size ≤ 40
    · obtain ⟨r, hr⟩ : ∃ r, r = (verL a.data.toList).isSome := ⟨_, rfl⟩
      obtain ⟨c, hc⟩ : ∃ c, c = cmpV (verL a.data.toList) (verL b.data.toList) := ⟨_, rfl⟩
      obtain ⟨f, hf⟩ : ∃ f, f = fitsV (verL a.data.toList) (verL b.data.toList) way := ⟨_, rfl⟩
      have HR := Lib.hid hr; clear hr
      have HC := Lib.hid hc; clear hc
      have HF := Lib.hid hf; clear hf
      have parse : ∀ w1, Calls Tryd.prog 31 #[.string a] w1 fun e w' => ∃ (a2 : Option Addr) (n2 c2 : Nat) (r2 : Int), e = .returned (.tuple #[.slice a2 n2 c2, .int .i64 r2, .bool r]) ∧ Ext w1 w' := by
        intro w1
        rw [HR.out]
        have h := ref09_parse a (by omega) w1
        cases hv : verL a.data.toList with
        | none => rw [hv] at h; exact h
        | some v =>
          rw [hv] at h
          obtain ⟨X, i⟩ := v
          refine h.mono ?_
          rintro e w' ⟨a2, c2, rfl, _, _, hx⟩
          exact ⟨a2, _, c2, _, rfl, hx⟩
      go_wp2_with fail
      all_goals first | (exfalso; omega) | skip
      refine (parse _).mono ?_
      rintro e w2 ⟨a2, n2, c2, r2, rfl, hx2⟩
      have hx := hx.trans hx2
      clear hx2
      go_wp2_with fail
      refine (vright_eq _ (hE.ext hx) (by omega) HR.out.symm).mono ?_
      rintro e w3 ⟨rfl, hx2⟩
      have hx := hx.trans hx2
      clear hx2
      have hrr : (r == r) = true := by simp
      have hcc : (c == c) = true := by simp
      have hff : (f == f) = true := by simp
      go_wp2_with fail
      refine (compare_eq _ (hE.ext hx) (by omega) (by omega) HC.out.symm).mono ?_
      rintro e w4 ⟨rfl, hx2⟩
      have hx := hx.trans hx2
      clear hx2
      go_wp2_with fail
      refine (ref09_compare a b (by omega) (by omega) _).mono ?_
      rintro e w5 ⟨rfl, hx2⟩
      rw [← HC.out]
      have hx := hx.trans hx2
      clear hx2
      go_wp2_with fail
      refine (fits_eq _ (hE.ext hx) (by omega) (by omega) HF.out.symm).mono ?_
      rintro e w6 ⟨rfl, hx2⟩
      have hx := hx.trans hx2
      clear hx2
      go_wp2_with fail
      refine (ref09_fits a b way (by omega) (by omega) _).mono ?_
      rintro e w7 ⟨rfl, hx2⟩
      rw [← HF.out]
      have hx := hx.trans hx2
      clear hx2
      go_wp2_with fail
      go_ret
      exact ⟨rfl, hx⟩
    · go_wp2_with fail
      all_goals first | (exfalso; omega) | skip
      go_ret
      exact ⟨rfl, hx⟩
  · go_wp2_with fail
    all_goals first | (exfalso; omega) | skip
    go_ret
    exact ⟨rfl, hx⟩
end Go.Proofs.YtedfpoidggpkdaaDoor
