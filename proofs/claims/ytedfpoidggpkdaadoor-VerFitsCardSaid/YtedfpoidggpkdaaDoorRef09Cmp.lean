/- farrierref09.Compare, .Fits. -/
import Derived.Test.YtedfpoidggpkdaaDoorRef09Parse
import Derived.BigQuiet
import Derived.Deep.QuietTactic
namespace Go.Proofs.YtedfpoidggpkdaaDoor
open Go.RowKit
theorem verL_rev_le {l : List UInt8} {X : List Nat} {r : Nat} (h : verL l = some (X, r)) : r ≤ 9999 := by
  unfold verL at h
  split at h
  · rename_i r' X' h1 h2
    split at h
    · have h := Option.some.inj h
      simp only [Prod.mk.injEq] at h
      rw [← h.2]
      unfold revV at h1
      split at h1
      · cases hn : numV (Lib.cut l [45]).2.1 with
        | none => rw [hn] at h1; cases h1
        | some n =>
          rw [hn] at h1
          simp only [Option.bind_some] at h1
          split at h1
          · have h1 := Option.some.inj h1
            have := (numV_some hn).2
            omega
          · cases h1
      · have h1 := Option.some.inj h1
        omega
    · cases h
  · cases h
def signI (z : Int) : Int := if z < 0 then -1 else if 0 < z then 1 else 0
theorem sign_sub (i j : Nat) : signI ((i : Int) - (j : Int)) = cmpN i j := by
  unfold signI cmpN
  repeat' split
  all_goals omega
theorem ref09_sgn (z : Int) (w : World) :
    Calls Tryd.prog 65 #[.int .i64 z] w fun e w' => e = .returned (.int .i64 (signI z)) ∧ w = w' := ref09_sign z w
theorem cmpP_same {X Y : List Nat} {i j : Nat} (h : cmpL X Y = 0) : cmpP (X, i) (Y, j) = cmpN i j := by simp [cmpP, h]
theorem cmpP_diff {X Y : List Nat} {i j : Nat} {z : Int} (h : cmpL X Y = z) (hz : z ≠ 0) : cmpP (X, i) (Y, j) = z := by simp only [cmpP, h, if_neg hz]
set_option maxHeartbeats 1600000 in
theorem ref09_compare (a b : ByteArray) (ha : a.size ≤ 1000) (hb : b.size ≤ 1000) (w : World) :
    Calls Tryd.prog 34 #[.string a, .string b] w fun e w' => e = .returned (.int .i64 (cmpV (verL a.data.toList) (verL b.data.toList))) ∧ Ext w w' := by
  have hp := ref09_parse a ha w
  obtain ⟨u, hu⟩ : ∃ u, u = verL a.data.toList := ⟨_, rfl⟩
  obtain ⟨v, hv⟩ : ∃ v, v = verL b.data.toList := ⟨_, rfl⟩
  rw [← hu, ← hv]
  rw [← hu] at hp
  have hq : ∀ w1, Calls Tryd.prog 31 #[.string b] w1 (ParseR v w1) := by
    intro w1; rw [hv]; exact ref09_parse b hb w1
  have HQ := Lib.hid hq; clear hq
  have HP := Lib.hid hp; clear hp
  have HU := Lib.hid hu; clear hu
  have HV := Lib.hid hv; clear hv
  go_enter Tryd.func34, Tryd.ntmps34
  go_wp2_with fail
  cases u with
  | none =>
    refine HP.out.mono ?_
    rintro e w1 ⟨a1, n1, c1, r1, rfl, hx⟩
    go_wp2_with fail
    cases v with
    | none =>
      refine (HQ.out _).mono ?_
      rintro e w2 ⟨a2, n2, c2, r2, rfl, hx2⟩
      go_wp2_with fail
      go_ret
      exact ⟨rfl, hx.trans hx2⟩
    | some v =>
      obtain ⟨Y, j⟩ := v
      refine (HQ.out _).mono ?_
      rintro e w2 ⟨a2, c2, rfl, _, _, hx2⟩
      go_wp2_with fail
      go_ret
      exact ⟨rfl, hx.trans hx2⟩
  | some u =>
    obtain ⟨X, i⟩ := u
    refine HP.out.mono ?_
    rintro e w1 ⟨a1, c1, rfl, hc1, hn1, hx⟩
    have HN1 := Lib.hid hn1; clear hn1
    go_wp2_with fail
    cases v with
    | none =>
      refine (HQ.out _).mono ?_
      rintro e w2 ⟨a2, n2, c2, r2, rfl, hx2⟩
      go_wp2_with fail
      go_ret
      exact ⟨rfl, hx.trans hx2⟩
    | some v =>
      obtain ⟨Y, j⟩ := v
      refine (HQ.out _).mono ?_
      rintro e w2 ⟨a2, c2, rfl, hc2, hn2, hx2⟩
      have HX := Lib.hid (HN1.out.ext hx2); clear HN1
      have HY := Lib.hid hn2; clear hn2
      have h4 := verL_len HU.out.symm
      have h5 := verL_len HV.out.symm
      have hi := verL_rev_le HU.out.symm
      have hj := verL_rev_le HV.out.symm
      have hxx := hx.trans hx2
      clear hx hx2
      go_wp2_with fail
      go_loopw [11] (fun v wr => ∃ k : Nat, k ≤ X.length ∧ v = .int .i64 k ∧ k ≤ Y.length ∧ Hid (cmpL X Y = cmpL (X.drop k) (Y.drop k)) ∧ Ext w2 wr) (fun v _ => X.length - (intOf v).toNat)
      case atStart => exact ⟨0, Nat.zero_le _, rfl, Nat.zero_le _, Lib.hid rfl, Ext.refl _⟩
      case round =>
        obtain ⟨k, hk, rfl, hk2, hinv, hext⟩ := hrel
        by_cases hlt : k < X.length
        · by_cases hy : k < Y.length
          · obtain ⟨g, off, rfl, -, hcx⟩ := HX.out.at (by intro e; rw [e] at hlt; simp at hlt)
            have hcell := hext.cell (hcx k hlt)
            clear hcx
            obtain ⟨x, hxe⟩ : ∃ x, x = X.getD k 0 := ⟨_, rfl⟩
            rw [← hxe] at hcell
            have HXX := Lib.hid hxe; clear hxe
            obtain ⟨g2, off2, rfl, -, hcy⟩ := HY.out.at (by intro e; rw [e] at hy; simp at hy)
            have hcell2 := hext.cell (hcy k hy)
            clear hcy
            obtain ⟨y, hyy⟩ : ∃ y, y = Y.getD k 0 := ⟨_, rfl⟩
            rw [← hyy] at hcell2
            have HYY := Lib.hid hyy; clear hyy
            have hst : cmpL X Y = if x < y then -1 else if y < x then 1 else cmpL (X.drop (k + 1)) (Y.drop (k + 1)) := by
              rw [hinv.out, drop_getD hlt, drop_getD hy, ← HXX.out, ← HYY.out]; rfl
            have HST := Lib.hid hst; clear hst
            have b1 : (k : Int) < (X.length : Int) := by omega
            have b2 : (k : Int) < (Y.length : Int) := by omega
            go_wp2_with fail
            go_quiet (fail)
            by_cases c1 : x < y
            · have HC := Lib.hid (show cmpL X Y = -1 by rw [HST.out, if_pos c1])
              go_wp2
              all_goals first | (exfalso; omega) | skip
              go_ret
              exact ⟨ret_int (by show _ = cmpP (X, i) (Y, j); rw [cmpP_diff HC.out (by decide)]), hxx.trans (by first | exact hext.drewN _ | exact (hext.drewN _).drewN _)⟩
            · go_wp2_with fail
              all_goals first | (exfalso; omega) | skip
              go_quiet (fail)
              by_cases c2 : y < x
              · have HC := Lib.hid (show cmpL X Y = 1 by rw [HST.out, if_neg c1, if_pos c2])
                go_wp2
                all_goals first | (exfalso; omega) | skip
                go_ret
                exact ⟨ret_int (by show _ = cmpP (X, i) (Y, j); rw [cmpP_diff HC.out (by decide)]), hxx.trans (by first | exact hext.drewN _ | exact (hext.drewN _).drewN _)⟩
              · have HC := Lib.hid (show cmpL X Y = cmpL (X.drop (k + 1)) (Y.drop (k + 1)) by rw [HST.out, if_neg c1, if_neg c2])
                go_wp2
                all_goals first | (exfalso; omega) | skip
                go_roundw
                case rel => exact ⟨k + 1, by omega, by go_num, by omega, Lib.hid HC.out, hext.drewN _⟩
                case measure => simp [intOf]; omega
          · have hkY : k = Y.length := by omega
            have e1 : cmpL X Y = 1 := by
              rw [hinv.out, drop_getD hlt, hkY, List.drop_length]; rfl
            have HE := Lib.hid e1; clear e1
            have hne : ((X.length : Int) == (Y.length : Int)) = false := by simp; omega
            have hgt : 0 < ((X.length : Int) - (Y.length : Int)) * 10000 + signI ((i : Int) - (j : Int)) := by
              unfold signI; repeat' split
              all_goals omega
            have hz2 : signI (((X.length : Int) - (Y.length : Int)) * 10000 + signI ((i : Int) - (j : Int))) = 1 := by
              generalize ((X.length : Int) - (Y.length : Int)) * 10000 + signI ((i : Int) - (j : Int)) = q at *
              simp [signI, hgt]; omega
            have hsb : -1 ≤ signI ((i : Int) - (j : Int)) ∧ signI ((i : Int) - (j : Int)) ≤ 1 := by
              unfold signI; repeat' split
              all_goals omega
            obtain ⟨hsb1, hsb2⟩ := hsb
            clear hgt
            have HZ2 := Lib.hid hz2; clear hz2
            clear hkY
            go_wp2_with fail
            refine (ref09_sgn ((i : Int) - (j : Int)) _).mono ?_
            rintro e w3 ⟨rfl, rfl⟩
            generalize hsg : signI ((i : Int) - (j : Int)) = sg at *
            go_wp2_with fail
            refine (ref09_sgn (((X.length : Int) - (Y.length : Int)) * 10000 + sg) _).mono ?_
            rintro e w3 ⟨rfl, rfl⟩
            rw [HZ2.out]
            go_wp2_with fail
            go_ret
            exact ⟨ret_int (by show _ = cmpP (X, i) (Y, j); rw [cmpP_diff HE.out (by decide)]), hxx.trans hext⟩
        · have hkk : k = X.length := by omega
          by_cases hy : X.length < Y.length
          · have e1 : cmpL X Y = -1 := by
              rw [hinv.out, hkk, List.drop_length, drop_getD hy]; rfl
            have HE := Lib.hid e1; clear e1
            have hne : ((X.length : Int) == (Y.length : Int)) = false := by simp; omega
            have hgt : ((X.length : Int) - (Y.length : Int)) * 10000 + signI ((i : Int) - (j : Int)) < 0 := by
              unfold signI; repeat' split
              all_goals omega
            have hz2 : signI (((X.length : Int) - (Y.length : Int)) * 10000 + signI ((i : Int) - (j : Int))) = -1 := by
              generalize ((X.length : Int) - (Y.length : Int)) * 10000 + signI ((i : Int) - (j : Int)) = q at *
              simp [signI, hgt]
            have hsb : -1 ≤ signI ((i : Int) - (j : Int)) ∧ signI ((i : Int) - (j : Int)) ≤ 1 := by
              unfold signI; repeat' split
              all_goals omega
            obtain ⟨hsb1, hsb2⟩ := hsb
            clear hgt
            have HZ2 := Lib.hid hz2; clear hz2
            clear hkk
            go_wp2_with fail
            refine (ref09_sgn ((i : Int) - (j : Int)) _).mono ?_
            rintro e w3 ⟨rfl, rfl⟩
            generalize hsg : signI ((i : Int) - (j : Int)) = sg at *
            go_wp2_with fail
            refine (ref09_sgn (((X.length : Int) - (Y.length : Int)) * 10000 + sg) _).mono ?_
            rintro e w3 ⟨rfl, rfl⟩
            rw [HZ2.out]
            go_wp2_with fail
            go_ret
            exact ⟨ret_int (by show _ = cmpP (X, i) (Y, j); rw [cmpP_diff HE.out (by decide)]), hxx.trans hext⟩
          · have hkY : k = Y.length := by omega
            have e1 : cmpL X Y = 0 := by
              rw [hinv.out, hkk, List.drop_length, ← hkk, hkY, List.drop_length]; rfl
            have HE := Lib.hid e1; clear e1
            have hne : ((X.length : Int) == (Y.length : Int)) = true := by simp; omega
            have hz0 : ((X.length : Int) - (Y.length : Int)) * 10000 = 0 := by omega
            have hsb : -1 ≤ signI ((i : Int) - (j : Int)) ∧ signI ((i : Int) - (j : Int)) ≤ 1 := by
              unfold signI; repeat' split
              all_goals omega
            obtain ⟨hsb1, hsb2⟩ := hsb
            have HSG := Lib.hid (sign_sub i j)
            clear hkY hkk hz0
            go_wp2_with fail
            refine (ref09_sgn ((i : Int) - (j : Int)) _).mono ?_
            rintro e w3 ⟨rfl, rfl⟩
            generalize hsg : signI ((i : Int) - (j : Int)) = sg at *
            have HSS := Lib.hid hsg; clear hsg
            go_wp2_with fail
            refine (ref09_sgn ((i : Int) - (j : Int)) _).mono ?_
            rintro e w3 ⟨rfl, rfl⟩
            rw [HSS.out]
            go_wp2_with fail
            go_ret
            exact ⟨ret_int (by show _ = cmpP (X, i) (Y, j); rw [cmpP_same HE.out, HSG.out]), hxx.trans hext⟩

theorem ref09_fits (a b : ByteArray) (way : Int) (ha : a.size ≤ 1000) (hb : b.size ≤ 1000) (w : World) :
    Calls Tryd.prog 36 #[.string a, .int .i64 way, .string b] w fun e w' => e = .returned (.bool (fitsV (verL a.data.toList) (verL b.data.toList) way)) ∧ Ext w w' := by
  obtain ⟨r, hr⟩ : ∃ r, r = fitsV (verL a.data.toList) (verL b.data.toList) way := ⟨_, rfl⟩
  rw [← hr]
  have hright := ref09_parse a ha w
  obtain ⟨c, hc⟩ : ∃ c, c = cmpV (verL a.data.toList) (verL b.data.toList) := ⟨_, rfl⟩
  have hcmp : ∀ w1, Calls Tryd.prog 34 #[.string a, .string b] w1 fun e w' => e = .returned (.int .i64 c) ∧ Ext w1 w' := by
    intro w1; rw [hc]; exact ref09_compare a b ha hb w1
  have HC := Lib.hid hcmp; clear hcmp
  go_enter Tryd.func36, Tryd.ntmps36
  go_wp2_with fail
  cases hv : verL a.data.toList with
  | none =>
    have hn : r = false := by rw [hr, hv]; rfl
    subst hn
    rw [hv] at hright
    have HR := Lib.hid hright; clear hright hr hc hv
    refine HR.out.mono ?_
    rintro e w1 ⟨a1, n1, c1, r1, rfl, hx⟩
    go_wp2_with fail
    refine (HC.out _).mono ?_
    rintro e w2 ⟨rfl, hx2⟩
    go_wp2_with fail
    go_ret
    exact ⟨rfl, hx.trans hx2⟩
  | some u =>
    have hn : r = (decide (way = 0) || decide (way = 1) && decide (0 ≤ c) || decide (way = 2) && decide (c = 0) || decide (way = 3) && decide (c < 0)) := by
      rw [hr, fitsV, hc, hv]; simp
    rw [hv] at hright
    have HR := Lib.hid hright; clear hright hr hc hv
    have HN := Lib.hid hn; clear hn
    obtain ⟨X, i⟩ := u
    refine HR.out.mono ?_
    rintro e w1 ⟨a1, c1, rfl, _, _, hx⟩
    go_wp2_with fail
    refine (HC.out _).mono ?_
    rintro e w2 ⟨rfl, hx2⟩
    by_cases h0 : way = 0
    · subst h0
      go_wp2_with fail
      go_ret
      exact ⟨ret_bool (by rw [HN.out]; simp), hx.trans hx2⟩
    · have b0 : (way == 0) = false := by simpa using h0
      by_cases h1 : way = 1
      · subst h1
        by_cases hcc : 0 ≤ c
        · have hd : decide (0 ≤ c) = true := by simpa using hcc
          go_wp2_with fail
          go_ret
          exact ⟨ret_bool (by rw [HN.out]; simp [hcc]), hx.trans hx2⟩
        · have hd : decide (0 ≤ c) = false := by simpa using hcc
          go_wp2_with fail
          go_ret
          exact ⟨ret_bool (by rw [HN.out]; simp [hcc]), hx.trans hx2⟩
      · have b1 : (way == 1) = false := by simpa using h1
        by_cases h2 : way = 2
        · subst h2
          by_cases hcc : c = 0
          · have hd : (c == 0) = true := by simpa using hcc
            have HCC := Lib.hid hcc; clear hcc
            go_wp2_with fail
            go_ret
            exact ⟨ret_bool (by rw [HN.out]; simp [HCC.out]), hx.trans hx2⟩
          · have hd : (c == 0) = false := by simpa using hcc
            have HCC := Lib.hid hcc; clear hcc
            go_wp2_with fail
            go_ret
            exact ⟨ret_bool (by rw [HN.out]; simp [HCC.out]), hx.trans hx2⟩
        · have b2 : (way == 2) = false := by simpa using h2
          by_cases h3 : way = 3
          · subst h3
            by_cases hcc : c < 0
            · have hd : decide (c < 0) = true := by simpa using hcc
              go_wp2_with fail
              go_ret
              exact ⟨ret_bool (by rw [HN.out]; simp [hcc]), hx.trans hx2⟩
            · have hd : decide (c < 0) = false := by simpa using hcc
              go_wp2_with fail
              go_ret
              exact ⟨ret_bool (by rw [HN.out]; simp [hcc]), hx.trans hx2⟩
          · have b3 : (way == 3) = false := by simpa using h3
            have HX := Lib.hid (And.intro h0 (And.intro h1 (And.intro h2 h3)))
            clear h0 h1 h2 h3
            go_wp2_with fail
            go_ret
            exact ⟨ret_bool (by rw [HN.out]; simp [HX.out.1, HX.out.2.1, HX.out.2.2.1, HX.out.2.2.2]), hx.trans hx2⟩
end Go.Proofs.YtedfpoidggpkdaaDoor
