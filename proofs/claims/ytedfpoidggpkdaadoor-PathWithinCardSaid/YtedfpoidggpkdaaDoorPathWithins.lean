/- The walk of the statement PathWithin: it answers true, whatever the three texts. -/
import Derived.Test.YtedfpoidggpkdaaDoorPathSplits
namespace Go.Proofs.YtedfpoidggpkdaaDoor
open Go.RowKit
theorem withinL_trans {a b c : List UInt8} (h1 : withinL a b = true) (h2 : withinL b c = true) : withinL a c = true := by
  unfold withinL at *
  cases ha : pathL a with
  | none => simp [ha] at h1
  | some L =>
    cases hb : pathL b with
    | none => simp [ha, hb] at h1
    | some U =>
      cases hc : pathL c with
      | none => simp [hb, hc] at h2
      | some V =>
        simp only [ha, hb, hc, Bool.and_eq_true, decide_eq_true_eq] at *
        refine ⟨by omega, ?_⟩
        have h3 : V.length ≤ U.length := by omega
        rw [← h1.2, List.take_take, Nat.min_eq_left h3] at h2
        exact h2.2
theorem within_hid {s d : ByteArray} {b : Bool} (w : World) (hE : Env w) (h : Hid (withinL s.data.toList d.data.toList = b)) :
    Calls Tryd.prog 24 #[.string s, .string d] w fun e w' => e = .returned (.bool b) ∧ Ext w w' := within_eq w hE h.out
theorem strs_take {w : World} {a : Option Addr} {L : List (List UInt8)} (h : Strs w a L) (k : Nat) : Strs w a (L.take k) := by
  rcases h with h | ⟨g, off, ha, hg, hc⟩
  · subst h; exact Or.inl (by simp)
  · refine Or.inr ⟨g, off, ha, hg, fun i hi => ?_⟩
    have hi' : i < k ∧ i < L.length := by rw [List.length_take] at hi; omega
    rw [hc i hi'.2]
    congr 3
    simp only [List.getD, List.getElem?_take, if_pos hi'.1]
set_option maxHeartbeats 1600000 in
theorem pathWithin_main (a b c : ByteArray) (w : World) (hE : Env w) (ha : a.size ≤ 60) (hb : b.size ≤ 60) (hc : c.size ≤ 60) :
    Calls Tryd.prog 4 #[.string a, .string b, .string c] w fun e w' => e = .returned (.bool true) ∧ Ext w w' := by
  obtain ⟨b1, hb1⟩ : ∃ x, withinL a.data.toList b.data.toList = x := ⟨_, rfl⟩
  obtain ⟨b2, hb2⟩ : ∃ x, withinL b.data.toList c.data.toList = x := ⟨_, rfl⟩
  obtain ⟨b3, hb3⟩ : ∃ x, withinL a.data.toList c.data.toList = x := ⟨_, rfl⟩
  have HT : Hid (b1 = true → b2 = true → b3 = true) := Lib.hid (fun h1 h2 => by rw [← hb3]; exact withinL_trans (hb1.trans h1) (hb2.trans h2))
  have HB1 := Lib.hid hb1; have HB2 := Lib.hid hb2; have HB3 := Lib.hid hb3
  clear hb1 hb2 hb3
  go_enter Tryd.func4, Tryd.ntmps4
  go_wp2_with fail
  refine (alive05 _ hE).mono ?_
  rintro e w1 ⟨rfl, hx⟩
  go_wp2_with fail
  have tail : True := trivial
  cases hp : pathL a.data.toList with
  | none =>
    have HP := Lib.hid hp; clear hp
    have e1 : b1 = false := by rw [← HB1.out]; simp [withinL, HP.out]
    subst e1
    refine (rsplit_none _ HP).mono ?_
    rintro e w2 ⟨rfl, hx2⟩
    have hx := hx.trans hx2; clear hx2
    go_wp2_with fail
    refine (ref_split _ _).mono ?_
    intro e w3 hr
    have hx2 : ∃ v bb, e = .returned (.tuple #[v, .bool bb]) ∧ Ext w2 w3 := by
      unfold SplitR at hr
      cases hq : pathL b.data.toList with
      | none => rw [hq] at hr; exact ⟨_, _, hr.1, hr.2⟩
      | some U => rw [hq] at hr; obtain ⟨_, _, h1, _, _, h2⟩ := hr; exact ⟨_, _, h1, h2⟩
    clear hr
    obtain ⟨v, bb, rfl, hx2⟩ := hx2
    have hx := hx.trans hx2; clear hx2
    go_wp2_with fail
    refine (within_hid _ (hE.ext hx) HB1).mono ?_
    rintro e w4 ⟨rfl, hx2⟩
    have hx := hx.trans hx2; clear hx2
    go_wp2_with fail
    refine (within_hid _ (hE.ext hx) HB1).mono ?_
    rintro e w5 ⟨rfl, hx2⟩
    have hx := hx.trans hx2; clear hx2
    go_wp2_with fail
    go_ret
    exact ⟨rfl, hx⟩
  | some L =>
    have HP := Lib.hid hp; clear hp
    have hL5 := (pathL_facts HP.out).1
    refine (rsplit_some _ HP).mono ?_
    rintro e w2 ⟨x, cx, rfl, hcx, hX, hx2⟩
    have hx := hx.trans hx2; clear hx2
    have HX := Lib.hid hX; clear hX
    go_wp2_with fail
    cases hq : pathL b.data.toList with
    | none =>
      have HQ := Lib.hid hq; clear hq
      have e1 : b1 = false := by rw [← HB1.out]; simp [withinL, HP.out, HQ.out]
      subst e1
      refine (rsplit_none _ HQ).mono ?_
      rintro e w3 ⟨rfl, hx2⟩
      have hx := hx.trans hx2; clear hx2
      go_wp2_with fail
      refine (within_hid _ (hE.ext hx) HB1).mono ?_
      rintro e w4 ⟨rfl, hx2⟩
      have hx := hx.trans hx2; clear hx2
      go_wp2_with fail
      refine (within_hid _ (hE.ext hx) HB1).mono ?_
      rintro e w5 ⟨rfl, hx2⟩
      have hx := hx.trans hx2; clear hx2
      go_wp2_with fail
      go_ret
      exact ⟨rfl, hx⟩
    | some U =>
      have HQ := Lib.hid hq; clear hq
      have hU5 := (pathL_facts HQ.out).1
      refine (rsplit_some _ HQ).mono ?_
      rintro e w3 ⟨y, cy, rfl, hcy, hY, hx2⟩
      have hx := hx.trans hx2
      have HX := Lib.hid (HX.out.ext hx2); clear hx2
      have HY := Lib.hid hY; clear hY
      by_cases hlt : U.length < L.length
      · have HS : Hid (Calls Tryd.prog 17 #[.slice x U.length cx, .slice y U.length cy] w3 fun e w' => e = .returned (.bool b1) ∧ w3 = w') := Lib.hid (by
          have h := same_any x y (L.take U.length) U cx cy w3 (strs_take HX.out _) HY.out (by simp; omega)
          have hl : (L.take U.length).length = U.length := by simp; omega
          rw [hl] at h
          have e1 : b1 = decide (L.take U.length = U) := by rw [← HB1.out]; simp [withinL, HP.out, HQ.out, hlt]
          rw [e1]; exact h)
        have m1 : U.length ≤ cx := by omega
        go_wp2_with fail
        rw [show (min (L.length : Int) (U.length : Int)).toNat = U.length by omega]
        refine HS.out.mono ?_
        rintro e w4 ⟨rfl, rfl⟩
        go_wp2_with fail
        refine (within_hid _ (hE.ext hx) HB1).mono ?_
        rintro e w4 ⟨rfl, hx2⟩
        have hx := hx.trans hx2; clear hx2
        have hbb := bne_self_bool b1
        go_wp2_with fail
        refine (within_hid _ (hE.ext hx) HB1).mono ?_
        rintro e w5 ⟨rfl, hx2⟩
        have hx := hx.trans hx2; clear hx2
        cases b1 with
        | false =>
          go_wp2_with fail
          go_ret
          exact ⟨rfl, hx⟩
        | true =>
          go_wp2_with fail
          refine (within_hid _ (hE.ext hx) HB2).mono ?_
          rintro e w6 ⟨rfl, hx2⟩
          have hx := hx.trans hx2; clear hx2
          cases b2 with
          | false =>
            go_wp2_with fail
            go_ret
            exact ⟨rfl, hx⟩
          | true =>
            obtain rfl : b3 = true := HT.out (by first | rfl | trivial) (by first | rfl | trivial)
            go_wp2_with fail
            refine (within_hid _ (hE.ext hx) HB3).mono ?_
            rintro e w7 ⟨rfl, hx2⟩
            have hx := hx.trans hx2; clear hx2
            go_wp2_with fail
            go_ret
            exact ⟨rfl, hx⟩
      · have e1 : b1 = false := by rw [← HB1.out]; simp [withinL, HP.out, HQ.out, hlt]
        subst e1
        go_wp2_with fail
        refine (within_hid _ (hE.ext hx) HB1).mono ?_
        rintro e w4 ⟨rfl, hx2⟩
        have hx := hx.trans hx2; clear hx2
        go_wp2_with fail
        refine (within_hid _ (hE.ext hx) HB1).mono ?_
        rintro e w5 ⟨rfl, hx2⟩
        have hx := hx.trans hx2; clear hx2
        go_wp2_with fail
        go_ret
        exact ⟨rfl, hx⟩
/-- The statement's function answers true, whatever the three texts. -/
theorem pathWithin_true (a b c : ByteArray) (w : World) (hE : Env w) :
    Calls Tryd.prog 4 #[.string a, .string b, .string c] w fun e w' => e = .returned (.bool true) ∧ Ext w w' := by
  by_cases h : a.size ≤ 60 ∧ b.size ≤ 60 ∧ c.size ≤ 60
  · exact pathWithin_main a b c w hE h.1 h.2.1 h.2.2
  · have h' : 60 < a.size ∨ 60 < b.size ∨ 60 < c.size := by omega
    clear h
    go_enter Tryd.func4, Tryd.ntmps4
    go_wp2_with fail
    refine (alive05 _ hE).mono ?_
    rintro e w1 ⟨rfl, hx⟩
    go_wp2_with fail
    all_goals first
      | (exfalso; omega)
      | (go_ret; exact ⟨rfl, hx⟩)
end Go.Proofs.YtedfpoidggpkdaaDoor
