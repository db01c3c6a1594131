/- The walk of PathSplits: it answers true, whatever the text. -/
import Derived.Test.YtedfpoidggpkdaaDoorAlive05
namespace Go.Proofs.YtedfpoidggpkdaaDoor
open Go.RowKit
theorem name_hid {s : ByteArray} {b : Bool} (w : World) (h : Hid (nameL s.data.toList = b)) :
    Calls Tryd.prog 19 #[.string s] w fun e w' => e = .returned (.bool b) ∧ Ext w w' := name_eq w h.out
theorem ref_name_hid {s : ByteArray} {b : Bool} (w : World) (h : Hid (nameL s.data.toList = b)) :
    Calls Tryd.prog 20 #[.string s] w fun e w' => e = .returned (.bool b) ∧ w = w' := by
  have := ref_name s w; rw [h.out] at this; exact this
theorem rsplit_none {s : ByteArray} (w : World) (h : Hid (pathL s.data.toList = none)) :
    Calls Tryd.prog 16 #[.string s] w fun e w' => e = .returned (.tuple #[.slice none 0 0, .bool false]) ∧ Ext w w' := by
  have := ref_split s w; rw [h.out] at this; exact this
theorem rsplit_some {s : ByteArray} {L : List (List UInt8)} (w : World) (h : Hid (pathL s.data.toList = some L)) :
    Calls Tryd.prog 16 #[.string s] w fun e w' => ∃ a cap, e = .returned (.tuple #[.slice a L.length cap, .bool true]) ∧ L.length ≤ cap ∧ Strs w' a L ∧ Ext w w' := by
  have := ref_split s w; rw [h.out] at this; exact this
theorem parent_none {s : ByteArray} (w : World) (hE : Env w) (h : parentL s.data.toList = none) :
    Calls Tryd.prog 21 #[.string s] w fun e w' => e = .returned (.tuple #[.string (bs []), .string (bs []), .bool false]) ∧ Ext w w' := by
  have := path_parent s w hE; rw [h] at this; exact this
theorem same_nil (w : World) (a b : Option Addr) (ca cb : Nat) : Calls Tryd.prog 17 #[.slice a 0 ca, .slice b 0 cb] w fun e w' => e = .returned (.bool true) ∧ w = w' :=
  (same_any a b [] [] ca cb w (Strs.nil _ _) (Strs.nil _ _) (by simp))
theorem same_self (w : World) {a b : Option Addr} {L : List (List UInt8)} (ca cb : Nat) (h1 : Strs w a L) (h2 : Strs w b L) (hN : L.length ≤ 1099511627776) : Calls Tryd.prog 17 #[.slice a L.length ca, .slice b L.length cb] w fun e w' => e = .returned (.bool true) ∧ w = w' := by
  have h := same_any a b L L ca cb w h1 h2 hN
  simp only [decide_true] at h
  exact h
theorem e_empty : (bs []).toList.isEmpty = true := by rw [bs_toList]; rfl
theorem bne_self_bool (b : Bool) : (b != b) = false := by simp
set_option maxHeartbeats 800000 in
theorem pathSplits_none (s : ByteArray) (w : World) (hE : Env w) (h100 : s.size ≤ 100) (HP : Hid (pathL s.data.toList = none)) :
    Calls Tryd.prog 3 #[.string s] w fun e w' => e = .returned (.bool true) ∧ Ext w w' := by
  have HR : Hid (rightL s.data.toList = false) := Lib.hid (rightL_none HP.out)
  have HPar : Hid (parentL s.data.toList = none) := Lib.hid (by simp [parentL, HP.out])
  obtain ⟨b, hb⟩ : ∃ b, nameL s.data.toList = b := ⟨_, rfl⟩
  have HN := Lib.hid hb; clear hb
  go_enter Tryd.func3, Tryd.ntmps3
  go_wp2_with fail
  refine (alive05 _ hE).mono ?_
  rintro e w1 ⟨rfl, hx⟩
  go_wp2_with fail
  refine (split_none _ (hE.ext hx) HP.out).mono ?_
  rintro e w2 ⟨rfl, hx2⟩
  have hx := hx.trans hx2; clear hx2
  go_wp2_with fail
  refine (rsplit_none _ HP).mono ?_
  rintro e w3 ⟨rfl, hx2⟩
  have hx := hx.trans hx2; clear hx2
  go_wp2_with fail
  refine (same_nil _ none none 0 0).mono ?_
  rintro e w4 ⟨rfl, rfl⟩
  go_wp2_with fail
  refine (right_eq _ (hE.ext hx) HR.out).mono ?_
  rintro e w5 ⟨rfl, hx2⟩
  have hx := hx.trans hx2; clear hx2
  go_wp2_with fail
  refine (name_hid _ HN).mono ?_
  rintro e w6 ⟨rfl, hx2⟩
  have hx := hx.trans hx2; clear hx2
  go_wp2_with fail
  refine (ref_name_hid _ HN).mono ?_
  rintro e w7 ⟨rfl, rfl⟩
  have hbb := bne_self_bool b
  go_wp2_with fail
  refine (parent_none _ (hE.ext hx) HPar.out).mono ?_
  rintro e w8 ⟨rfl, hx2⟩
  have hx := hx.trans hx2; clear hx2
  have e1 := e_empty
  go_wp2_with fail
  go_ret
  exact ⟨rfl, hx⟩

set_option maxHeartbeats 800000 in
theorem pathSplits_some (s : ByteArray) (L : List (List UInt8)) (w : World) (hE : Env w) (h100 : s.size ≤ 100) (HP : Hid (pathL s.data.toList = some L)) :
    Calls Tryd.prog 3 #[.string s] w fun e w' => e = .returned (.bool true) ∧ Ext w w' := by
  have hL5 := (pathL_facts HP.out).1
  have HJ : Hid (joinP L = s.data.toList) := Lib.hid (joinP_pathL HP.out)
  obtain ⟨b, hb⟩ : ∃ b, nameL s.data.toList = b := ⟨_, rfl⟩
  have HN := Lib.hid hb; clear hb
  have HR : Hid (rightL s.data.toList = decide (0 < L.length)) := Lib.hid (rightL_some HP.out)
  go_enter Tryd.func3, Tryd.ntmps3
  go_wp2_with fail
  refine (alive05 _ hE).mono ?_
  rintro e w1 ⟨rfl, hx⟩
  go_wp2_with fail
  refine (split_some _ (hE.ext hx) HP.out).mono ?_
  rintro e w2 ⟨a, cap, rfl, hcap, hA, hx2⟩
  have hx := hx.trans hx2; clear hx2
  have HA := Lib.hid hA; clear hA
  go_wp2_with fail
  refine (rsplit_some _ HP).mono ?_
  rintro e w3 ⟨c, cap3, rfl, hcap3, hC, hx2⟩
  have hx := hx.trans hx2
  have HA := Lib.hid (HA.out.ext hx2); clear hx2
  have HC := Lib.hid hC; clear hC
  go_wp2_with fail
  refine (same_self _ _ _ HA.out HC.out (by omega)).mono ?_
  rintro e w4 ⟨rfl, rfl⟩
  cases L with
  | nil =>
    have HPar : Hid (parentL s.data.toList = none) := Lib.hid (by simp [parentL, HP.out])
    have HR2 : Hid (rightL s.data.toList = false) := Lib.hid (by rw [HR.out]; rfl)
    go_wp2_with fail
    refine (right_eq _ (hE.ext hx) HR2.out).mono ?_
    rintro e w5 ⟨rfl, hx2⟩
    have hx := hx.trans hx2
    have HA := Lib.hid (HA.out.ext hx2); have HC := Lib.hid (HC.out.ext hx2); clear hx2
    go_wp2_with fail
    refine (name_hid _ HN).mono ?_
    rintro e w6 ⟨rfl, hx2⟩
    have hx := hx.trans hx2
    have HA := Lib.hid (HA.out.ext hx2); have HC := Lib.hid (HC.out.ext hx2); clear hx2
    go_wp2_with fail
    refine (ref_name_hid _ HN).mono ?_
    rintro e w7 ⟨rfl, rfl⟩
    have hbb := bne_self_bool b
    go_wp2_with fail
    refine (parent_none _ (hE.ext hx) HPar.out).mono ?_
    rintro e w8 ⟨rfl, hx2⟩
    have hx := hx.trans hx2
    have HA := Lib.hid (HA.out.ext hx2); have HC := Lib.hid (HC.out.ext hx2); clear hx2
    have e1 := e_empty
    go_wp2_with fail
    refine (path_join a [] cap _ HA.out (by simp) (by simp) (by decide)).mono ?_
    rintro e w9 ⟨rfl, hx2⟩
    have hx := hx.trans hx2; clear hx2
    have e2 : ((bs (joinP [])).toList == s.toList) = true := by rw [bs_toList, HJ.out, ByteArray.toList_eq]; simp
    go_wp2_with fail
    go_ret
    exact ⟨rfl, hx⟩
  | cons p q =>
    have HPar : Hid (parentL s.data.toList = some (joinP ((p :: q).take q.length), (p :: q).getD q.length [])) := Lib.hid (by simp [parentL, HP.out])
    have HR2 : Hid (rightL s.data.toList = true) := Lib.hid (by rw [HR.out]; simp)
    have hq : q.length ≤ 4 := by simp at hL5; omega
    have hcap1 : q.length + 1 ≤ cap := hcap
    have hcap2 : q.length + 1 ≤ cap3 := hcap3
    go_wp2_with fail
    refine (right_eq _ (hE.ext hx) HR2.out).mono ?_
    rintro e w5 ⟨rfl, hx2⟩
    have hx := hx.trans hx2
    have HA := Lib.hid (HA.out.ext hx2); have HC := Lib.hid (HC.out.ext hx2); clear hx2
    go_wp2_with fail
    refine (name_hid _ HN).mono ?_
    rintro e w6 ⟨rfl, hx2⟩
    have hx := hx.trans hx2
    have HA := Lib.hid (HA.out.ext hx2); have HC := Lib.hid (HC.out.ext hx2); clear hx2
    go_wp2_with fail
    refine (ref_name_hid _ HN).mono ?_
    rintro e w7 ⟨rfl, rfl⟩
    have hbb := bne_self_bool b
    go_wp2_with fail
    obtain ⟨d, hd⟩ : ∃ d, d = joinP ((p :: q).take q.length) := ⟨_, rfl⟩
    obtain ⟨nm, hnm⟩ : ∃ nm, nm = (p :: q).getD q.length [] := ⟨_, rfl⟩
    rw [← hd, ← hnm] at HPar
    have HD := Lib.hid hd; clear hd
    have HNM := Lib.hid hnm; clear hnm
    refine (parent_some _ (hE.ext hx) HPar.out).mono ?_
    rintro e w8 ⟨rfl, hx2⟩
    have hx := hx.trans hx2
    have HA := Lib.hid (HA.out.ext hx2); have HC := Lib.hid (HC.out.ext hx2); clear hx2
    go_wp2_with fail
    refine (path_join a (p :: q) cap _ HA.out hcap (by omega) (by
      rw [HJ.out, size_len]; omega)).mono ?_
    rintro e w9 ⟨rfl, hx2⟩
    have hx := hx.trans hx2
    have HC := Lib.hid (HC.out.ext hx2); clear hx2 HA
    have e2 : ((bs (joinP (p :: q))).toList == s.toList) = true := by rw [bs_toList, HJ.out, ByteArray.toList_eq]; simp
    obtain ⟨g, off, hc, hg, hcell⟩ := HC.out.at (by simp)
    subst hc
    have hc1 : w9.cell? ⟨g, off + q.length, none⟩ = some (.string (bs nm)) := by rw [HNM.out]; exact hcell q.length (by simp)
    have hT : Strs w9 (some ⟨g, off, none⟩) ((p :: q).take q.length) := by
      refine Or.inr ⟨g, off, rfl, hg, fun i hi => ?_⟩
      have hi' : i < q.length := by simpa using hi
      rw [hcell i (by simp; omega)]
      congr 3
      simp only [List.getD, List.getElem?_take, if_pos hi']
    have hTl : ((p :: q).take q.length).length = q.length := by simp
    have hJl : (glue 47 ((p :: q).take q.length)).length ≤ 1099511627776 := by
      have h2 := glue_take_len 47 (p :: q) q.length
      rcases (pathL_facts HP.out).2.2.2 with ⟨_, h4⟩ | ⟨_, _, h4, _⟩
      · cases h4
      · rw [h4, size_len] at h2; omega
    have hj := ref_join (some ⟨g, off, none⟩) ((p :: q).take q.length) cap3 w9 hT (by omega) hJl
    rw [hTl, ← HD.out] at hj
    have HJ2 := Lib.hid hj
    clear hj hJl hTl hT hcell
    have e3 : ((bs nm).toList == (bs nm).toList) = true := by simp
    have e4 : ((bs d).toList == (bs d).toList) = true := by simp
    generalize hjj : joinP (p :: q) = J at *
    clear hjj
    go_wp2_with fail
    refine HJ2.out.mono ?_
    rintro e w10 ⟨rfl, rfl⟩
    go_wp2_with fail
    go_ret
    exact ⟨rfl, hx⟩

theorem pathSplits_long (s : ByteArray) (w : World) (hE : Env w) (h100 : 100 < s.size) :
    Calls Tryd.prog 3 #[.string s] w fun e w' => e = .returned (.bool true) ∧ Ext w w' := by
  go_enter Tryd.func3, Tryd.ntmps3
  go_wp2_with fail
  refine (alive05 _ hE).mono ?_
  rintro e w1 ⟨rfl, hx⟩
  go_wp2_with fail
  go_ret
  exact ⟨rfl, hx⟩
/-- PathSplits answers true, whatever the text. -/
theorem pathSplits_true (s : ByteArray) (w : World) (hE : Env w) :
    Calls Tryd.prog 3 #[.string s] w fun e w' => e = .returned (.bool true) ∧ Ext w w' := by
  by_cases h : s.size ≤ 100
  · cases hp : pathL s.data.toList with
    | none => exact pathSplits_none s w hE h (Lib.hid hp)
    | some L => exact pathSplits_some s L w hE h (Lib.hid hp)
  · exact pathSplits_long s w hE (by omega)
end Go.Proofs.YtedfpoidggpkdaaDoor
