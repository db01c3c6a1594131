/- Layer 5's 'alive': the document's example holds. -/
import Derived.Test.YtedfpoidggpkdaaDoorLaw05
namespace Go.Proofs.YtedfpoidggpkdaaDoor
open Go.RowKit
theorem parent_some {s : ByteArray} {d n : List UInt8} (w : World) (hE : Env w) (h : parentL s.data.toList = some (d, n)) :
    Calls Tryd.prog 21 #[.string s] w fun e w' => e = .returned (.tuple #[.string (bs d), .string (bs n), .bool true]) ∧ Ext w w' := by
  have := path_parent s w hE; rw [h] at this; exact this
theorem right_eq {s : ByteArray} {b : Bool} (w : World) (hE : Env w) (h : rightL s.data.toList = b) :
    Calls Tryd.prog 18 #[.string s] w fun e w' => e = .returned (.bool b) ∧ Ext w w' := by
  have := path_right s w hE; rw [h] at this; exact this
theorem within_eq {s d : ByteArray} {b : Bool} (w : World) (hE : Env w) (h : withinL s.data.toList d.data.toList = b) :
    Calls Tryd.prog 24 #[.string s, .string d] w fun e w' => e = .returned (.bool b) ∧ Ext w w' := by
  have := path_within s d w hE; rw [h] at this; exact this
theorem name_eq {s : ByteArray} {b : Bool} (w : World) (h : nameL s.data.toList = b) :
    Calls Tryd.prog 19 #[.string s] w fun e w' => e = .returned (.bool b) ∧ Ext w w' := by
  have := name_any s w; rw [h] at this; exact this
theorem p_usrlib : pathL [47, 117, 115, 114, 47, 108, 105, 98] = some [[117, 115, 114], [108, 105, 98]] := by decide
theorem join_ab (w : World) : Calls Tryd.prog 22 #[.slice (some ⟨w.heap.size, 0, none⟩) 2 2] (w.alloc (.cells #[.string ⟨#[97]⟩, .string ⟨#[98]⟩] 9)) fun e w' => e = .returned (.string ⟨#[47, 97, 47, 98]⟩) ∧ Ext w w' := by
  have h := path_join (some ⟨w.heap.size, 0, none⟩) [[97], [98]] 2 (w.alloc (.cells #[.string ⟨#[97]⟩, .string ⟨#[98]⟩] 9)) (by exact Strs.made w [[97], [98]] 9) (by simp) (by simp) (by decide)
  refine h.mono fun e w' ⟨he, hw⟩ => ⟨?_, (Ext.alloc _ _).trans hw⟩
  rw [he]; exact ret_str (eq_bs (by decide)).symm
theorem join_none (w : World) : Calls Tryd.prog 22 #[.slice none 0 0] w fun e w' => e = .returned (.string ⟨#[47]⟩) ∧ Ext w w' := by
  have h := path_join none [] 0 w (Strs.nil _ _) (by simp) (by simp) (by decide)
  exact h.mono fun e w' ⟨he, hw⟩ => ⟨by rw [he]; exact ret_str (eq_bs (by decide)).symm, hw⟩
theorem alive05 (w : World) (hE : Env w) : Calls Tryd.prog 14 #[] w fun e w' => e = .returned (.bool true) ∧ Ext w w' := by
  go_enter Tryd.func14, Tryd.ntmps14
  go_wp2_with fail
  refine (split_some (s := ⟨#[47, 117, 115, 114, 47, 108, 105, 98]⟩) _ hE p_usrlib).mono ?_
  rintro e w1 ⟨a, cap, rfl, hcap, hS, hx⟩
  go_wp2_with fail
  refine (parent_some w1 (hE.ext hx) (d := [47, 117, 115, 114]) (n := [108, 105, 98]) (by decide)).mono ?_
  rintro e w2 ⟨rfl, hx2⟩
  obtain ⟨g, off, ha, -, hc⟩ := hS.at (by simp)
  subst ha
  have hcell : w2.cell? ⟨g, off + 1, none⟩ = some (.string (bs [108, 105, 98])) := hx2.cell (hc 1 (by decide))
  clear hc hS hcap
  have b1 : ((bs [108, 105, 98]).toList == [108, 105, 98]) = true := by rw [bs_toList]; rfl
  have b2 : ((bs [47, 117, 115, 114]).toList == [47, 117, 115, 114]) = true := by rw [bs_toList]; rfl
  have hx := hx.trans hx2
  clear hx2
  go_wp2_with fail

  refine (join_ab _).mono ?_
  rintro e w3 ⟨rfl, hx3⟩
  have hx := hx.trans hx3
  clear hx3
  go_wp2_with fail
  refine (join_none _).mono ?_
  rintro e w4 ⟨rfl, hx3⟩
  have hx := hx.trans hx3
  clear hx3
  go_wp2_with fail
  refine (right_eq _ (hE.ext hx) (b := true) (by decide)).mono ?_
  rintro e w5 ⟨rfl, hx3⟩
  have hx := hx.trans hx3
  clear hx3
  go_wp2_with fail
  refine (right_eq _ (hE.ext hx) (b := false) (by decide)).mono ?_
  rintro e w6 ⟨rfl, hx3⟩
  have hx := hx.trans hx3
  clear hx3
  go_wp2_with fail
  refine (within_eq _ (hE.ext hx) (b := true) (by decide)).mono ?_
  rintro e w7 ⟨rfl, hx3⟩
  have hx := hx.trans hx3
  clear hx3
  go_wp2_with fail
  refine (within_eq _ (hE.ext hx) (b := false) (by decide)).mono ?_
  rintro e w8 ⟨rfl, hx3⟩
  have hx := hx.trans hx3
  clear hx3
  go_wp2_with fail
  refine (name_eq _ (b := true) (by decide)).mono ?_
  rintro e w9 ⟨rfl, hx3⟩
  have hx := hx.trans hx3
  clear hx3
  go_wp2_with fail
  refine (name_eq _ (b := false) (by decide)).mono ?_
  rintro e w10 ⟨rfl, hx3⟩
  have hx := hx.trans hx3
  clear hx3
  go_wp2_with fail
  go_ret
  exact ⟨rfl, hx⟩
end Go.Proofs.YtedfpoidggpkdaaDoor
