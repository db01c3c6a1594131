/- farrierref10.version, begins. -/
import Derived.Test.YtpfcofjianmeaaaGreatDoorRef05Split
import Derived.Test.YtpfcofjianmeaaaGreatDoorRef09Parse
import Derived.Test.YtpfcofjianmeaaaGreatDoorArcRef
import Derived.Outline
namespace Go.Proofs.YtpfcofjianmeaaaGreatDoor
open Go.RowKit
theorem version10 (s : By) (hs : s.length ≤ 1000) (w : World) :
    Calls Tryz.prog 31 #[.string (bs s)] w fun e w' => e = .returned (.bool (verR s)) ∧ Ext w w' := by
  have hp := fun W => ref09_parse (bs s) (by rw [bs_size]; exact hs) W
  rw [bs_data] at hp
  have hp2 : ∀ W, Calls Tryz.prog 62 #[.string (bs s)] W fun e w' => ∃ (a : Option Addr) (n c : Nat) (r : Int), e = .returned (.tuple #[.slice a n c, .int .i64 r, .bool (verR s)]) ∧ Ext W w' := by
    intro W
    refine (hp W).mono ?_
    intro e w' h
    unfold verR
    cases hv : verL s with
    | none => rw [hv] at h; exact h
    | some v =>
      rw [hv] at h
      obtain ⟨X, r⟩ := v
      obtain ⟨a, c, he, _, _, hx⟩ := h
      exact ⟨a, _, c, _, he, hx⟩
  have HP := Lib.hid hp2; clear hp hp2
  obtain ⟨R, hR⟩ : ∃ R : Ending → World → Prop, R = fun e w' => e = .returned (.bool (verR s)) ∧ Ext w w' := ⟨_, rfl⟩
  rw [← hR]
  have HR := Lib.hid hR; clear hR
  obtain ⟨b, hb⟩ : ∃ b, b = verR s := ⟨_, rfl⟩
  rw [← hb] at HR
  go_enter Tryz.func31, Tryz.ntmps31
  go_wp2_with (go_at_call 62; refine (HP.out _).mono ?_; rintro e w1 ⟨a1, n1, c1, r1, rfl, hx1⟩; have HX1 := Lib.hid hx1; clear hx1)
  rw [HR.out, hb]
  exact ⟨rfl, HX1.out⟩
theorem beginsL_if {s t : By} (h : t.length ≤ s.length) : beginsL s t = decide (s.take t.length = t) := by unfold beginsL; rw [decide_eq_true h]; rfl
theorem begins10 (s t : By) (w : World) (hs : s.length ≤ 100000) (ht : t.length ≤ 100000) :
    Calls Tryz.prog 33 #[.string (bs s), .string (bs t)] w fun e w' => e = .returned (.bool (beginsL s t)) ∧ w = w' := by
  obtain ⟨R, hR⟩ : ∃ R : Ending → World → Prop, R = fun e w' => e = .returned (.bool (beginsL s t)) ∧ w = w' := ⟨_, rfl⟩
  rw [← hR]
  have HR := Lib.hid hR; clear hR
  by_cases h : t.length ≤ s.length
  · have hb : decide ((bs t).size ≤ (bs s).size) = true := by rw [bs_size, bs_size]; exact decide_eq_true (by omega)
    have hb2 : (bs t).size ≤ (bs s).size := by rw [bs_size, bs_size]; exact h
    have he : (bs s).extract 0 (bs t).size = bs (s.take t.length) := by rw [bs_size, extract_bs, bs_data, List.drop_zero, Nat.sub_zero]
    have hfin : (((bs s).extract 0 (bs t).size).toList == (bs t).toList) = beginsL s t := by
      rw [he, beginsL_if h, bs_toList, bs_toList]
      by_cases e : s.take t.length = t
      · rw [e]; simp
      · simp [e]
    have hi0 : (0 : Int) ≤ ((bs t).size : Int) := by omega
    have hi1 : ((bs t).size : Int) ≤ ((bs s).size : Int) := by omega
    have HFIN := Lib.hid hfin
    clear h he hfin
    go_enter Tryz.func33, Tryz.ntmps33
    go_wp2_with fail
    rw [HR.out, ← HFIN.out]
    exact ⟨rfl, rfl⟩
  · have hb : decide ((bs t).size ≤ (bs s).size) = false := by rw [bs_size, bs_size]; exact decide_eq_false (by omega)
    have hf : Hid (beginsL s t = false) := Lib.hid (by unfold beginsL; rw [decide_eq_false h]; rfl)
    clear h
    go_enter Tryz.func33, Tryz.ntmps33
    go_wp2_with fail
    rw [HR.out, hf.out]
    exact ⟨rfl, rfl⟩
end Go.Proofs.YtpfcofjianmeaaaGreatDoor
