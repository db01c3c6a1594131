/- A right package fits all bounds of the walks. -/
import Derived.Test.YtnclibfhbngkjaaGreatDoorArcRight
import Derived.Test.YtnclibfhbngkjaaGreatDoorM1
namespace Go.Proofs.YtnclibfhbngkjaaGreatDoor
theorem FitP.of_right {p : PkgD} (h : rightP p = true) : FitP p := by
  have hp := (packP_len h).1
  unfold rightP headP at h
  simp only [Bool.and_eq_true, decide_eq_true_eq] at h
  obtain ⟨⟨h1, h2, h3, h4, h5, h6⟩, h7, h8, h9, h0⟩ := h
  have n1 := nameL_12 h1
  have n2 := verR_30 h2
  have hf := filesTo_all h0
  rw [List.take_length] at hf
  refine ⟨by omega, by omega, by omega, by omega, by omega, by omega, fun x hx => ?_, fun x hx => ?_, fun x hx => ?_, fun x hx => ?_, by omega⟩
  · have := (List.all_eq_true.1 h7) x hx
    unfold needR at this
    simp only [Bool.and_eq_true, Bool.or_eq_true, decide_eq_true_eq] at this
    have i1 := nameL_12 this.1
    have i2 : x.ver.length ≤ 30 := by
      rcases this.2 with e | e
      · rw [e.2]; simp
      · exact verR_30 e.2
    omega
  · have := (List.all_eq_true.1 h8) x hx
    unfold confR at this
    simp only [Bool.and_eq_true] at this
    have i1 := nameL_12 this.1
    omega
  · have := hf x hx
    unfold fileR at this
    simp only [Bool.and_eq_true, decide_eq_true_eq] at this
    have i1 := rightL_40 this.1
    omega
  · have := (List.all_eq_true.1 h9) x hx
    simp only [decide_eq_true_eq] at this
    omega
end Go.Proofs.YtnclibfhbngkjaaGreatDoor
