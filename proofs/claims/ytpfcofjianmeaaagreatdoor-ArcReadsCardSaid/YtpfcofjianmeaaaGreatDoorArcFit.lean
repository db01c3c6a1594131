/- What was read is small enough. No program in sight but the names. -/
import Derived.Test.YtpfcofjianmeaaaGreatDoorArcRight
namespace Go.Proofs.YtpfcofjianmeaaaGreatDoor
theorem rAll_all {α : Type} {one : RSt → α × RSt} {P : α → Prop} (h : ∀ s, P (one s).1) : ∀ (f : Nat) (s : RSt), ∀ x ∈ (rAll one f s).1, P x
  | 0, s => by simp [rAll]
  | f + 1, s => by
    intro x hx
    unfold rAll at hx
    split at hx
    · simp at hx
    · simp only [List.mem_cons] at hx
      rcases hx with rfl | hx
      · exact h s
      · exact rAll_all h f _ x hx
theorem rEach_all {α : Type} {one : RSt → α × RSt} {P : α → Prop} (h : ∀ s, P (one s).1) (s : RSt) : ∀ x ∈ (rEach one s).1, P x := rAll_all h _ s
theorem rRaw_most (most : Nat) (s : RSt) : (rRaw most s).1.length ≤ most := by
  unfold rRaw
  split
  · simp
  · simp only [List.length_take]
    have := rNum_le most s
    omega
theorem flat_len_ge {α : Type} {enc : α → By} (h : ∀ x, 1 ≤ (enc x).length) : ∀ (L : List α), L.length ≤ (L.flatMap enc).length
  | [] => by simp
  | x :: L => by
    have h1 := h x
    have h2 := flat_len_ge h L
    simp only [List.flatMap_cons, List.length_append, List.length_cons]
    omega
theorem unP_needs (b : By) : (unP b).p.needs = (rEach oneNeed (rList (rRaw 30 (rRaw 12 (b, false)).2).2).1).1 := by simp only [unP]
theorem unP_conf (b : By) : (unP b).p.conf = (rEach (oneText 12) (rList (rList (rRaw 30 (rRaw 12 (b, false)).2).2).2).1).1 := by simp only [unP]
theorem unP_files (b : By) : (unP b).p.files = (rEach oneFile (rList (rList (rList (rRaw 30 (rRaw 12 (b, false)).2).2).2).2).1).1 := by simp only [unP]
theorem unP_units (b : By) : (unP b).p.units = (rEach (oneText 300) (rList (rList (rList (rList (rRaw 30 (rRaw 12 (b, false)).2).2).2).2).2).1).1 := by simp only [unP]
theorem oneNeed_fit (s : RSt) : (oneNeed s).1.name.length ≤ 1000 ∧ (oneNeed s).1.ver.length ≤ 1000 := ⟨Nat.le_trans (rRaw_most 12 s) (by omega), Nat.le_trans (rRaw_most 30 (rNum 3 (rRaw 12 s).2).2) (by omega)⟩
theorem oneFile_fit (s : RSt) : (oneFile s).1.path.length ≤ 1000 ∧ (oneFile s).1.data.length ≤ 1000 := ⟨Nat.le_trans (rRaw_most 40 s) (by omega), Nat.le_trans (rRaw_most 512 (rNum 1 (rRaw 40 s).2).2) (by omega)⟩
theorem oneText_fit (n : Nat) (hn : n ≤ 1000) (s : RSt) : (oneText n s).1.length ≤ 1000 := Nat.le_trans (rRaw_most n s) hn
theorem unP_fit {b : By} (h : (unP b).ok = true) (hl : b.length ≤ 100000) : FitP (unP b).p := by
  have hp := unP_good h
  have hs := packP_size (unP b).p
  rw [hp] at hs
  have g1 := flat_len_ge (enc := needB) (fun x => by rw [needB_len]; omega) (unP b).p.needs
  have g2 := flat_len_ge (enc := raw4) (fun x => by rw [raw4_len]; omega) (unP b).p.conf
  have g3 := flat_len_ge (enc := fileB) (fun x => by rw [fileB_len]; omega) (unP b).p.files
  have g4 := flat_len_ge (enc := raw4) (fun x => by rw [raw4_len]; omega) (unP b).p.units
  refine ⟨?_, ?_, by omega, by omega, by omega, by omega, ?_, ?_, ?_, ?_, by rw [hp]; exact hl⟩
  · exact Nat.le_trans (rRaw_most 12 (b, false)) (by omega)
  · exact Nat.le_trans (rRaw_most 30 (rRaw 12 (b, false)).2) (by omega)
  · rw [unP_needs]; exact rEach_all (P := fun n : NeedD => n.name.length ≤ 1000 ∧ n.ver.length ≤ 1000) oneNeed_fit _
  · rw [unP_conf]; exact rEach_all (P := fun n : By => n.length ≤ 1000) (oneText_fit 12 (by omega)) _
  · rw [unP_files]; exact rEach_all (P := fun f : FileD => f.path.length ≤ 1000 ∧ f.data.length ≤ 1000) oneFile_fit _
  · rw [unP_units]; exact rEach_all (P := fun n : By => n.length ≤ 1000) (oneText_fit 300 (by omega)) _
end Go.Proofs.YtpfcofjianmeaaaGreatDoor
