/- Nodes that are visited in some order. -/
import Derived.Test.YtldgpcmnmegioaaGreatDoorTreeLaws
namespace Go.Proofs.YtldgpcmnmegioaaGreatDoor
def seenT (I : List Int) (left : Int → Bool) : List Int := I.filter fun i => !left i
theorem seen_step {I : List Int} (hn : I.Nodup) {left : Int → Bool} {x : Int} (hx : x ∈ I) (hl : left x = true) :
    (seenT I fun z => left z && !decide (z = x)).Perm (x :: seenT I left) := by
  have h1 : (seenT I fun z => left z && !decide (z = x)).Nodup := hn.filter _
  have h2 : (x :: seenT I left).Nodup := by
    rw [List.nodup_cons]
    refine ⟨fun h => ?_, hn.filter _⟩
    have := (List.mem_filter.1 h).2
    rw [hl] at this; cases this
  refine (List.perm_ext_iff_of_nodup h1 h2).2 fun z => ?_
  unfold seenT
  rw [List.mem_cons, List.mem_filter, List.mem_filter]
  by_cases hz : z = x
  · subst hz; simp [hx]
  · simp [hz]
theorem seen_mem {I : List Int} {left : Int → Bool} {x : Int} (hx : x ∈ I) (z : Int) : z ∈ seenT I (fun z => left z && !decide (z = x)) ↔ z = x ∨ z ∈ seenT I left := by
  unfold seenT
  rw [List.mem_filter, List.mem_filter]
  by_cases hz : z = x
  · subst hz; simp [hx]
  · simp [hz]
theorem seen_none {I : List Int} {left : Int → Bool} (h : ∀ x ∈ I, left x = true) : seenT I left = [] := by
  unfold seenT
  rw [List.filter_eq_nil_iff]
  intro x hx; simp [h x hx]
theorem seen_all {I : List Int} {left : Int → Bool} (h : ∀ x, left x = false) : seenT I left = I := by
  unfold seenT
  rw [List.filter_eq_self]
  intro x _; simp [h x]
theorem seen_sum {I : List Int} (hn : I.Nodup) {left : Int → Bool} {x : Int} (hx : x ∈ I) (hl : left x = true) (f : Int → Nat) :
    ((seenT I fun z => left z && !decide (z = x)).map f).sum = f x + ((seenT I left).map f).sum := by
  rw [((seen_step hn hx hl).map f).sum_nat, List.map_cons, List.sum_cons]
theorem seen_len {I : List Int} {left : Int → Bool} : (seenT I left).length ≤ I.length := List.length_filter_le _ _
theorem sum_le (L : List Int) (f : Int → Nat) (B : Nat) (h : ∀ i ∈ L, f i ≤ B) : (L.map f).sum ≤ L.length * B := by
  induction L with
  | nil => simp
  | cons a L ih =>
    have h1 := h a (by simp)
    have h2 := ih (fun i hi => h i (by simp [hi]))
    rw [List.map_cons, List.sum_cons, List.length_cons, Nat.add_mul]
    omega
/-- What a filter has of what was seen. -/
theorem seen_filter {I : List Int} (hn : I.Nodup) {left : Int → Bool} {x : Int} (hx : x ∈ I) (hl : left x = true) (p : Int → Bool) {L : List Int} (hL : L.Perm ((seenT I left).filter p)) :
    (if p x then L ++ [x] else L).Perm ((seenT I fun z => left z && !decide (z = x)).filter p) := by
  have h := (seen_step hn hx hl).filter p
  refine List.Perm.trans ?_ h.symm
  rw [List.filter_cons]
  split
  · exact (List.perm_append_comm (l₁ := L) (l₂ := [x])).trans (hL.cons x)
  · exact hL
end Go.Proofs.YtldgpcmnmegioaaGreatDoor
