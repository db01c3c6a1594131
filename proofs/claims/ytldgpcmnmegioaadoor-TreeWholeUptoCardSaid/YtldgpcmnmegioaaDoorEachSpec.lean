/- Plain words on lists that a record's reader takes, one part behind the other, as long as there is more. No program in sight. -/
import Derived.Test.YtldgpcmnmegioaaDoorM1
namespace Go.Proofs.YtldgpcmnmegioaaDoor
variable {α : Type}
def rAll (one : RSt → α × RSt) : Nat → RSt → List α × RSt
  | 0, s => ([], s)
  | f + 1, s => if s.1.length = 0 then ([], s) else ((one s).1 :: (rAll one f (one s).2).1, (rAll one f (one s).2).2)
/-- A reader of a part takes something. -/
def Takes (one : RSt → α × RSt) : Prop := ∀ s, 0 < s.1.length → (one s).2.1.length < s.1.length
theorem rAll_fuel {one : RSt → α × RSt} (less : Takes one) : ∀ (f g : Nat) (s : RSt), s.1.length ≤ f → s.1.length ≤ g → rAll one f s = rAll one g s
  | 0, 0, s, _, _ => rfl
  | 0, g + 1, s, h, _ => by have : s.1.length = 0 := by omega
                            simp only [rAll, if_pos this]
  | f + 1, 0, s, _, h => by have : s.1.length = 0 := by omega
                            simp only [rAll, if_pos this]
  | f + 1, g + 1, s, hf, hg => by
    by_cases h0 : s.1.length = 0
    · simp only [rAll, if_pos h0]
    · have hl := less s (by omega)
      simp only [rAll, if_neg h0, rAll_fuel less f g (one s).2 (by omega) (by omega)]
/-- All parts of a list, and what is left of it. -/
def rEach (one : RSt → α × RSt) (s : RSt) : List α × RSt := rAll one s.1.length s
theorem rEach_nil (one : RSt → α × RSt) {s : RSt} (h : s.1.length = 0) : rEach one s = ([], s) := by
  unfold rEach; rw [h]; rfl
theorem rEach_cons {one : RSt → α × RSt} (less : Takes one) {s : RSt} (h : 0 < s.1.length) :
    rEach one s = ((one s).1 :: (rEach one (one s).2).1, (rEach one (one s).2).2) := by
  have hl := less s h
  unfold rEach
  obtain ⟨n, hn⟩ : ∃ n, s.1.length = n + 1 := ⟨s.1.length - 1, by omega⟩
  rw [hn]
  simp only [rAll, if_neg (show ¬ s.1.length = 0 by omega), rAll_fuel less n _ (one s).2 (by omega) (Nat.le_refl _)]
/-- What was read goes back to the same bytes. -/
theorem rEach_good {one : RSt → α × RSt} {enc : α → List UInt8} (less : Takes one) (hone : ∀ s x l, one s = (x, (l, false)) → s.2 = false ∧ s.1 = enc x ++ l) :
    ∀ (n : Nat) (s : RSt) (L : List α) (l : List UInt8), s.1.length ≤ n → rEach one s = (L, (l, false)) → s.2 = false ∧ s.1 = L.flatMap enc ++ l ∧ L.length + l.length ≤ s.1.length := by
  intro n
  induction n with
  | zero =>
    intro s L l hs h
    rw [rEach_nil one (by omega)] at h
    simp only [Prod.mk.injEq] at h
    obtain ⟨rfl, h⟩ := h
    subst h
    simp
  | succ n ih =>
    intro s L l hs h
    by_cases h0 : s.1.length = 0
    · rw [rEach_nil one h0] at h
      simp only [Prod.mk.injEq] at h
      obtain ⟨rfl, h⟩ := h
      subst h
      simp
    · have hl := less s (by omega)
      rw [rEach_cons less (by omega)] at h
      simp only [Prod.mk.injEq] at h
      obtain ⟨rfl, h⟩ := h
      obtain ⟨h1, h2, h3⟩ := ih (one s).2 (rEach one (one s).2).1 l (by omega) (by rw [← h])
      have e : one s = ((one s).1, ((one s).2.1, false)) := by rw [← h1]
      obtain ⟨g1, g2⟩ := hone s _ _ e
      refine ⟨g1, ?_, ?_⟩
      · rw [List.flatMap_cons, List.append_assoc, ← h2]; exact g2
      · simp only [List.length_cons]; omega
/-- A text of a list. -/
def oneText (most : Nat) (s : RSt) : List UInt8 × RSt := rRaw most s
theorem oneText_takes (most : Nat) : Takes (oneText most) := fun _ h => rRaw_less h
theorem oneText_good {most : Nat} {s : RSt} {x l : List UInt8} (h : oneText most s = (x, (l, false))) : s.2 = false ∧ s.1 = raw4 x ++ l := by
  have := rRaw_good h; exact ⟨this.1, this.2.1⟩
/-- A number from four bytes' range or not. -/
def u32 (n : Int) : Nat := (n % 4294967296).toNat
theorem u32_lt (n : Int) : u32 n < 4294967296 := by unfold u32; omega
theorem u32_of {n : Nat} (h : n < 4294967296) : u32 (n : Int) = n := by unfold u32; omega
def numI (n : Int) : List UInt8 := num4 (u32 n)
theorem numI_len (n : Int) : (numI n).length = 4 := rfl
theorem raw4_len (l : List UInt8) : (raw4 l).length = 4 + l.length := by simp [raw4, num4_len]
end Go.Proofs.YtldgpcmnmegioaaDoor
