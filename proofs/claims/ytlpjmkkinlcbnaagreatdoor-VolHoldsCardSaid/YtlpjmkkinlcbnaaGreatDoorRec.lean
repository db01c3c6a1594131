/- Bytes in memory, and what a rec.Reader has left; the contracts of rec's readers. -/
import Derived.Test.YtlpjmkkinlcbnaaGreatDoorM1
import Derived.BigQuiet
import Derived.Deep.QuietTactic
namespace Go.Proofs.YtlpjmkkinlcbnaaGreatDoor
open Go.RowKit
/-- A reader stands in this block, its bytes in blocks of a kind. -/
def Rd (S : Nat → Prop) (w : World) (R : Nat) (s : RSt) : Prop :=
  ∃ a c, w.heap[R]? = some (.cells #[.slice a s.1.length c, .bool s.2] 122 (0, 0)) ∧ s.1.length ≤ c ∧ BytesS S w a s.1
theorem Rd.lt {S : Nat → Prop} {w : World} {R : Nat} {s : RSt} (h : Rd S w R s) : R < w.heap.size := by
  obtain ⟨a, c, hg, _⟩ := h
  exact (Array.getElem?_eq_some_iff.1 hg).1
theorem cell_not {S : Nat → Prop} {w : World} {R : Nat} {s : RSt} (h : Rd S w R s) {g o : Nat} {v : Value} (hv : w.cell? ⟨g, o, none⟩ = some v) (h1 : ∀ a n c, v ≠ .slice a n c) (h2 : ∀ b, v ≠ .bool b) : g ≠ R := by
  rintro rfl
  obtain ⟨a, c, hg, _⟩ := h
  unfold World.cell? at hv
  simp only [hg] at hv
  match o, hv with
  | 0, hv => simp at hv; exact h1 _ _ _ hv.symm
  | 1, hv => simp at hv; exact h2 _ hv.symm
  | o + 2, hv => simp at hv
theorem Bytes.but {S : Nat → Prop} {w w' : World} {R : Nat} {s : RSt} {a : Option Addr} {l : List UInt8} (hR : Rd S w R s) (h : Bytes w a l) (k : But R w w') : Bytes w' a l := by
  rcases h with h | ⟨g, off, ha, hg, hc⟩
  · exact Or.inl h
  · refine Or.inr ⟨g, off, ha, Nat.lt_of_lt_of_le hg k.size, fun i hi => k.cell ?_ (hc i hi)⟩
    exact cell_not hR (hc i hi) (by intros; simp) (by intros; simp)
theorem BytesS.but {S T : Nat → Prop} {w w' : World} {R : Nat} {s : RSt} {a : Option Addr} {l : List UInt8} (hR : Rd S w R s) (h : BytesS T w a l) (k : But R w w') : BytesS T w' a l := by
  rcases h with h | ⟨g, off, ha, hg, hS, hc⟩
  · exact Or.inl h
  · refine Or.inr ⟨g, off, ha, Nat.lt_of_lt_of_le hg k.size, hS, fun i hi => ?_⟩
    have hi' : i < l.length := by simpa [byteV] using hi
    have h1 := hc i hi
    rw [byteV_at hi'] at h1 ⊢
    exact k.cell (cell_not hR h1 (by intros; simp) (by intros; simp)) h1
theorem Rd.but {S T : Nat → Prop} {w w' : World} {R Q : Nat} {s t : RSt} (hR : Rd S w R s) (h : Rd T w Q t) (k : But R w w') (hne : Q ≠ R) : Rd T w' Q t := by
  have hlt := h.lt
  obtain ⟨a, c, hg, hc, hb⟩ := h
  exact ⟨a, c, (k.block Q hlt hne).trans hg, hc, hb.but hR k⟩
theorem Rd.ext {S : Nat → Prop} {w w' : World} {Q : Nat} {t : RSt} (h : Rd S w Q t) (k : Ext w w') : Rd S w' Q t := by
  obtain ⟨a, c, hg, hc, hb⟩ := h
  exact ⟨a, c, k.heap hg, hc, Row.keep hb (Keep.of_ext k)⟩
theorem Rd.keep {S T : Nat → Prop} {w w' : World} {Q : Nat} {t : RSt} (h : Rd S w Q t) (k : Keep T w w') (hQ : T Q) (hS : ∀ g, g < w.heap.size → S g → T g) : Rd S w' Q t := by
  obtain ⟨a, c, hg, hc, hb⟩ := h
  refine ⟨a, c, k.heap hQ hg, hc, ?_⟩
  rcases hb with hb | ⟨g, off, ha, hlt, hSg, hcell⟩
  · exact Or.inl hb
  · refine Or.inr ⟨g, off, ha, Nat.lt_of_lt_of_le hlt k.size, hSg, fun i hi => ?_⟩
    have := hcell i hi
    rw [List.getElem?_eq_getElem hi] at this ⊢
    exact k.cell (hS g hlt hSg) this
theorem Rd.mono {S T : Nat → Prop} {w : World} {Q : Nat} {t : RSt} (h : Rd S w Q t) (hT : ∀ g, g < w.heap.size → S g → T g) : Rd T w Q t := by
  obtain ⟨a, c, hg, hc, hb⟩ := h
  exact ⟨a, c, hg, hc, Row.mono hb hT⟩
theorem rd_num_bad {S : Nat → Prop} {w : World} {R : Nat} {s : RSt} (h : Rd S w R s) : But R w ((w.setCell ⟨R, 1, none⟩ (.bool true)).setCell ⟨R, 0, none⟩ (.slice none 0 0)) ∧ Rd S ((w.setCell ⟨R, 1, none⟩ (.bool true)).setCell ⟨R, 0, none⟩ (.slice none 0 0)) R ([], true) := by
  obtain ⟨a, c, hg, hc, hb⟩ := h
  refine ⟨((But.refl R w).setCell 1 _).setCell 0 _, none, 0, ?_, Nat.le_refl _, Or.inl rfl⟩
  rw [setCell_row (setCell_row hg _)]
  rfl
theorem rd_cut {S : Nat → Prop} {w : World} {R g off c k : Nat} {s : RSt} {a' : Option Addr} {c' : Nat} (hg : w.heap[R]? = some (.cells #[.slice (some ⟨g, off, none⟩) s.1.length c, .bool s.2] 122 (0, 0))) (hc : s.1.length ≤ c) (hb : BytesS S w (some ⟨g, off, none⟩) s.1) (hk : k ≤ s.1.length)
    (ha : s.1.length = k ∨ a' = some ⟨g, off + k, none⟩) (hc' : s.1.length - k ≤ c') :
    But R w (w.setCell ⟨R, 0, none⟩ (.slice a' (s.1.length - k) c')) ∧ Rd S (w.setCell ⟨R, 0, none⟩ (.slice a' (s.1.length - k) c')) R (s.1.drop k, s.2) := by
  have hB : But R w (w.setCell ⟨R, 0, none⟩ (.slice a' (s.1.length - k) c')) := (But.refl R w).setCell 0 _
  have hR : Rd S w R s := ⟨_, _, hg, hc, hb⟩
  refine ⟨hB, a', c', ?_, by simpa using hc', ?_⟩
  · rw [setCell_row hg]; simp
  · rcases ha with h | rfl
    · left; simp [byteV, h]
    · have hb2 := hb.but hR hB
      rcases hb2 with h | ⟨g', off', ha, hlt, hSg, hcell⟩
      · left
        have : s.1 = [] := by simpa [byteV] using h
        simp [byteV, this]
      · have ha := Option.some.inj ha
        obtain ⟨rfl, rfl⟩ : g = g' ∧ off = off' := by constructor <;> (cases ha; rfl)
        right
        refine ⟨g, off + k, rfl, hlt, hSg, fun i hi => ?_⟩
        have hi' : k + i < s.1.length := by simp [byteV] at hi; omega
        have := hcell (k + i) (by simpa [byteV] using hi')
        rw [← Nat.add_assoc] at this
        rw [this]
        simp [byteV, List.getElem?_drop]
theorem rd_facts {w : World} {R : Nat} {v0 v1 : Value} {t : TypeId} (hg : w.heap[R]? = some (.cells #[v0, v1] t (0, 0))) :
    w.cell? ⟨R, 0, none⟩ = some v0 ∧ w.cell? ⟨R, 1, none⟩ = some v1 ∧ w.frozen? ⟨R, 0, none⟩ = false ∧ w.frozen? ⟨R, 1, none⟩ = false := by
  refine ⟨?_, ?_, ?_, ?_⟩
  · unfold World.cell?; simp only [hg]; simp
  · unfold World.cell?; simp only [hg]; simp
  · unfold World.frozen?; simp only [hg]; simp
  · unfold World.frozen?; simp only [hg]; simp
end Go.Proofs.YtlpjmkkinlcbnaaGreatDoor
