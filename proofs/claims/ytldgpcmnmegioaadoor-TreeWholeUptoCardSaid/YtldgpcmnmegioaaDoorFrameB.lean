/- Arguments opened: bytes. -/
import Derived.Test.YtldgpcmnmegioaaDoorM1
import Derived.ChangeSlices
namespace Go.Proofs.YtldgpcmnmegioaaDoor
open Go.RowKit Go.WideShapes Go.ChangeShapes
theorem cells_u8 : Tryd.prog.cellsOf 5 = 1 := by kernel_rfl
/-- An address at which a cell is read is a plain one. -/
theorem addr_plain {W : World} {a : Addr} {v : Value} (h : W.cell? a = some v) : ∃ g off, a = ⟨g, off, none⟩ ∧ g < W.heap.size := by
  have hspot : a.spot = none := by
    cases hs : a.spot with
    | none => rfl
    | some x =>
      simp only [World.cell?] at h
      split at h
      · rw [hs] at h; simp at h
      · cases h
  have hblk : a.block < W.heap.size := by
    rcases Nat.lt_or_ge a.block W.heap.size with h1 | h1
    · exact h1
    · have e : W.heap[a.block]? = none := Array.getElem?_eq_none h1
      simp [World.cell?, e] at h
  obtain ⟨g, off, sp⟩ := a
  simp only at hspot hblk
  subst hspot
  exact ⟨g, off, rfl, hblk⟩
theorem add_plain (g off n : Nat) : (⟨g, off, none⟩ : Addr).add n = ⟨g, off + n, none⟩ := by
  unfold Addr.add; split
  · rename_i h0; subst h0; rfl
  · rfl
set_option maxRecDepth 100000 in
/-- A []byte that came in. -/
theorem open_bytes {H : Type} {enc : TypeId × Value → H} {W : World} {base b0 : Nat} {v : Value} {d : DataW H} {ps : List MemPlace} {held : Bool}
    (hval : Value.okWide Tryd.prog W .any b0 34 v) (hd : DataW.Trod enc Tryd.prog W base (fun _ => true) held 34 v d ps) :
    ∃ (a : Option Addr) (l : List UInt8) (c : Nat), v = .slice a l.length c ∧ l.length ≤ c ∧ Bytes W a l := by
  obtain ⟨a0, len, cap, rfl⟩ := okWide_slice Tryd.underlying34 hval
  obtain ⟨fuel, hf⟩ := hd
  rcases open_ints Tryd.underlying34 Tryd.underlying5 cells_u8 hf with ⟨hcs, hx⟩ | ⟨a, len', cap', zs, hcs, _, hl, hm, hz, hx, hcell, hwf⟩
  · simp [Value.cells] at hcs
    obtain ⟨rfl, rfl, rfl⟩ := hcs
    exact ⟨none, [], 0, rfl, Nat.le_refl _, Or.inl rfl⟩
  · simp [Value.cells] at hcs
    obtain ⟨rfl, rfl, rfl⟩ := hcs
    have hz' : zs.length = cap := by simpa using hz
    have hLl : ((zs.take len).map fun n => UInt8.ofNat n.toNat).length = len := by simp; omega
    refine ⟨some a, (zs.take len).map fun n => UInt8.ofNat n.toNat, cap, by rw [hLl], by rw [hLl]; exact hl, ?_⟩
    rcases Nat.eq_zero_or_pos len with h0 | h0
    · left; subst h0; simp
    · have hc0 := hcell 0 (by omega)
      have e0 : a.add 0 = a := by simp [Addr.add]
      rw [e0] at hc0
      obtain ⟨g, off, rfl, hlt⟩ := addr_plain hc0
      refine Or.inr ⟨_, _, rfl, hlt, fun i hi => ?_⟩
      have hi' : i < len := by rw [hLl] at hi; exact hi
      have hc := hcell i (by omega)
      rw [add_plain] at hc
      rw [hc]
      have hi2 : i < zs.length := by omega
      have hw := hwf (zs.getD i 0) (by rw [List.getD_eq_getElem?_getD, List.getElem?_eq_getElem hi2]; simp)
      have hb : 0 ≤ zs.getD i 0 ∧ zs.getD i 0 < 256 := by
        simp only [Lit.wf, Bool.and_eq_true, decide_eq_true_eq] at hw
        have h1 : IntKind.u8.min = 0 := by decide
        have h2 : IntKind.u8.max = 255 := by decide
        rw [h1, h2] at hw
        omega
      simp [byteAt, hi', hi2] at hb ⊢
      omega
end Go.Proofs.YtldgpcmnmegioaaDoor
