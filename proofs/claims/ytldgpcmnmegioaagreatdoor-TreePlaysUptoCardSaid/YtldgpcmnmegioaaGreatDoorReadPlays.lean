/- Batches of operations that came in, with the numbers that are taken away. -/
import Derived.Test.YtldgpcmnmegioaaGreatDoorM7
import Derived.Test.YtldgpcmnmegioaaGreatDoorM5
namespace Go.Proofs.YtldgpcmnmegioaaGreatDoor
open Go.RowKit Go.WideShapes Go.ChangeShapes Go.Deep
/-- What lies in a batch's second part. -/
def ReapsM (w : World) (x : BatchD × List Int) : Prop := x.1.rn = x.2.length ∧ RunM w x.1.ra (intV x.2) ∧ ∀ z ∈ x.2, -9223372036854775808 ≤ z ∧ z ≤ 9223372036854775807
theorem ReapsM.ext {w w' : World} {x : BatchD × List Int} (h : ReapsM w x) (k : Ext w w') : ReapsM w' x := ⟨h.1, h.2.1.ext k, h.2.2⟩
section
variable {H : Type} {enc : TypeId × Value → H} {w : World} {base : Nat} {spare : Nat → Bool} {held : Bool}
def intR1 (_w : World) (cs : List Value) (z : Int) : Prop := cs = [.int .i64 z] ∧ -9223372036854775808 ≤ z ∧ z ≤ 9223372036854775807
theorem wf_range {z : Int} (h : (Lit.int .i64 z).wf = true) : -9223372036854775808 ≤ z ∧ z ≤ 9223372036854775807 := by
  unfold Lit.wf IntKind.min IntKind.max at h
  have e1 : IntKind.i64.signed = true := rfl
  have e2 : IntKind.i64.bits = 64 := rfl
  simp only [e1, e2, if_true, Bool.and_eq_true, decide_eq_true_eq] at h
  omega
theorem SliceOf.ints {a : Option Addr} {X : List Int} (h : SliceOf 1 intR1 w a X) : RunM w a (intV X) ∧ ∀ z ∈ X, -9223372036854775808 ≤ z ∧ z ≤ 9223372036854775807 := by
  rcases h with h | ⟨g, off, ha, hg, hc⟩
  · subst h; exact ⟨Or.inl rfl, by simp⟩
  · refine ⟨Or.inr ⟨g, off, ha, hg, fun j u hj => ?_⟩, fun z hz => ?_⟩
    · unfold intV at hj
      rw [List.getElem?_map] at hj
      cases hx : X[j]? with
      | none => rw [hx] at hj; cases hj
      | some z =>
        rw [hx] at hj
        obtain ⟨hjl, he⟩ := List.getElem?_eq_some_iff.1 hx
        obtain ⟨cs, _, h2, h3, _⟩ := hc j hjl
        subst h3
        have := h2 0 (by omega)
        rw [Nat.mul_one, Nat.add_zero] at this
        rw [this, he]
        exact hj
    · obtain ⟨i, hi, rfl⟩ := List.getElem_of_mem hz
      obtain ⟨cs, _, _, h3⟩ := hc i hi
      exact h3.2
theorem read_ints {fuel : Nat} {cs : List Value} {x : DataW H × List MemPlace} (h : DataW.trod enc Tryz.prog w base spare held fuel 33 cs = some x) :
    ∃ (a : Option Addr) (X : List Int) (c : Nat), cs = [.slice a X.length c] ∧ RunM w a (intV X) ∧ ∀ z ∈ X, -9223372036854775808 ≤ z ∧ z ≤ 9223372036854775807 := by
  obtain ⟨a, X, c, h1, _, h3, _⟩ := read_slice (R := intR1) (wt := fun _ => 1) Tryz.underlying33 cells_i1 (by decide) (fun n cs y hy => by
    obtain ⟨z, e, _, hw⟩ := DataW.trod_int Tryz.underlying3 hy
    exact ⟨z, ⟨e, wf_range hw⟩, bulk_pos _⟩) h
  exact ⟨a, X, c, h1, h3.ints.1, h3.ints.2⟩
def batR3 (w : World) (cs : List Value) (x : BatchD × List Int) : Prop := batR2 w cs x.1 ∧ ReapsM w x
set_option maxRecDepth 100000 in
theorem read_batch3 {fuel : Nat} {cs : List Value} {x : DataW H × List MemPlace} (h : DataW.trod enc Tryz.prog w base spare held fuel 35 cs = some x) : ∃ y, batR3 w cs y ∧ 1 + y.1.L.length ≤ Rows.uptoBulk x.1 := by
  obtain ⟨ys, n, _, hx, hlen, hyl, hf⟩ := DataW.trod_struct Tryz.underlying35 h
  rw [cells_batch2] at hlen
  have h0 := hf 0 _ rfl
  have h1 := hf 1 _ rfl
  change DataW.trod enc Tryz.prog w base spare held n 32 ((cs.drop 0).take (Tryz.prog.cellsOf 32)) = _ at h0
  change DataW.trod enc Tryz.prog w base spare held n 33 ((cs.drop 1).take (Tryz.prog.cellsOf 33)) = _ at h1
  rw [cells_os1] at h0
  rw [cells_is1] at h1
  have hy0 : ys[0]? = some (ys[0]'(by rw [hyl]; decide)) := List.getElem?_eq_getElem _
  have hy1 : ys[1]? = some (ys[1]'(by rw [hyl]; decide)) := List.getElem?_eq_getElem _
  have hm0 : (ys[0]'(by rw [hyl]; decide)).1 ∈ ys.map (·.1) := List.mem_map_of_mem (List.getElem_mem _)
  rw [hy0] at h0
  rw [hy1] at h1
  match cs, hlen with
  | [c0, c1], _ =>
    simp only [List.drop_zero, List.take_succ_cons, List.take_zero, List.drop_succ_cons] at h0 h1
    obtain ⟨a, L, c, e0, _, hO, hb⟩ := read_ops h0
    obtain ⟨ra, X, rc, e1, hX, hr⟩ := read_ints h1
    cases e0
    cases e1
    refine ⟨(⟨L, a, c, ra, X.length, rc⟩, X), ⟨⟨rfl, hO⟩, rfl, hX, hr⟩, ?_⟩
    have := bulk_mem hm0
    rw [hx]
    simp only [Rows.uptoBulk]
    show 1 + L.length ≤ _
    omega
def bz3 : BatchD × List Int := (bz, [])
theorem SliceOf.batches3 {a : Option Addr} {B : List (BatchD × List Int)} (h : SliceOf 2 batR3 w a B) : BatchL w a (B.map Prod.fst) ∧ ∀ x ∈ B, ReapsM w x := by
  rcases h with h | ⟨g, off, ha, hg, hc⟩
  · subst h; exact ⟨Or.inl rfl, by simp⟩
  · refine ⟨Or.inr ⟨g, off, ha, hg, fun i hi => ?_⟩, fun x hx => ?_⟩
    · rw [List.length_map] at hi
      obtain ⟨cs, _, h2, ⟨h3, h4⟩, _⟩ := hc i hi
      have e : (B.map Prod.fst).getD i bz = B[i].1 := by simp [List.getD_eq_getElem?_getD, List.getElem?_eq_getElem hi]
      rw [e]
      subst h3
      exact ⟨⟨h2 0 (by omega), h2 1 (by omega)⟩, h4⟩
    · obtain ⟨i, hi, rfl⟩ := List.getElem_of_mem hx
      obtain ⟨cs, _, _, h3⟩ := hc i hi
      exact h3.2
set_option maxRecDepth 100000 in
/-- A []Batch that came in, with the numbers that are taken away. -/
theorem open_batches3 {b0 : Nat} {v : Value} {d : DataW H} {ps : List MemPlace} (hval : Value.okWide Tryz.prog w .any b0 22 v) (hd : DataW.Trod enc Tryz.prog w base spare held 22 v d ps) :
    ∃ (a : Option Addr) (B : List (BatchD × List Int)) (c : Nat), v = .slice a B.length c ∧ B.length ≤ c ∧ BatchL w a (B.map Prod.fst) ∧ (∀ x ∈ B, ReapsM w x) ∧ sumB2 (B.map Prod.fst) + 1 ≤ Rows.uptoBulk d := by
  obtain ⟨a0, len, cap, rfl⟩ := okWide_slice Tryz.underlying22 hval
  obtain ⟨fuel, hf⟩ := hd
  obtain ⟨a, B, c, h1, h2, h3, h4⟩ := read_slice (R := batR3) (wt := fun x => 1 + x.1.L.length) Tryz.underlying22 cells_batch2 (by decide) (fun n cs y hy => read_batch3 hy) hf
  simp [Value.cells] at h1
  obtain ⟨rfl, rfl, rfl⟩ := h1
  refine ⟨a0, B, cap, rfl, h2, h3.batches3.1, h3.batches3.2, ?_⟩
  unfold sumB2
  rw [List.map_map]
  exact h4
end
end Go.Proofs.YtldgpcmnmegioaaGreatDoor
