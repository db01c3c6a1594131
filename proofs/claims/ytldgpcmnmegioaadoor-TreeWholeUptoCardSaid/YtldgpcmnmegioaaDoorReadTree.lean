/- Batches of operations that came in. -/
import Derived.Test.YtldgpcmnmegioaaDoorRead
import Derived.Test.YtldgpcmnmegioaaDoorTreeFew
namespace Go.Proofs.YtldgpcmnmegioaaDoor
open Go.RowKit Go.WideShapes Go.ChangeShapes Go.Deep
section
variable {H : Type} {enc : TypeId × Value → H} {w : World} {base : Nat} {spare : Nat → Bool} {held : Bool}
theorem bulk_pos (d : DataW H) : 1 ≤ Rows.uptoBulk d := by
  cases d with
  | lit l => cases l <;> simp [Rows.uptoBulk]
  | _ => simp [Rows.uptoBulk]
theorem bulk_mem {d : DataW H} : ∀ {l : List (DataW H)}, d ∈ l → Rows.uptoBulk d ≤ Rows.uptoBulkAll l
  | x :: l, h => by
    simp only [Rows.uptoBulkAll]
    rcases List.mem_cons.1 h with rfl | h
    · omega
    · have := bulk_mem h; omega
theorem sum_ones {α : Type} (L : List α) : (L.map fun _ => 1).sum = L.length := by
  induction L with
  | nil => rfl
  | cons a L ih => rw [List.map_cons, List.sum_cons, ih, List.length_cons]; omega
theorem cells_op4 : Tryd.prog.cellsOf 36 = 4 := by kernel_rfl
theorem cells_batch2 : Tryd.prog.cellsOf 28 = 2 := by kernel_rfl
theorem cells_i1 : Tryd.prog.cellsOf 3 = 1 := by kernel_rfl
theorem cells_s1 : Tryd.prog.cellsOf 9 = 1 := by kernel_rfl
theorem cells_bs1 : Tryd.prog.cellsOf 34 = 1 := by kernel_rfl
theorem cells_os1 : Tryd.prog.cellsOf 23 = 1 := by kernel_rfl
theorem cells_is1 : Tryd.prog.cellsOf 26 = 1 := by kernel_rfl
def opR4 (w : World) (cs : List Value) (x : OpD × OpA) : Prop := cs = opV x ∧ Bytes w x.2.oa x.1.data
set_option maxRecDepth 100000 in
theorem read_op {fuel : Nat} {cs : List Value} {x : DataW H × List MemPlace} (h : DataW.trod enc Tryd.prog w base spare held fuel 36 cs = some x) : ∃ y, opR4 w cs y := by
  obtain ⟨ys, n, _, _, hlen, hyl, hf⟩ := DataW.trod_struct Tryd.underlying36 h
  rw [cells_op4] at hlen
  have h0 := hf 0 _ rfl
  have h1 := hf 1 _ rfl
  have h2 := hf 2 _ rfl
  have h3 := hf 3 _ rfl
  change DataW.trod enc Tryd.prog w base spare held n 3 ((cs.drop 0).take (Tryd.prog.cellsOf 3)) = _ at h0
  change DataW.trod enc Tryd.prog w base spare held n 9 ((cs.drop 1).take (Tryd.prog.cellsOf 9)) = _ at h1
  change DataW.trod enc Tryd.prog w base spare held n 9 ((cs.drop 2).take (Tryd.prog.cellsOf 9)) = _ at h2
  change DataW.trod enc Tryd.prog w base spare held n 34 ((cs.drop 3).take (Tryd.prog.cellsOf 34)) = _ at h3
  rw [cells_i1] at h0
  rw [cells_s1] at h1 h2
  rw [cells_bs1] at h3
  have hy0 : ys[0]? = some (ys[0]'(by rw [hyl]; decide)) := List.getElem?_eq_getElem _
  have hy1 : ys[1]? = some (ys[1]'(by rw [hyl]; decide)) := List.getElem?_eq_getElem _
  have hy2 : ys[2]? = some (ys[2]'(by rw [hyl]; decide)) := List.getElem?_eq_getElem _
  have hy3 : ys[3]? = some (ys[3]'(by rw [hyl]; decide)) := List.getElem?_eq_getElem _
  rw [hy0] at h0
  rw [hy1] at h1
  rw [hy2] at h2
  rw [hy3] at h3
  match cs, hlen with
  | [c0, c1, c2, c3], _ =>
    simp only [List.drop_zero, List.take_succ_cons, List.take_zero, List.drop_succ_cons] at h0 h1 h2 h3
    obtain ⟨k, e0, _⟩ := DataW.trod_int Tryd.underlying3 h0
    obtain ⟨s1, e1, _⟩ := DataW.trod_string Tryd.underlying9 h1
    obtain ⟨s2, e2, _⟩ := DataW.trod_string Tryd.underlying9 h2
    obtain ⟨a, l, c, e3, _, hB⟩ := read_u8s h3
    cases e0
    cases e1
    cases e2
    cases e3
    refine ⟨(⟨k, s1.data.toList, s2.data.toList, l⟩, ⟨a, c⟩), ?_, hB⟩
    unfold opV
    simp only [bs_of]
theorem SliceOf.ops {a : Option Addr} {L : List (OpD × OpA)} (h : SliceOf 4 opR4 w a L) : OpsL w a L := by
  rcases h with h | ⟨g, off, ha, hg, hc⟩
  · exact Or.inl h
  · refine Or.inr ⟨g, off, ha, hg, fun i hi => ?_⟩
    obtain ⟨cs, _, h2, h3, h4⟩ := hc i hi
    have e : L.getD i oz = L[i] := by simp [List.getD_eq_getElem?_getD, List.getElem?_eq_getElem hi]
    rw [e]
    subst h3
    exact ⟨⟨h2 0 (by omega), h2 1 (by omega), h2 2 (by omega), h2 3 (by omega)⟩, h4⟩
theorem read_ops {fuel : Nat} {cs : List Value} {x : DataW H × List MemPlace} (h : DataW.trod enc Tryd.prog w base spare held fuel 23 cs = some x) :
    ∃ (a : Option Addr) (L : List (OpD × OpA)) (c : Nat), cs = [.slice a L.length c] ∧ L.length ≤ c ∧ OpsL w a L ∧ L.length + 1 ≤ Rows.uptoBulk x.1 := by
  obtain ⟨a, L, c, h1, h2, h3, h4⟩ := read_slice (R := opR4) (wt := fun _ => 1) Tryd.underlying23 cells_op4 (by decide) (fun n cs y hy => by
    obtain ⟨v, hv⟩ := read_op hy
    exact ⟨v, hv, bulk_pos _⟩) h
  rw [sum_ones] at h4
  exact ⟨a, L, c, h1, h2, h3.ops, h4⟩
def batR2 (w : World) (cs : List Value) (x : BatchD) : Prop := cs = [.slice x.a x.L.length x.c, .slice x.ra x.rn x.rc] ∧ OpsL w x.a x.L
set_option maxRecDepth 100000 in
theorem read_batch {fuel : Nat} {cs : List Value} {x : DataW H × List MemPlace} (h : DataW.trod enc Tryd.prog w base spare held fuel 28 cs = some x) : ∃ y, batR2 w cs y ∧ 1 + y.L.length ≤ Rows.uptoBulk x.1 := by
  obtain ⟨ys, n, _, hx, hlen, hyl, hf⟩ := DataW.trod_struct Tryd.underlying28 h
  rw [cells_batch2] at hlen
  have h0 := hf 0 _ rfl
  have h1 := hf 1 _ rfl
  change DataW.trod enc Tryd.prog w base spare held n 23 ((cs.drop 0).take (Tryd.prog.cellsOf 23)) = _ at h0
  change DataW.trod enc Tryd.prog w base spare held n 26 ((cs.drop 1).take (Tryd.prog.cellsOf 26)) = _ at h1
  rw [cells_os1] at h0
  rw [cells_is1] at h1
  have hy0 : ys[0]? = some (ys[0]'(by rw [hyl]; decide)) := List.getElem?_eq_getElem _
  have hy1 : ys[1]? = some (ys[1]'(by rw [hyl]; decide)) := List.getElem?_eq_getElem _
  have hm0 : (ys[0]'(by rw [hyl]; decide)).1 ∈ ys.map (·.1) := List.mem_map_of_mem (List.getElem_mem _)
  rw [hy0] at h0
  rw [hy1] at h1
  match cs, hlen with
  | [c0, c1], _ =>
    simp only [List.drop_zero, List.take_succ_cons, List.take_zero, List.drop_succ_cons] at h0 h1
    obtain ⟨a, L, c, e0, _, hO, hb⟩ := read_ops h0
    obtain ⟨ra, rn, rc, e1⟩ : ∃ ra rn rc, [c1] = [Value.slice ra rn rc] := by
      rcases open_ints Tryd.underlying26 Tryd.underlying3 cells_i1 h1 with ⟨hcs, _⟩ | ⟨ad, len, cap, _, hcs, _⟩
      · exact ⟨none, 0, 0, hcs⟩
      · exact ⟨some ad, len, cap, hcs⟩
    cases e0
    cases e1
    refine ⟨⟨L, a, c, ra, rn, rc⟩, ⟨rfl, hO⟩, ?_⟩
    have := bulk_mem hm0
    rw [hx]
    simp only [Rows.uptoBulk]
    show 1 + L.length ≤ _
    omega
theorem SliceOf.batches {a : Option Addr} {B : List BatchD} (h : SliceOf 2 batR2 w a B) : BatchL w a B := by
  rcases h with h | ⟨g, off, ha, hg, hc⟩
  · exact Or.inl h
  · refine Or.inr ⟨g, off, ha, hg, fun i hi => ?_⟩
    obtain ⟨cs, _, h2, h3, h4⟩ := hc i hi
    have e : B.getD i bz = B[i] := by simp [List.getD_eq_getElem?_getD, List.getElem?_eq_getElem hi]
    rw [e]
    subst h3
    exact ⟨⟨h2 0 (by omega), h2 1 (by omega)⟩, h4⟩
set_option maxRecDepth 100000 in
/-- A []Op that came in. -/
theorem open_ops {b0 : Nat} {v : Value} {d : DataW H} {ps : List MemPlace} (hval : Value.okWide Tryd.prog w .any b0 23 v) (hd : DataW.Trod enc Tryd.prog w base spare held 23 v d ps) :
    ∃ (a : Option Addr) (L : List (OpD × OpA)) (c : Nat), v = .slice a L.length c ∧ L.length ≤ c ∧ OpsL w a L ∧ L.length + 1 ≤ Rows.uptoBulk d := by
  obtain ⟨a0, len, cap, rfl⟩ := okWide_slice Tryd.underlying23 hval
  obtain ⟨fuel, hf⟩ := hd
  obtain ⟨a, L, c, h1, h2, h3, h4⟩ := read_ops hf
  simp [Value.cells] at h1
  obtain ⟨rfl, rfl, rfl⟩ := h1
  exact ⟨a0, L, cap, rfl, h2, h3, h4⟩
set_option maxRecDepth 100000 in
/-- A []Batch that came in. -/
theorem open_batches {b0 : Nat} {v : Value} {d : DataW H} {ps : List MemPlace} (hval : Value.okWide Tryd.prog w .any b0 22 v) (hd : DataW.Trod enc Tryd.prog w base spare held 22 v d ps) :
    ∃ (a : Option Addr) (B : List BatchD) (c : Nat), v = .slice a B.length c ∧ B.length ≤ c ∧ BatchL w a B ∧ sumB2 B + 1 ≤ Rows.uptoBulk d := by
  obtain ⟨a0, len, cap, rfl⟩ := okWide_slice Tryd.underlying22 hval
  obtain ⟨fuel, hf⟩ := hd
  obtain ⟨a, B, c, h1, h2, h3, h4⟩ := read_slice (R := batR2) (wt := fun x => 1 + x.L.length) Tryd.underlying22 cells_batch2 (by decide) (fun n cs y hy => read_batch hy) hf
  simp [Value.cells] at h1
  obtain ⟨rfl, rfl, rfl⟩ := h1
  exact ⟨a0, B, cap, rfl, h2, h3.batches, h4⟩
theorem sumB2_len (B : List BatchD) : B.length ≤ sumB2 B := by
  unfold sumB2
  induction B with
  | nil => simp
  | cons x B ih => rw [List.map_cons, List.sum_cons, List.length_cons]; omega
end
end Go.Proofs.YtldgpcmnmegioaaDoor
