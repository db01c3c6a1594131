/- Acts of farrierlaw08 that came in; numbers that came in. -/
import Derived.Test.YtachelbodpfckaaGreatDoorM1
import Derived.Test.YtachelbodpfckaaGreatDoorM4
namespace Go.Proofs.YtachelbodpfckaaGreatDoor
open Go.RowKit Go.WideShapes Go.ChangeShapes Go.Deep
structure ActD where
 kind : Int
 pid : Int
 file : Int
 pa : Option Addr
 paths : List By
 pc : Nat
def In64 (x : Int) : Prop := -9223372036854775808 ≤ x ∧ x ≤ 9223372036854775807
def ActAt (w : World) (g o : Nat) (x : ActD) : Prop :=
 (w.cell? ⟨g, o, none⟩ = some (.int .i64 x.kind) ∧ w.cell? ⟨g, o + 1, none⟩ = some (.int .i64 x.pid) ∧ w.cell? ⟨g, o + 2, none⟩ = some (.int .i64 x.file) ∧ w.cell? ⟨g, o + 3, none⟩ = some (.slice x.pa x.paths.length x.pc)) ∧ Strs w x.pa x.paths ∧ (In64 x.kind ∧ In64 x.pid ∧ In64 x.file) ∧ x.paths.length ≤ 8796093022208
theorem ActAt.ext {w w' : World} {g o : Nat} {x : ActD} (h : ActAt w g o x) (k : Ext w w') : ActAt w' g o x :=
 ⟨⟨k.cell h.1.1, k.cell h.1.2.1, k.cell h.1.2.2.1, k.cell h.1.2.2.2⟩, h.2.1.ext k, h.2.2⟩
def ActsL (w : World) (a : Option Addr) (L : List ActD) : Prop :=
 L = [] ∨ ∃ g off, a = some ⟨g, off, none⟩ ∧ g < w.heap.size ∧ ∀ i (hi : i < L.length), ActAt w g (off + i * 4) L[i]
theorem ActsL.ext {w w' : World} {a : Option Addr} {L : List ActD} (h : ActsL w a L) (k : Ext w w') : ActsL w' a L := by
 rcases h with h | ⟨g, off, ha, hg, hc⟩
 · exact Or.inl h
 · exact Or.inr ⟨g, off, ha, Nat.lt_of_lt_of_le hg k.size, fun i hi => (hc i hi).ext k⟩
theorem ActsL.at {w : World} {a : Option Addr} {L : List ActD} (h : ActsL w a L) {i : Nat} (hi : i < L.length) :
 ∃ g off, a = some ⟨g, off, Option.none⟩ ∧ g < w.heap.size ∧ ActAt w g (off + i * 4) L[i] := by
 rcases h with h | ⟨g, off, ha, hg, hc⟩
 · rw [h] at hi; simp at hi
 · exact ⟨g, off, ha, hg, hc i hi⟩
def actR4 (w : World) (cs : List Value) (x : ActD) : Prop :=
 cs = [.int .i64 x.kind, .int .i64 x.pid, .int .i64 x.file, .slice x.pa x.paths.length x.pc] ∧ Strs w x.pa x.paths ∧ (In64 x.kind ∧ In64 x.pid ∧ In64 x.file) ∧ x.paths.length ≤ 8796093022208
theorem SliceOf.acts {w : World} {a : Option Addr} {L : List ActD} (h : SliceOf 4 actR4 w a L) : ActsL w a L := by
 rcases h with h | ⟨g, off, ha, hg, hc⟩
 · exact Or.inl h
 · refine Or.inr ⟨g, off, ha, hg, fun i hi => ?_⟩
   obtain ⟨cs, _, h2, h3, h4⟩ := hc i hi
   subst h3
   exact ⟨⟨h2 0 (by omega), h2 1 (by omega), h2 2 (by omega), h2 3 (by omega)⟩, h4⟩
theorem wf_in64 {n : Int} (h : (Lit.int .i64 n).wf = true) : In64 n := by
 unfold Lit.wf at h
 rw [Bool.and_eq_true] at h
 exact ⟨of_decide_eq_true h.1, of_decide_eq_true h.2⟩
section
variable {H : Type} {enc : TypeId × Value → H} {w : World} {base : Nat} {spare : Nat → Bool} {held : Bool}
theorem bytes_act : Tryz.prog.bytesOf 49 = 48 := by kernel_rfl
theorem bytes_strA : Tryz.prog.bytesOf 9 = 16 := by kernel_rfl
theorem cells_strA : Tryz.prog.cellsOf 9 = 1 := by kernel_rfl
theorem cells_act : Tryz.prog.cellsOf 49 = 4 := by kernel_rfl
theorem one_act {fs : Array Field} (h : Tryz.prog.underlying 49 = some (.struct fs)) : oneCellFields Tryz.prog fs = true ∧ Tryz.prog.cellsOf 49 = fs.size := by
 rw [Tryz.underlying49] at h
 have h := (TypeDesc.struct.inj (Option.some.inj h)).symm
 subst h
 exact ⟨by kernel_rfl, by kernel_rfl⟩
def textR1a (_ : World) (cs : List Value) (s : List UInt8) : Prop := cs = [.string (bs s)]
theorem SliceOf.strsA {a : Option Addr} {L : List (List UInt8)} (h : SliceOf 1 textR1a w a L) : Strs w a L := by
 rcases h with h | ⟨g, off, ha, hg, hc⟩
 · exact Or.inl h
 · refine Or.inr ⟨g, off, ha, hg, fun i hi => ?_⟩
   obtain ⟨cs, _, h2, h3⟩ := hc i hi
   have e : L.getD i [] = L[i] := by simp [List.getD_eq_getElem?_getD, List.getElem?_eq_getElem hi]
   have := h2 0 (by omega)
   rw [e]
   rw [h3] at this
   simpa using this
theorem read_strsA {fuel : Nat} {cs : List Value} {x : DataW H × List MemPlace} (h : DataW.trod enc Tryz.prog w base spare held fuel 29 cs = some x) (hw : InReach Tryz.prog 29 x.1) :
 ∃ (a : Option Addr) (L : List By) (c : Nat), cs = [.slice a L.length c] ∧ L.length ≤ c ∧ Strs w a L ∧ L.length ≤ 8796093022208 := by
 obtain ⟨a, L, c, h1, h2, h3, h4⟩ := read_slice_w (R := textR1a) Tryz.underlying29 cells_strA (by decide) hw (fun n cs y hy _ => by
  obtain ⟨s, rfl, rfl, _⟩ := DataW.trod_string Tryz.underlying9 hy
  exact ⟨s.data.toList, by unfold textR1a; rw [bs_of]⟩) h
 rw [bytes_strA] at h4
 exact ⟨a, L, c, h1, h2, h3.strsA, by unfold reachBytes at h4; omega⟩
theorem list_4 {α : Type} {l : List α} {a b c d : α} (hl : l.length = 4) (h0 : l[0]? = some a) (h1 : l[1]? = some b) (h2 : l[2]? = some c) (h3 : l[3]? = some d) : l = [a, b, c, d] := by
 match l, hl with
 | [x, y, z, u], _ => simp at h0 h1 h2 h3; rw [h0, h1, h2, h3]
set_option maxRecDepth 100000 in
theorem read_act {fuel : Nat} {cs : List Value} {x : DataW H × List MemPlace} (h : DataW.trod enc Tryz.prog w base spare held fuel 49 cs = some x) (hw : InReach Tryz.prog 49 x.1) : ∃ y, actR4 w cs y := by
 obtain ⟨o1, o2⟩ := one_act Tryz.underlying49
 obtain ⟨ys, n, hy1, hl, hyl, hf⟩ := read_struct Tryz.underlying49 o1 o2 h
 obtain ⟨v0, y0, a0, b0, t0⟩ := hf 0 _ rfl
 obtain ⟨v1, y1, a1, b1, t1⟩ := hf 1 _ rfl
 obtain ⟨v2, y2, a2, b2, t2⟩ := hf 2 _ rfl
 obtain ⟨v3, y3, a3, b3, t3⟩ := hf 3 _ rfl
 obtain ⟨k0, e0, _, w0⟩ := DataW.trod_int Tryz.underlying3 t0
 obtain ⟨k1, e1, _, w1⟩ := DataW.trod_int Tryz.underlying3 t1
 obtain ⟨k2, e2, _, w2⟩ := DataW.trod_int Tryz.underlying3 t2
 obtain ⟨A3, L3, C3, e3, c3, s3, l3⟩ := read_strsA t3 (reach_field Tryz.underlying49 hy1 hw (j := 3) rfl b3)
 cases e0
 cases e1
 cases e2
 cases e3
 exact ⟨⟨k0, k1, k2, A3, L3, C3⟩, list_4 hl a0 a1 a2 a3, s3, ⟨wf_in64 w0, wf_in64 w1, wf_in64 w2⟩, l3⟩
set_option maxRecDepth 100000 in
theorem open_acts {b0 : Nat} {v : Value} {d : DataW H} {ps : List MemPlace} (hval : Value.okWide Tryz.prog w .any b0 47 v) (hd : DataW.Trod enc Tryz.prog w base spare held 47 v d ps) (hw : InReach Tryz.prog 47 d) :
 ∃ (a : Option Addr) (L : List ActD) (c : Nat), v = .slice a L.length c ∧ L.length ≤ c ∧ ActsL w a L ∧ L.length ≤ 2932031007317 := by
 obtain ⟨a0, len, cap, rfl⟩ := okWide_slice Tryz.underlying47 hval
 obtain ⟨fuel, hf⟩ := hd
 obtain ⟨a, L, c, h1, h2, h3, h4⟩ := read_slice_w (R := actR4) Tryz.underlying47 cells_act (by decide) hw (fun n cs y hy hwy => read_act hy hwy) hf
 simp [Value.cells] at h1
 obtain ⟨rfl, rfl, rfl⟩ := h1
 rw [bytes_act] at h4
 exact ⟨a0, L, cap, rfl, h2, h3.acts, by unfold reachBytes at h4; omega⟩
end
end Go.Proofs.YtachelbodpfckaaGreatDoor
