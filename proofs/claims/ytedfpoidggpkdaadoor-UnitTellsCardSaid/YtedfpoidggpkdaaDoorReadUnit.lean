/- A unit that came in. -/
import Derived.Test.YtedfpoidggpkdaaDoorReadTxn
import Derived.Test.YtedfpoidggpkdaaDoorUnitParse
import Derived.Test.YtedfpoidggpkdaaDoorUnitText
namespace Go.Proofs.YtedfpoidggpkdaaDoor
open Go.RowKit Go.WideShapes Go.ChangeShapes Go.Deep
section
variable {H : Type} {enc : TypeId × Value → H} {w : World} {base : Nat} {spare : Nat → Bool} {held : Bool}
theorem read_str {fuel : Nat} {cs : List Value} {x : DataW H × List MemPlace} (h : DataW.trod enc Tryd.prog w base spare held fuel 9 cs = some x) : ∃ s : List UInt8, cs = [.string (bs s)] := by
  obtain ⟨s, rfl, rfl, _⟩ := DataW.trod_string Tryd.underlying9 h
  exact ⟨s.data.toList, by rw [bs_of]⟩
theorem one_unit {fs : Array Field} (h : Tryd.prog.underlying 56 = some (.struct fs)) : oneCellFields Tryd.prog fs = true ∧ Tryd.prog.cellsOf 56 = fs.size := by
  rw [Tryd.underlying56] at h
  have h := (TypeDesc.struct.inj (Option.some.inj h)).symm
  subst h
  exact ⟨by kernel_rfl, by kernel_rfl⟩
theorem list_eight {α : Type} {l : List α} {a b c d e f g i : α} (hl : l.length = 8) (h0 : l[0]? = some a) (h1 : l[1]? = some b) (h2 : l[2]? = some c) (h3 : l[3]? = some d) (h4 : l[4]? = some e) (h5 : l[5]? = some f) (h6 : l[6]? = some g) (h7 : l[7]? = some i) : l = [a, b, c, d, e, f, g, i] := by
  match l, hl with
  | [x0, x1, x2, x3, x4, x5, x6, x7], _ => simp at h0 h1 h2 h3 h4 h5 h6 h7; rw [h0, h1, h2, h3, h4, h5, h6, h7]
set_option maxRecDepth 100000 in
/-- A unit that came in. -/
theorem open_unit {b0 : Nat} {v : Value} {d : DataW H} {ps : List MemPlace} (hval : Value.okWide Tryd.prog w .any b0 56 v) (hd : DataW.Trod enc Tryd.prog w base spare held 56 v d ps) :
    ∃ (u : UnitD) (A : Nat → Option Addr) (C : Nat → Nat), v = unitV u A C ∧ UnitR w u A ∧ ∀ f, 1 ≤ f → f ≤ 6 → (u.row f).length ≤ C f := by
  obtain ⟨cs, rfl, _⟩ := okWide_struct Tryd.underlying56 hval
  obtain ⟨fuel, hf⟩ := hd
  obtain ⟨h1, h2⟩ := one_unit Tryd.underlying56
  obtain ⟨ys, n, hy1, hl, hyl, hff⟩ := read_struct Tryd.underlying56 h1 h2 hf
  obtain ⟨v0, y0, a0, b0, t0⟩ := hff 0 _ rfl
  obtain ⟨v1, y1, a1, b1, t1⟩ := hff 1 _ rfl
  obtain ⟨v2, y2, a2, b2, t2⟩ := hff 2 _ rfl
  obtain ⟨v3, y3, a3, b3, t3⟩ := hff 3 _ rfl
  obtain ⟨v4, y4, a4, b4, t4⟩ := hff 4 _ rfl
  obtain ⟨v5, y5, a5, b5, t5⟩ := hff 5 _ rfl
  obtain ⟨v6, y6, a6, b6, t6⟩ := hff 6 _ rfl
  obtain ⟨v7, y7, a7, b7, t7⟩ := hff 7 _ rfl
  obtain ⟨nm, e0⟩ := read_str t0
  obtain ⟨A1, L1, C1, e1, c1, s1, _⟩ := read_texts t1
  obtain ⟨A2, L2, C2, e2, c2, s2, _⟩ := read_texts t2
  obtain ⟨A3, L3, C3, e3, c3, s3, _⟩ := read_texts t3
  obtain ⟨A4, L4, C4, e4, c4, s4, _⟩ := read_texts t4
  obtain ⟨A5, L5, C5, e5, c5, s5, _⟩ := read_texts t5
  obtain ⟨A6, L6, C6, e6, c6, s6, _⟩ := read_texts t6
  obtain ⟨k7, e7, _⟩ := read_int t7
  cases e0
  cases e1
  cases e2
  cases e3
  cases e4
  cases e5
  cases e6
  cases e7
  have hcs := list_eight hl a0 a1 a2 a3 a4 a5 a6 a7
  refine ⟨⟨nm, L1, L2, L3, L4, L5, L6, k7⟩, fun | 1 => A1 | 2 => A2 | 3 => A3 | 4 => A4 | 5 => A5 | _ => A6, fun | 1 => C1 | 2 => C2 | 3 => C3 | 4 => C4 | 5 => C5 | _ => C6, ?_, ?_, ?_⟩
  · unfold unitV
    have hcells : (Value.agg cs).cells = cs := rfl
    rw [hcells] at hcs
    have : cs = #[.string (bs nm), .slice A1 L1.length C1, .slice A2 L2.length C2, .slice A3 L3.length C3, .slice A4 L4.length C4, .slice A5 L5.length C5, .slice A6 L6.length C6, .int .i64 k7] := by
      apply Array.ext'
      rw [hcs]
    rw [this]
    rfl
  · intro f h1 h6
    have hf : f = 1 ∨ f = 2 ∨ f = 3 ∨ f = 4 ∨ f = 5 ∨ f = 6 := by omega
    rcases hf with rfl | rfl | rfl | rfl | rfl | rfl
    · exact s1
    · exact s2
    · exact s3
    · exact s4
    · exact s5
    · exact s6
  · intro f h1 h6
    have hf : f = 1 ∨ f = 2 ∨ f = 3 ∨ f = 4 ∨ f = 5 ∨ f = 6 := by omega
    rcases hf with rfl | rfl | rfl | rfl | rfl | rfl
    · exact c1
    · exact c2
    · exact c3
    · exact c4
    · exact c5
    · exact c6
end
end Go.Proofs.YtedfpoidggpkdaaDoor
