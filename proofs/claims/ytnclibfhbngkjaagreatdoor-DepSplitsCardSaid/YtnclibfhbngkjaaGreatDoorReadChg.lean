/- Changes that came in. -/
import Derived.Test.YtnclibfhbngkjaaGreatDoorM2
import Derived.Test.YtnclibfhbngkjaaGreatDoorReadPkg
import Derived.Test.YtnclibfhbngkjaaGreatDoorDepAfter
namespace Go.Proofs.YtnclibfhbngkjaaGreatDoor
open Go.RowKit Go.WideShapes Go.ChangeShapes Go.Deep
structure ChD where
  come : List (PkgD × PkgA)
  go : List By
structure ChA where
  ca : Option Addr
  cc : Nat
  ga : Option Addr
  gc : Nat
def cz : ChD × ChA := (⟨[], []⟩, ⟨none, 0, none, 0⟩)
/-- A change in memory. -/
structure ChM (w : World) (x : ChD × ChA) : Prop where
  come : PkgsL w x.2.ca x.1.come
  go : Strs w x.2.ga x.1.go
  cl : x.1.come.length ≤ 1099511627776
  gl : x.1.go.length ≤ 8796093022208
  cap : x.1.come.length ≤ x.2.cc
  gap : x.1.go.length ≤ x.2.gc
theorem ChM.ext {w w' : World} {x : ChD × ChA} (h : ChM w x) (k : Ext w w') : ChM w' x := ⟨h.come.ext k, h.go.ext k, h.cl, h.gl, h.cap, h.gap⟩
def ChAt (w : World) (g o : Nat) (x : ChD × ChA) : Prop := (w.cell? ⟨g, o, none⟩ = some (.slice x.2.ca x.1.come.length x.2.cc) ∧ w.cell? ⟨g, o + 1, none⟩ = some (.slice x.2.ga x.1.go.length x.2.gc)) ∧ ChM w x
theorem ChAt.ext {w w' : World} {g o : Nat} {x : ChD × ChA} (h : ChAt w g o x) (k : Ext w w') : ChAt w' g o x := ⟨⟨k.cell h.1.1, k.cell h.1.2⟩, h.2.ext k⟩
def ChL (w : World) (a : Option Addr) (L : List (ChD × ChA)) : Prop :=
  L = [] ∨ ∃ g off, a = some ⟨g, off, none⟩ ∧ g < w.heap.size ∧ ∀ i, i < L.length → ChAt w g (off + i * 2) (L.getD i cz)
theorem ChL.ext {w w' : World} {a : Option Addr} {L : List (ChD × ChA)} (h : ChL w a L) (k : Ext w w') : ChL w' a L := by
  rcases h with h | ⟨g, off, ha, hg, hc⟩
  · exact Or.inl h
  · exact Or.inr ⟨g, off, ha, Nat.lt_of_lt_of_le hg k.size, fun i hi => (hc i hi).ext k⟩
theorem ChL.at {w : World} {a : Option Addr} {L : List (ChD × ChA)} (h : ChL w a L) {i : Nat} (hi : i < L.length) :
    ∃ g off, a = some ⟨g, off, none⟩ ∧ g < w.heap.size ∧ ChAt w g (off + i * 2) (L.getD i cz) := by
  rcases h with h | ⟨g, off, ha, hg, hc⟩
  · rw [h] at hi; simp at hi
  · exact ⟨g, off, ha, hg, hc i hi⟩
def pkgR6 (w : World) (cs : List Value) (x : PkgD × PkgA) : Prop :=
  cs = [.string (bs x.1.name), .string (bs x.1.ver), .slice x.2.an x.1.needs.length x.2.cn, .slice x.2.ac x.1.conf.length x.2.cc, .slice x.2.af x.1.files.length x.2.cf, .slice x.2.au x.1.units.length x.2.cu] ∧ PkgM w x.1 x.2 ∧ PkgC x.1 x.2
theorem SliceOf.pkgs {w : World} {a : Option Addr} {L : List (PkgD × PkgA)} (h : SliceOf 6 pkgR6 w a L) : PkgsL w a L := by
  rcases h with h | ⟨g, off, ha, hg, hc⟩
  · exact Or.inl h
  · refine Or.inr ⟨g, off, ha, hg, fun i hi => ?_⟩
    obtain ⟨cs, _, h2, h3, h4, h5⟩ := hc i hi
    have e : L.getD i ez = L[i] := by simp [List.getD_eq_getElem?_getD, List.getElem?_eq_getElem hi]
    rw [e]
    subst h3
    exact ⟨⟨h2 0 (by omega), h2 1 (by omega), h2 2 (by omega), h2 3 (by omega), h2 4 (by omega), h2 5 (by omega)⟩, h4, h5⟩
def chgR2 (w : World) (cs : List Value) (x : ChD × ChA) : Prop := cs = [.slice x.2.ca x.1.come.length x.2.cc, .slice x.2.ga x.1.go.length x.2.gc] ∧ ChM w x
theorem SliceOf.chgs {w : World} {a : Option Addr} {L : List (ChD × ChA)} (h : SliceOf 2 chgR2 w a L) : ChL w a L := by
  rcases h with h | ⟨g, off, ha, hg, hc⟩
  · exact Or.inl h
  · refine Or.inr ⟨g, off, ha, hg, fun i hi => ?_⟩
    obtain ⟨cs, _, h2, h3, h4⟩ := hc i hi
    have e : L.getD i cz = L[i] := by simp [List.getD_eq_getElem?_getD, List.getElem?_eq_getElem hi]
    rw [e]
    subst h3
    exact ⟨⟨h2 0 (by omega), h2 1 (by omega)⟩, h4⟩
section
variable {H : Type} {enc : TypeId × Value → H} {w : World} {base : Nat} {spare : Nat → Bool} {held : Bool}
theorem cells_pkg6 : Tryz.prog.cellsOf 31 = 6 := by kernel_rfl
theorem cells_chg2 : Tryz.prog.cellsOf 61 = 2 := by kernel_rfl
theorem bytes_pkg : Tryz.prog.bytesOf 31 = 128 := by kernel_rfl
theorem bytes_chg : Tryz.prog.bytesOf 61 = 48 := by kernel_rfl
theorem bytes_str : Tryz.prog.bytesOf 9 = 16 := by kernel_rfl
theorem one_chg2 {fs : Array Field} (h : Tryz.prog.underlying 61 = some (.struct fs)) : oneCellFields Tryz.prog fs = true ∧ Tryz.prog.cellsOf 61 = fs.size := by
  rw [Tryz.underlying61] at h
  have h := (TypeDesc.struct.inj (Option.some.inj h)).symm
  subst h
  exact ⟨by kernel_rfl, by kernel_rfl⟩
/-- A []arc.Pkg that came in. -/
theorem read_pkgs {fuel : Nat} {cs : List Value} {x : DataW H × List MemPlace} (h : DataW.trod enc Tryz.prog w base spare held fuel 59 cs = some x) (hw : InReach Tryz.prog 59 x.1) :
    ∃ (a : Option Addr) (L : List (PkgD × PkgA)) (c : Nat), cs = [.slice a L.length c] ∧ L.length ≤ c ∧ PkgsL w a L ∧ L.length ≤ 1099511627776 := by
  obtain ⟨a, L, c, h1, h2, h3, h4⟩ := read_slice_w (R := pkgR6) Tryz.underlying59 cells_pkg6 (by decide) hw (fun n cs y hy _ => by
    obtain ⟨p, A, e, hm, hc⟩ := read_pkg hy
    exact ⟨(p, A), e, hm, hc⟩) h
  rw [bytes_pkg] at h4
  exact ⟨a, L, c, h1, h2, h3.pkgs, by unfold reachBytes at h4; omega⟩
theorem read_strs_w {fuel : Nat} {cs : List Value} {x : DataW H × List MemPlace} (h : DataW.trod enc Tryz.prog w base spare held fuel 28 cs = some x) (hw : InReach Tryz.prog 28 x.1) :
    ∃ (a : Option Addr) (L : List By) (c : Nat), cs = [.slice a L.length c] ∧ L.length ≤ c ∧ Strs w a L ∧ L.length ≤ 8796093022208 := by
  obtain ⟨a, L, c, h1, h2, h3, h4⟩ := read_slice_w (R := textR1) Tryz.underlying28 cells_str1 (by decide) hw (fun n cs y hy _ => by
    obtain ⟨s, rfl, rfl, _⟩ := DataW.trod_string Tryz.underlying9 hy
    exact ⟨s.data.toList, by unfold textR1; rw [bs_of]⟩) h
  rw [bytes_str] at h4
  exact ⟨a, L, c, h1, h2, h3.strs1, by unfold reachBytes at h4; omega⟩
theorem list_2 {α : Type} {l : List α} {a b : α} (hl : l.length = 2) (h0 : l[0]? = some a) (h1 : l[1]? = some b) : l = [a, b] := by
  match l, hl with
  | [x, y], _ => simp at h0 h1; rw [h0, h1]
set_option maxRecDepth 100000 in
theorem read_chg {fuel : Nat} {cs : List Value} {x : DataW H × List MemPlace} (h : DataW.trod enc Tryz.prog w base spare held fuel 61 cs = some x) (hw : InReach Tryz.prog 61 x.1) : ∃ y, chgR2 w cs y := by
  obtain ⟨o1, o2⟩ := one_chg2 Tryz.underlying61
  obtain ⟨ys, n, hy1, hl, hyl, hf⟩ := read_struct Tryz.underlying61 o1 o2 h
  obtain ⟨v0, y0, a0, b0, t0⟩ := hf 0 _ rfl
  obtain ⟨v1, y1, a1, b1, t1⟩ := hf 1 _ rfl
  obtain ⟨A0, L0, C0, e0, c0, s0, l0⟩ := read_pkgs t0 (reach_field Tryz.underlying61 hy1 hw (j := 0) rfl b0)
  obtain ⟨A1, L1, C1, e1, c1, s1, l1⟩ := read_strs_w t1 (reach_field Tryz.underlying61 hy1 hw (j := 1) rfl b1)
  cases e0
  cases e1
  exact ⟨(⟨L0, L1⟩, ⟨A0, C0, A1, C1⟩), list_2 hl a0 a1, ⟨s0, s1, l0, l1, c0, c1⟩⟩
set_option maxRecDepth 100000 in
/-- A []dep.Change that came in. -/
theorem open_chgs {b0 : Nat} {v : Value} {d : DataW H} {ps : List MemPlace} (hval : Value.okWide Tryz.prog w .any b0 57 v) (hd : DataW.Trod enc Tryz.prog w base spare held 57 v d ps) (hw : InReach Tryz.prog 57 d) :
    ∃ (a : Option Addr) (L : List (ChD × ChA)) (c : Nat), v = .slice a L.length c ∧ L.length ≤ c ∧ ChL w a L ∧ L.length ≤ 2932031007317 := by
  obtain ⟨a0, len, cap, rfl⟩ := okWide_slice Tryz.underlying57 hval
  obtain ⟨fuel, hf⟩ := hd
  obtain ⟨a, L, c, h1, h2, h3, h4⟩ := read_slice_w (R := chgR2) Tryz.underlying57 cells_chg2 (by decide) hw (fun n cs y hy hwy => read_chg hy hwy) hf
  simp [Value.cells] at h1
  obtain ⟨rfl, rfl, rfl⟩ := h1
  rw [bytes_chg] at h4
  exact ⟨a0, L, cap, rfl, h2, h3.chgs, by unfold reachBytes at h4; omega⟩
set_option maxRecDepth 100000 in
/-- A dep.Change that came in. -/
theorem open_chg {b0 : Nat} {v : Value} {d : DataW H} {ps : List MemPlace} (hval : Value.okWide Tryz.prog w .any b0 61 v) (hd : DataW.Trod enc Tryz.prog w base spare held 61 v d ps) (hw : InReach Tryz.prog 61 d) :
    ∃ x : ChD × ChA, v = .agg #[.slice x.2.ca x.1.come.length x.2.cc, .slice x.2.ga x.1.go.length x.2.gc] ∧ ChM w x := by
  obtain ⟨cs, rfl, _⟩ := okWide_struct Tryz.underlying61 hval
  obtain ⟨fuel, hf⟩ := hd
  obtain ⟨x, hcs, hM⟩ := read_chg hf hw
  refine ⟨x, ?_, hM⟩
  have hcells : (Value.agg cs).cells = cs := rfl
  rw [hcells] at hcs
  have : cs = #[.slice x.2.ca x.1.come.length x.2.cc, .slice x.2.ga x.1.go.length x.2.gc] := by
    apply Array.ext'
    rw [hcs]
  rw [this]
end
end Go.Proofs.YtnclibfhbngkjaaGreatDoor
