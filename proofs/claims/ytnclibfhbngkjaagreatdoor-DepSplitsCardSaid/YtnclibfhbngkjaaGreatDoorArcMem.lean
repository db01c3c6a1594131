/- Packages in memory. -/
import Derived.Test.YtnclibfhbngkjaaGreatDoorM4
import Derived.Test.YtnclibfhbngkjaaGreatDoorM2
namespace Go.Proofs.YtnclibfhbngkjaaGreatDoor
open Go.RowKit
def nz : NeedD := ⟨[], 0, []⟩
def fz : FileD := ⟨[], false, []⟩
/-- Needs lie so. -/
def NeedsM (w : World) (a : Option Addr) (L : List NeedD) : Prop :=
  L = [] ∨ ∃ g off, a = some ⟨g, off, none⟩ ∧ g < w.heap.size ∧ ∀ i, i < L.length → w.cell? ⟨g, off + i * 3, none⟩ = some (.string (bs (L.getD i nz).name)) ∧ w.cell? ⟨g, off + i * 3 + 1, none⟩ = some (.int .i64 (L.getD i nz).way) ∧ w.cell? ⟨g, off + i * 3 + 2, none⟩ = some (.string (bs (L.getD i nz).ver))
theorem NeedsM.ext {w w' : World} {a : Option Addr} {L : List NeedD} (h : NeedsM w a L) (k : Ext w w') : NeedsM w' a L := by
  rcases h with h | ⟨g, off, ha, hg, hc⟩
  · exact Or.inl h
  · exact Or.inr ⟨g, off, ha, Nat.lt_of_lt_of_le hg k.size, fun i hi => ⟨k.cell (hc i hi).1, k.cell (hc i hi).2.1, k.cell (hc i hi).2.2⟩⟩
theorem NeedsM.at {w : World} {a : Option Addr} {L : List NeedD} (h : NeedsM w a L) {i : Nat} (hi : i < L.length) :
    ∃ g off, a = some ⟨g, off, none⟩ ∧ g < w.heap.size ∧ w.cell? ⟨g, off + i * 3, none⟩ = some (.string (bs (L.getD i nz).name)) ∧ w.cell? ⟨g, off + i * 3 + 1, none⟩ = some (.int .i64 (L.getD i nz).way) ∧ w.cell? ⟨g, off + i * 3 + 2, none⟩ = some (.string (bs (L.getD i nz).ver)) := by
  rcases h with h | ⟨g, off, ha, hg, hc⟩
  · rw [h] at hi; simp at hi
  · exact ⟨g, off, ha, hg, hc i hi⟩
theorem NeedsM.nil (w : World) (a : Option Addr) : NeedsM w a [] := Or.inl rfl
/-- A file's three cells. -/
def FileAtM (w : World) (g o : Nat) (f : FileD) : Prop := w.cell? ⟨g, o, none⟩ = some (.string (bs f.path)) ∧ w.cell? ⟨g, o + 1, none⟩ = some (.bool f.config) ∧ ∃ d c, w.cell? ⟨g, o + 2, none⟩ = some (.slice d f.data.length c) ∧ f.data.length ≤ c ∧ Bytes w d f.data
theorem FileAtM.ext {w w' : World} {g o : Nat} {f : FileD} (h : FileAtM w g o f) (k : Ext w w') : FileAtM w' g o f := by
  obtain ⟨h1, h2, d, c, h3, h4, h5⟩ := h
  exact ⟨k.cell h1, k.cell h2, d, c, k.cell h3, h4, h5.ext k⟩
/-- Files lie so. -/
def FilesM (w : World) (a : Option Addr) (L : List FileD) : Prop :=
  L = [] ∨ ∃ g off, a = some ⟨g, off, none⟩ ∧ g < w.heap.size ∧ ∀ i, i < L.length → FileAtM w g (off + i * 3) (L.getD i fz)
theorem FilesM.ext {w w' : World} {a : Option Addr} {L : List FileD} (h : FilesM w a L) (k : Ext w w') : FilesM w' a L := by
  rcases h with h | ⟨g, off, ha, hg, hc⟩
  · exact Or.inl h
  · exact Or.inr ⟨g, off, ha, Nat.lt_of_lt_of_le hg k.size, fun i hi => (hc i hi).ext k⟩
theorem FilesM.at {w : World} {a : Option Addr} {L : List FileD} (h : FilesM w a L) {i : Nat} (hi : i < L.length) :
    ∃ g off, a = some ⟨g, off, none⟩ ∧ g < w.heap.size ∧ FileAtM w g (off + i * 3) (L.getD i fz) := by
  rcases h with h | ⟨g, off, ha, hg, hc⟩
  · rw [h] at hi; simp at hi
  · exact ⟨g, off, ha, hg, hc i hi⟩
theorem FilesM.nil (w : World) (a : Option Addr) : FilesM w a [] := Or.inl rfl
/-- Where a package's four lists lie. -/
structure PkgA where
  an : Option Addr
  ac : Option Addr
  af : Option Addr
  au : Option Addr
  cn : Nat
  cc : Nat
  cf : Nat
  cu : Nat
def pkgV (p : PkgD) (A : PkgA) : Value := .agg #[.string (bs p.name), .string (bs p.ver), .slice A.an p.needs.length A.cn, .slice A.ac p.conf.length A.cc, .slice A.af p.files.length A.cf, .slice A.au p.units.length A.cu]
structure PkgM (w : World) (p : PkgD) (A : PkgA) : Prop where
  needs : NeedsM w A.an p.needs
  conf : Strs w A.ac p.conf
  files : FilesM w A.af p.files
  units : Strs w A.au p.units
theorem PkgM.ext {w w' : World} {p : PkgD} {A : PkgA} (h : PkgM w p A) (k : Ext w w') : PkgM w' p A := ⟨h.needs.ext k, h.conf.ext k, h.files.ext k, h.units.ext k⟩
/-- Are the four lists' capacities such as slices have? -/
def PkgC (p : PkgD) (A : PkgA) : Prop := p.needs.length ≤ A.cn ∧ p.conf.length ≤ A.cc ∧ p.files.length ≤ A.cf ∧ p.units.length ≤ A.cu
end Go.Proofs.YtnclibfhbngkjaaGreatDoor
