/- Bases in memory: packages that are there, by value; maps from their names. -/
import Derived.Test.YtnclibfhbngkjaaGreatDoorBaseSpec
import Derived.Test.YtnclibfhbngkjaaGreatDoorArcMem
import Derived.Test.YtnclibfhbngkjaaGreatDoorMaps
namespace Go.Proofs.YtnclibfhbngkjaaGreatDoor
open Go.RowKit
/-- A file's three cells: where, whether it is the users', the sum. -/
def FileAtE (w : World) (g o : Nat) (f : FileD) : Prop := w.cell? ⟨g, o, none⟩ = some (.string (bs f.path)) ∧ w.cell? ⟨g, o + 1, none⟩ = some (.bool f.config) ∧ w.cell? ⟨g, o + 2, none⟩ = some (.int .u32 (le32 f.data : Nat))
theorem FileAtE.ext {w w' : World} {g o : Nat} {f : FileD} (h : FileAtE w g o f) (k : Ext w w') : FileAtE w' g o f := ⟨k.cell h.1, k.cell h.2.1, k.cell h.2.2⟩
/-- Files lie so. -/
def FilesE (w : World) (a : Option Addr) (L : List FileD) : Prop :=
  L = [] ∨ ∃ g off, a = some ⟨g, off, none⟩ ∧ g < w.heap.size ∧ ∀ i, i < L.length → FileAtE w g (off + i * 3) (L.getD i fz)
theorem FilesE.ext {w w' : World} {a : Option Addr} {L : List FileD} (h : FilesE w a L) (k : Ext w w') : FilesE w' a L := by
  rcases h with h | ⟨g, off, ha, hg, hc⟩
  · exact Or.inl h
  · exact Or.inr ⟨g, off, ha, Nat.lt_of_lt_of_le hg k.size, fun i hi => (hc i hi).ext k⟩
theorem FilesE.at {w : World} {a : Option Addr} {L : List FileD} (h : FilesE w a L) {i : Nat} (hi : i < L.length) :
    ∃ g off, a = some ⟨g, off, none⟩ ∧ g < w.heap.size ∧ FileAtE w g (off + i * 3) (L.getD i fz) := by
  rcases h with h | ⟨g, off, ha, hg, hc⟩
  · rw [h] at hi; simp at hi
  · exact ⟨g, off, ha, hg, hc i hi⟩
theorem FilesE.nil (w : World) (a : Option Addr) : FilesE w a [] := Or.inl rfl
/-- A package that is there, in memory. -/
structure EntM (w : World) (p : PkgD) (A : PkgA) : Prop where
  needs : NeedsM w A.an p.needs
  conf : Strs w A.ac p.conf
  files : FilesE w A.af p.files
  units : Strs w A.au p.units
theorem EntM.ext {w w' : World} {p : PkgD} {A : PkgA} (h : EntM w p A) (k : Ext w w') : EntM w' p A := ⟨h.needs.ext k, h.conf.ext k, h.files.ext k, h.units.ext k⟩
/-- How names are written as keys. -/
def keyS (x : By) : Lit := .string x
theorem keyS_inj (x y : By) (h : keyS x = keyS y) : x = y := by unfold keyS at h; exact Lit.string.inj h
/-- What a map of packages has at a name. -/
def entF (f : BaseF) (A : By → PkgA) : By → Option Value := fun x => (f x).map fun e => pkgV e (A x)
/-- A block is a map of packages. -/
def EntsM (w : World) (b N : Nat) (f : BaseF) (A : By → PkgA) : Prop :=
  MapF keyS w 9 b N (entF f A) ∧ ∀ x e, f x = some e → EntM w e (A x) ∧ PkgC e (A x)
/-- A base: nothing, or a map of packages. -/
def BaseM (w : World) (v : Value) (N : Nat) (f : BaseF) : Prop :=
  (v = .agg #[.map none] ∧ f = noneF) ∨ ∃ b A, v = .agg #[.map (some b)] ∧ EntsM w b N f A
theorem EntsM.lt {w : World} {b N : Nat} {f : BaseF} {A : By → PkgA} (h : EntsM w b N f A) : b < w.heap.size := h.1.lt
theorem EntsM.ext {w w' : World} {b N : Nat} {f : BaseF} {A : By → PkgA} (h : EntsM w b N f A) (k : Ext w w') : EntsM w' b N f A :=
  ⟨h.1.ext k, fun x e he => ⟨(h.2 x e he).1.ext k, (h.2 x e he).2⟩⟩
theorem BaseM.ext {w w' : World} {v : Value} {N : Nat} {f : BaseF} (h : BaseM w v N f) (k : Ext w w') : BaseM w' v N f := by
  rcases h with h | ⟨b, A, hv, h⟩
  · exact Or.inl h
  · exact Or.inr ⟨b, A, hv, h.ext k⟩
theorem EntsM.mono {w : World} {b N M : Nat} {f : BaseF} {A : By → PkgA} (h : EntsM w b N f A) (hn : N ≤ M) : EntsM w b M f A := ⟨h.1.mono hn, h.2⟩
theorem BaseM.mono {w : World} {v : Value} {N M : Nat} {f : BaseF} (h : BaseM w v N f) (hn : N ≤ M) : BaseM w v M f := by
  rcases h with h | ⟨b, A, hv, h⟩
  · exact Or.inl h
  · exact Or.inr ⟨b, A, hv, h.mono hn⟩
end Go.Proofs.YtnclibfhbngkjaaGreatDoor
