/- each: the parts of one kind, one behind the other. -/
import Derived.Test.YtnclibfhbngkjaaGreatDoorArcOne
import Derived.Test.YtnclibfhbngkjaaGreatDoorRowApp
import Derived.Deep.LoopGhost
namespace Go.Proofs.YtnclibfhbngkjaaGreatDoor
open Go.RowKit
def needC (L : List NeedD) : List Value := L.flatMap fun n => [.string (bs n.name), .int .i64 n.way, .string (bs n.ver)]
def OwnNd (w : World) (base : Nat) (a : Option Addr) (cap : Nat) (D : List NeedD) : Prop := w.ownsRow base 68 3 (.slice a D.length cap) D.length (needC D)
theorem info_need : (Tryz.prog.info? 68).map (fun i => (i.zero, i.size, i.bytes)) = some (some (.agg #[.string ⟨#[]⟩, .int .i64 0, .string ⟨#[]⟩]), 3, 40) := by kernel_rfl











































































































































































def fileC (L : List (FileD × (Option Addr × Nat))) : List Value := L.flatMap fun x => [.string (bs x.1.path), .bool x.1.config, .slice x.2.1 x.1.data.length x.2.2]
/-- Files in a row of the call's own, their bytes elsewhere, in blocks of the call's own. -/
def OwnF (w : World) (base : Nat) (a : Option Addr) (cap : Nat) (D : List FileD) : Prop :=
  ∃ L : List (FileD × (Option Addr × Nat)), L.map Prod.fst = D ∧ w.ownsRow base 76 3 (.slice a D.length cap) D.length (fileC L) ∧
    ∀ x ∈ L, x.1.data.length ≤ x.2.2 ∧ BytesS (fun k => base ≤ k ∧ some k ≠ (Value.slice a D.length cap).ownBlock) w x.2.1 x.1.data
theorem OwnF.nil (w : World) (base : Nat) : OwnF w base none 0 [] := ⟨[], rfl, World.ownsRow_nil _ _ _ _, by simp⟩
theorem OwnF.keep {w w' : World} {base R : Nat} {a : Option Addr} {cap : Nat} {D : List FileD} (h : OwnF w base a cap D) (k : Keep (· ≠ R) w w') (hR : R < base) : OwnF w' base a cap D := by
  obtain ⟨L, h1, h2, h3⟩ := h
  exact ⟨L, h1, ownsRow_keep h2 k (fun g _ _ hb _ => by show g ≠ R; omega), fun x hx => ⟨(h3 x hx).1, Row.keep (h3 x hx).2 (k.mono (fun g _ hg => by have := hg.1; show g ≠ R; omega))⟩⟩
theorem info_file : (Tryz.prog.info? 76).map (fun i => (i.zero, i.size, i.bytes)) = some (some (.agg #[.string ⟨#[]⟩, .bool false, .slice none 0 0]), 3, 48) := by kernel_rfl
/-- One file more. -/
theorem OwnF.add {w2 w3 : World} {base g1 cap1 : Nat} {a : Option Addr} {cap : Nat} {D : List FileD} {f : FileD} {L : List (FileD × (Option Addr × Nat))} {d : Option Addr} {q : Nat} {o : Obj}
    (h1 : L.map Prod.fst = D) (h3 : ∀ x ∈ L, x.1.data.length ≤ x.2.2 ∧ BytesS (fun k => base ≤ k ∧ some k ≠ (Value.slice a D.length cap).ownBlock) w2 x.2.1 x.1.data)
    (hq : f.data.length ≤ q) (hd : BytesS (fun k => base ≤ k ∧ some k ≠ (Value.slice a D.length cap).ownBlock) w2 d f.data)
    (hown : w3.ownsRow base 76 3 (.slice (some ⟨g1, 0, none⟩) (D.length + 1) cap1) (D.length + 1) (fileC L ++ [.string (bs f.path), .bool f.config, .slice d f.data.length q]))
    (hk : Keep (fun k => some k ≠ (Value.slice a D.length cap).ownBlock) (w2.alloc o) w3) (hat : (Value.slice a D.length cap).ownBlock = some g1 ∨ g1 = (w2.alloc o).heap.size) :
    OwnF w3 base (some ⟨g1, 0, none⟩) cap1 (D ++ [f]) := by
  have hb : ∀ {p : Option Addr} {l : By}, BytesS (fun k => base ≤ k ∧ some k ≠ (Value.slice a D.length cap).ownBlock) w2 p l → BytesS (fun k => base ≤ k ∧ some k ≠ (Value.slice (some ⟨g1, 0, none⟩) (D ++ [f]).length cap1).ownBlock) w3 p l := by
    intro p l hb
    have e1 : BytesS (fun k => base ≤ k ∧ some k ≠ (Value.slice a D.length cap).ownBlock ∧ k < (w2.alloc o).heap.size) (w2.alloc o) p l :=
      (Row.keep hb (Keep.of_ext (Ext.alloc w2 o))).mono (fun k hk hs => ⟨hs.1, hs.2, hk⟩)
    refine (Row.keep e1 (hk.mono (fun k _ hs => hs.2.1))).mono (fun k _ hs => ⟨hs.1, ?_⟩)
    show some k ≠ some g1
    rcases hat with hat | hat
    · rw [hat] at hs; exact hs.2.1
    · intro e; have := Option.some.inj e; have := hs.2.2; omega
  refine ⟨L ++ [(f, d, q)], by rw [List.map_append, h1]; rfl, ?_, ?_⟩
  · rw [List.length_append]
    simpa [fileC] using hown
  · intro x hx
    rcases List.mem_append.1 hx with hx | hx
    · exact ⟨(h3 x hx).1, hb (h3 x hx).2⟩
    · rw [List.mem_singleton.1 hx]
      exact ⟨hq, hb hd⟩
theorem ownF_lt {w : World} {base : Nat} {a : Option Addr} {cap : Nat} {D : List FileD} (h : OwnF w base a cap D) (g : Nat) (e : (Value.slice a D.length cap).ownBlock = some g) : g < w.heap.size := by
  obtain ⟨L, _, h2, _⟩ := h
  exact (World.ownsRow.lt h2 g e).2























































end Go.Proofs.YtnclibfhbngkjaaGreatDoor
