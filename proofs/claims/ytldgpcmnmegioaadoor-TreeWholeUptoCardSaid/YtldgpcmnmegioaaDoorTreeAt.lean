/- A tree that a caller holds. -/
import Derived.Test.YtldgpcmnmegioaaDoorTreeNew
import Derived.Test.YtldgpcmnmegioaaDoorTreeDo
import Derived.Test.YtldgpcmnmegioaaDoorTreeRead
import Derived.Test.YtldgpcmnmegioaaDoorTreeList
import Derived.Test.YtldgpcmnmegioaaDoorTreeLoose
namespace Go.Proofs.YtldgpcmnmegioaaDoor
open Go.RowKit
/-- A tree lies at an address. -/
def TreeAt (w : World) (base tb N : Nat) (T : TreeD) : Prop := GoodT T ∧ FitT T N ∧ ∃ mb A, TreeM w base tb mb N T A
section
variable {w w' : World} {base tb N : Nat} {T : TreeD}
theorem TreeAt.ext (h : TreeAt w base tb N T) (k : Ext w w') : TreeAt w' base tb N T := by
  obtain ⟨h1, h2, mb, A, h3⟩ := h
  exact ⟨h1, h2, mb, A, h3.ext k⟩
theorem TreeAt.low (h : TreeAt w base tb N T) : base ≤ tb ∧ tb < w.heap.size := by
  obtain ⟨h1, h2, mb, A, h3⟩ := h
  exact ⟨h3.low.1, (Array.getElem?_eq_some_iff.1 h3.top).1⟩
/-- Another tree is turned. -/
theorem TreeAt.other {ub M base' : Nat} {U : TreeD} (h : TreeAt w base tb N T) (hu : TreeAt w base' ub M U) (hne : tb ≠ ub) (k : Keep (· ≠ ub) w w') : TreeAt w' base tb N T := by
  obtain ⟨h1, h2, mb, A, h3⟩ := h
  obtain ⟨_, _, um, B, hu3⟩ := hu
  refine ⟨h1, h2, mb, A, h3.keep k (datas_cells hu3.top (by decide)) hne (h3.map_ne hu3.top) fun i hi => ⟨fun e => ?_, fun b hb => h3.kid_ne hi hb hu3.top⟩⟩
  have h4 := (h3.node i hi).1
  rw [e, hu3.top] at h4
  injection (Option.some.inj h4) with _ h5
  exact absurd h5 (by decide)
theorem ext_do {wa wb : World} (h : Ext w wa) (hb : w.heap.size ≤ tb) (k : Keep (· ≠ tb) wa wb) : Ext w wb :=
  ((Keep.of_ext (S := fun j => j < w.heap.size) h).andThen k (fun j hj _ => by show j ≠ tb; omega)).ext_lt
theorem at_New (q : Int) (w : World) : Calls Tryd.prog 7 #[.int .i64 q] w fun e w' => ∃ tb, e = .returned (.pointer (some ⟨tb, 0, none⟩)) ∧ TreeAt w' w.heap.size tb 2 (newT q) ∧ Ext w w' :=
  (tree_New q w).mono fun e w' ⟨tb, mb, A, he, hm, hx⟩ => ⟨tb, he, ⟨newT_good q, newT_fit q, mb, A, hm.mono (by omega)⟩, hx⟩
theorem at_Do (a : Option Addr) (c : Nat) (L : List (OpD × OpA)) (hE : Env w) (h : TreeAt w base tb N T) (hL : OpsL w a L) (hN : N + 2 * L.length ≤ 1000000000) :
    Calls Tryd.prog 8 #[.pointer (some ⟨tb, 0, none⟩), .slice a L.length c] w fun e w' => e = .returned (.int .i64 (doT T (L.map Prod.fst)).2) ∧ TreeAt w' base tb (N + 2 * L.length) (doT T (L.map Prod.fst)).1 ∧ Keep (· ≠ tb) w w' := by
  obtain ⟨h1, h2, mb, A, h3⟩ := h
  refine (tree_Do a c L w hE h3 h1 h2 (Nat.le_refl _) hN hL).mono ?_
  rintro e w' ⟨he, ⟨mb', A', hm⟩, hk⟩
  exact ⟨he, ⟨doT_good h1 _, (doT_fit h2 _).mono (by rw [List.length_map]; omega), mb', A', hm⟩, hk⟩
theorem at_Clone (h : TreeAt w base tb N T) (hN : N ≤ 1000000000) :
    Calls Tryd.prog 9 #[.pointer (some ⟨tb, 0, none⟩)] w fun e w' => ∃ ub, e = .returned (.pointer (some ⟨ub, 0, none⟩)) ∧ TreeAt w' w.heap.size ub N T ∧ Ext w w' := by
  obtain ⟨h1, h2, mb, A, h3⟩ := h
  refine (tree_Clone w h3 h1 h2 (Nat.le_refl _) hN).mono ?_
  rintro e w' ⟨ub, um, A', he, hm, hx⟩
  exact ⟨ub, he, ⟨h1, h2, um, A', hm⟩, hx⟩
theorem at_Find (p : By) (hE : Env w) (h : TreeAt w base tb N T) (hN : N ≤ 1000000000) :
    Calls Tryd.prog 12 #[.pointer (some ⟨tb, 0, none⟩), .string (bs p)] w fun e w' => e = .returned (.tuple #[.int .i64 (findT T p), .bool (decide (findT T p ≠ 0))]) ∧ Ext w w' := by
  obtain ⟨h1, h2, mb, A, h3⟩ := h
  exact tree_Find p w hE h3 h1 (by have := h2.next; omega)
theorem at_Dir (p : By) (hE : Env w) (h : TreeAt w base tb N T) (hN : N ≤ 1000000000) :
    Calls Tryd.prog 14 #[.pointer (some ⟨tb, 0, none⟩), .string (bs p)] w fun e w' => e = .returned (.bool (decide (findT T p ≠ 0) && (T.node (findT T p)).dir)) ∧ Ext w w' := by
  obtain ⟨h1, h2, mb, A, h3⟩ := h
  exact tree_Dir p w hE h3 h1 (by have := h2.next; omega)
theorem at_Read (p : By) (hE : Env w) (h : TreeAt w base tb N T) (hN : N ≤ 1000000000) :
    Calls Tryd.prog 13 #[.pointer (some ⟨tb, 0, none⟩), .string (bs p)] w (ReadI T (findT T p) w) := by
  obtain ⟨h1, h2, mb, A, h3⟩ := h
  exact tree_Read p w hE h3 h1 h2 hN
theorem at_List (p : By) (hE : Env w) (h : TreeAt w base tb N T) (hN : N ≤ 1000000000) :
    Calls Tryd.prog 16 #[.pointer (some ⟨tb, 0, none⟩), .string (bs p)] w (ListI T (findT T p) w) := by
  obtain ⟨h1, h2, mb, A, h3⟩ := h
  exact tree_List p w hE h3 h1 h2 hN hN
theorem at_Nodes (h : TreeAt w base tb N T) :
    Calls Tryd.prog 10 #[.pointer (some ⟨tb, 0, none⟩)] w fun e w' => e = .returned (.int .i64 T.ids.length) ∧ Ext w w' := by
  obtain ⟨h1, h2, mb, A, h3⟩ := h
  exact tree_Nodes w h3 h1.nodup
theorem at_Used (h : TreeAt w base tb N T) (hN : N ≤ 1000000000) :
    Calls Tryd.prog 11 #[.pointer (some ⟨tb, 0, none⟩)] w fun e w' => e = .returned (.int .i64 (usedT T)) ∧ Ext w w' := by
  obtain ⟨h1, h2, mb, A, h3⟩ := h
  exact tree_Used w h3 h1 h2 (by omega)
theorem at_Loose (h : TreeAt w base tb N T) (hN : N ≤ 1000000000) :
    Calls Tryd.prog 15 #[.pointer (some ⟨tb, 0, none⟩)] w fun e w' => ∃ a c, e = .returned (.slice a (looseT T).length c) ∧ OwnIs w' w.heap.size a c (looseT T) ∧ Ext w w' := by
  obtain ⟨h1, h2, mb, A, h3⟩ := h
  exact tree_Loose w h3 h1 h2 hN
end
/-- An operation as cells. -/
def opV (x : OpD × OpA) : List Value := [.int .i64 x.1.kind, .string (bs x.1.path), .string (bs x.1.dest), .slice x.2.oa x.1.data.length x.2.oc]
theorem ops_blk {w : World} {g : Nat} {L : List (OpD × OpA)} (hg : w.heap[g]? = some (.cells (L.flatMap opV).toArray 36 (0, 0))) (hb : ∀ x ∈ L, Bytes w x.2.oa x.1.data) : OpsL w (some ⟨g, 0, none⟩) L := by
  refine Or.inr ⟨g, 0, rfl, (Array.getElem?_eq_some_iff.1 hg).1, fun i hi => ?_⟩
  have eL : L.getD i oz = L[i] := by simp [List.getD_eq_getElem?_getD, List.getElem?_eq_getElem hi]
  rw [eL]
  have hcell : ∀ r u, r < 4 → (opV L[i])[r]? = some u → w.cell? ⟨g, 0 + i * 4 + r, none⟩ = some u := by
    intro r u hr hu
    refine blk_cell hg _ u ?_
    have := flat_at (F := opV) (m := 4) (fun _ => rfl) L i r hi hr
    rw [hu] at this
    rw [Nat.zero_add]
    simpa using this
  exact ⟨⟨hcell 0 _ (by omega) rfl, hcell 1 _ (by omega) rfl, hcell 2 _ (by omega) rfl, hcell 3 _ (by omega) rfl⟩, hb _ (List.getElem_mem hi)⟩
/-- Bytes in a block. -/
theorem bytes_blk {w : World} {g : Nat} {l : By} {t : TypeId} {fr : Nat × Nat} (hg : w.heap[g]? = some (.cells (byteV l).toArray t fr)) : Bytes w (some ⟨g, 0, none⟩) l := by
  refine Or.inr ⟨g, 0, rfl, (Array.getElem?_eq_some_iff.1 hg).1, fun i hi => ?_⟩
  rw [Nat.zero_add]
  have h : w.cell? ⟨g, i, none⟩ = (byteV l).toArray[i]? := by simp [World.cell?, hg]
  rw [h]
  simpa using byteV_at hi
end Go.Proofs.YtldgpcmnmegioaaDoor
