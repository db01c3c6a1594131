/- Trees in memory. -/
import Derived.Test.YtldgpcmnmegioaaGreatDoorTreeLaws
import Derived.Test.YtldgpcmnmegioaaGreatDoorMapRange
import Derived.Test.YtldgpcmnmegioaaGreatDoorMapKeys
namespace Go.Proofs.YtldgpcmnmegioaaGreatDoor
open Go.RowKit
/-! ### Numbers as keys -/
def keyI (i : Int) : Lit := .int .i64 i
theorem keyI_inj (x y : Int) (h : keyI x = keyI y) : x = y := by unfold keyI at h; injection h
theorem int_keyedA : Maps.Keyed Tryz.prog 3 := Maps.int_keyed Tryz.underlying3
theorem key_intP {P : Program} {k : TypeId} (hk : P.underlying k = some (.int .i64)) {i : Int} (h1 : -9223372036854775808 ≤ i) (h2 : i ≤ 9223372036854775807) : keyOf P k (.int .i64 i) = some (keyI i) := by
  have h : (Lit.int .i64 i).wf = true := by
    unfold Lit.wf IntKind.min IntKind.max
    have e1 : IntKind.i64.signed = true := rfl
    have e2 : IntKind.i64.bits = 64 := rfl
    simp only [e1, e2, if_true, Bool.and_eq_true, decide_eq_true_eq]
    omega
  have hm : mapKey P k (.int .i64 i) = some (keyI i) := by
    unfold mapKey
    rw [hk]
    show (if IntKind.i64 = IntKind.i64 ∧ (Lit.int .i64 i).wf = true then some (Lit.int .i64 i) else none) = some (keyI i)
    rw [if_pos ⟨rfl, h⟩]
    rfl
  unfold keyOf
  rw [hk]
  exact hm
theorem inv_intP {P : Program} {k : TypeId} (hk : P.underlying k = some (.int .i64)) : ∀ key kl, keyOf P k key = some kl → ∃ x : Int, key = .int .i64 x ∧ kl = keyI x := by
  intro key kl h
  have h' : mapKey P k key = some kl := by
    unfold keyOf at h
    rw [hk] at h
    exact h
  unfold mapKey at h'
  rw [hk] at h'
  cases key with
  | int q n =>
    simp only at h'
    split at h'
    · rename_i hq
      obtain ⟨rfl, _⟩ := hq
      exact ⟨n, rfl, (Option.some.inj h').symm⟩
    · cases h'
  | _ => simp at h'
theorem key_int {i : Int} (h1 : -9223372036854775808 ≤ i) (h2 : i ≤ 9223372036854775807) : keyOf Tryz.prog 3 (.int .i64 i) = some (keyI i) := key_intP Tryz.underlying3 h1 h2
theorem inv_int : ∀ key kl, keyOf Tryz.prog 3 key = some kl → ∃ x : Int, key = .int .i64 x ∧ kl = keyI x := inv_intP Tryz.underlying3
/-! ### Bytes in a block of bytes -/
def DataM (w : World) (a : Option Addr) (l : By) : Prop :=
  l = [] ∨ ∃ g off cs fr, a = some ⟨g, off, none⟩ ∧ w.heap[g]? = some (.cells cs 5 fr) ∧ ∀ i u, (byteV l)[i]? = some u → w.cell? ⟨g, off + i, none⟩ = some u
/-- A kind of blocks that has all blocks of bytes. -/
def Datas (S : Nat → Prop) (w : World) : Prop := ∀ g cs fr, w.heap[g]? = some (.cells cs 5 fr) → S g
theorem DataM.keep {S : Nat → Prop} {w w' : World} {a : Option Addr} {l : By} (h : DataM w a l) (k : Keep S w w') (hS : Datas S w) : DataM w' a l := by
  rcases h with h | ⟨g, off, cs, fr, ha, hg, hc⟩
  · exact Or.inl h
  · exact Or.inr ⟨g, off, cs, fr, ha, k.heap (hS g cs fr hg) hg, fun i u hi => k.cell (hS g cs fr hg) (hc i u hi)⟩
theorem DataM.bytes {w : World} {a : Option Addr} {l : By} (h : DataM w a l) : Bytes w a l := by
  rcases h with h | ⟨g, off, cs, fr, ha, hg, hc⟩
  · exact Or.inl h
  · exact Or.inr ⟨g, off, ha, (Array.getElem?_eq_some_iff.1 hg).1, fun i hi => hc i _ (byteV_at hi)⟩
theorem datas_all (w : World) : Datas (fun _ => True) w := fun _ _ _ _ => trivial
theorem datas_map {w : World} {b : Nat} {es : Array MapEntry} {cl : Nat} (hb : w.heap[b]? = some (.map es cl)) : Datas (· ≠ b) w := by
  intro g cs fr hg e
  have e : g = b := e
  rw [e, hb] at hg; cases hg
theorem datas_cells {w : World} {b : Nat} {cur : Array Value} {t : TypeId} {fr : Nat × Nat} (hb : w.heap[b]? = some (.cells cur t fr)) (ht : t ≠ 5) : Datas (· ≠ b) w := by
  intro g cs fr' hg e
  have e : g = b := e
  rw [e, hb] at hg
  injection (Option.some.inj hg) with _ h2
  exact ht h2
/-! ### Nodes -/
structure NodeA where
  blk : Nat
  da : Option Addr
  dc : Nat
  kb : Option Nat
def nodeV (n : NodeD) (A : NodeA) : Array Value := #[.bool n.dir, .int .i64 n.links, .slice A.da n.data.length A.dc, .map A.kb]
def kidsF (k : By → Option Int) : By → Option Value := fun x => (k x).map (.int .i64 ·)
def KidsM (w : World) (K : Nat) (k : By → Option Int) (kb : Option Nat) : Prop :=
  (kb = none ∧ k = noK) ∨ ∃ b, kb = some b ∧ MapF keyS w 9 b K (kidsF k)
def NodeM (w : World) (K : Nat) (n : NodeD) (A : NodeA) : Prop :=
  w.heap[A.blk]? = some (.cells (nodeV n A) 71 (0, 0)) ∧ DataM w A.da n.data ∧ n.data.length ≤ A.dc ∧ KidsM w K n.kids A.kb
theorem KidsM.keep {S : Nat → Prop} {w w' : World} {K : Nat} {k : By → Option Int} {kb : Option Nat} (h : KidsM w K k kb) (kp : Keep S w w') (hS : ∀ b, kb = some b → S b) : KidsM w' K k kb := by
  rcases h with h | ⟨b, hb, hm⟩
  · exact Or.inl h
  · exact Or.inr ⟨b, hb, hm.keep kp (hS b hb)⟩
theorem KidsM.mono {w : World} {K L : Nat} {k : By → Option Int} {kb : Option Nat} (h : KidsM w K k kb) (hl : K ≤ L) : KidsM w L k kb := by
  rcases h with h | ⟨b, hb, hm⟩
  · exact Or.inl h
  · exact Or.inr ⟨b, hb, hm.mono hl⟩
theorem KidsM.block {w : World} {K : Nat} {k : By → Option Int} {kb : Option Nat} (h : KidsM w K k kb) {b : Nat} (hb : kb = some b) : ∃ es cl, w.heap[b]? = some (.map es cl) := by
  rcases h with ⟨h, _⟩ | ⟨b', hb', hm⟩
  · rw [h] at hb; cases hb
  · rw [hb'] at hb; cases hb; exact hm.block
theorem NodeM.keep {S : Nat → Prop} {w w' : World} {K : Nat} {n : NodeD} {A : NodeA} (h : NodeM w K n A) (k : Keep S w w') (hD : Datas S w) (hb : S A.blk) (hk : ∀ b, A.kb = some b → S b) : NodeM w' K n A :=
  ⟨k.heap hb h.1, h.2.1.keep k hD, h.2.2.1, h.2.2.2.keep k hk⟩
theorem NodeM.ext {w w' : World} {K : Nat} {n : NodeD} {A : NodeA} (h : NodeM w K n A) (k : Ext w w') : NodeM w' K n A :=
  h.keep (Keep.of_ext (S := fun _ => True) k) (datas_all w) trivial fun _ _ => trivial
theorem NodeM.mono {w : World} {K L : Nat} {n : NodeD} {A : NodeA} (h : NodeM w K n A) (hl : K ≤ L) : NodeM w L n A := ⟨h.1, h.2.1, h.2.2.1, h.2.2.2.mono hl⟩
/-- 'n.kids[x]'. -/
theorem KidsM.look {w : World} {K : Nat} {k : By → Option Int} {kb : Option Nat} (h : KidsM w K k kb) {x : By} (hx : x.length ≤ 100000) :
    (Instr.lookup 69 (.map kb) (.string (bs x)) false).run Tryz.prog w = .ok (.int .i64 ((k x).getD 0)) w := by
  rcases h with ⟨rfl, rfl⟩ | ⟨b, rfl, hm⟩
  · rw [Maps.look_nil false str_keyed Tryz.underlying69 (Tryz.zeroValue3 w) (key_by hx)]
    rfl
  · rw [hm.lookup str_keyed Tryz.underlying69 (Tryz.zeroValue3 w) (key_by hx)]
    unfold kidsF
    cases k x <;> rfl
/-! ### A tree -/
def nodeF (T : TreeD) (A : Int → NodeA) : Int → Option Value := fun i => if i ∈ T.ids then some (.pointer (some ⟨(A i).blk, 0, none⟩)) else none
structure TreeM (w : World) (base tb mb K : Nat) (T : TreeD) (A : Int → NodeA) : Prop where
  top : w.heap[tb]? = some (.cells #[.map (some mb), .int .i64 T.next, .int .i64 T.quota] 74 (0, 0))
  map : MapF keyI w 3 mb K (nodeF T A)
  node : ∀ i ∈ T.ids, NodeM w K (T.node i) (A i)
  blk : ∀ i ∈ T.ids, ∀ j ∈ T.ids, (A i).blk = (A j).blk → i = j
  kid : ∀ i ∈ T.ids, ∀ j ∈ T.ids, ∀ b, (A i).kb = some b → (A j).kb = some b → i = j
  mkb : ∀ i ∈ T.ids, (A i).kb ≠ some mb
  kbd : ∀ i ∈ T.ids, (T.node i).dir = true → ∃ b, (A i).kb = some b
  low : base ≤ tb ∧ base ≤ mb ∧ ∀ i ∈ T.ids, base ≤ (A i).blk ∧ ∀ b, (A i).kb = some b → base ≤ b
section
variable {w w' : World} {base tb mb K : Nat} {T : TreeD} {A : Int → NodeA}
theorem TreeM.ext (h : TreeM w base tb mb K T A) (k : Ext w w') : TreeM w' base tb mb K T A :=
  ⟨k.heap h.top, h.map.ext k, fun i hi => (h.node i hi).ext k, h.blk, h.kid, h.mkb, h.kbd, h.low⟩
theorem TreeM.mono (h : TreeM w base tb mb K T A) {L : Nat} (hl : K ≤ L) : TreeM w base tb mb L T A :=
  ⟨h.top, h.map.mono hl, fun i hi => (h.node i hi).mono hl, h.blk, h.kid, h.mkb, h.kbd, h.low⟩
/-- Blocks that are none of the tree's are turned. -/
theorem TreeM.keep {S : Nat → Prop} (h : TreeM w base tb mb K T A) (k : Keep S w w') (hD : Datas S w) (h1 : S tb) (h2 : S mb) (h3 : ∀ i ∈ T.ids, S (A i).blk ∧ ∀ b, (A i).kb = some b → S b) : TreeM w' base tb mb K T A :=
  ⟨k.heap h1 h.top, h.map.keep k h2, fun i hi => (h.node i hi).keep k hD (h3 i hi).1 (h3 i hi).2, h.blk, h.kid, h.mkb, h.kbd, h.low⟩
/-- 't.nodes[i]'. -/
theorem TreeM.look (h : TreeM w base tb mb K T A) {i : Int} (hi : i ∈ T.ids) (h1 : -9223372036854775808 ≤ i) (h2 : i ≤ 9223372036854775807) :
    (Instr.lookup 72 (.map (some mb)) (.int .i64 i) false).run Tryz.prog w = .ok (.pointer (some ⟨(A i).blk, 0, none⟩)) w := by
  rw [h.map.lookup int_keyedA Tryz.underlying72 (Tryz.zeroValue68 w) (key_int h1 h2)]
  unfold nodeF
  rw [if_pos hi]
  rfl
end
end Go.Proofs.YtldgpcmnmegioaaGreatDoor
