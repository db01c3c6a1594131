/- Several texts of mine, one behind the other: Base, Env, Frame, Own, RecSpec, Keep. -/
import Derived.WalkKit
import Derived.Lib.Split
import Derived.Lib.SplitLaws
import Derived.Lib.Strings
import Derived.Lib.Hide
import Derived.Test.YtldgpcmnmegioaaDoorProg
import Derived.ChangeAgain
import Derived.BigQuiet
import Derived.Deep.QuietTactic
import Derived.Handy
import Derived.Test.YtldgpcmnmegioaaDoorCards
import Derived.Test.YtldgpcmnmegioaaDoorTie
import Derived.ProofKit
import Derived.OpenShut
import Derived.Deep.DeepHandedRow
import Derived.Lib.LaidTab
import Derived.SliceStrings
namespace Go.Proofs.YtldgpcmnmegioaaDoor
open Go.RowKit

/-- A text of bytes. -/
def bs (l : List UInt8) : ByteArray := ⟨l.toArray⟩
theorem bs_data (l : List UInt8) : (bs l).data.toList = l := by simp [bs]
theorem bs_of (s : ByteArray) : bs s.data.toList = s := by cases s; simp [bs]
theorem bs_size (l : List UInt8) : (bs l).size = l.length := by simp [bs, ByteArray.size]
theorem bs_toList (l : List UInt8) : (bs l).toList = l := by rw [ByteArray.toList_eq, bs_data]
theorem bs_inj {a b : List UInt8} : bs a = bs b ↔ a = b := ⟨fun h => by rw [← bs_data a, h, bs_data], fun h => by rw [h]⟩
theorem size_len (s : ByteArray) : s.data.toList.length = s.size := by simp
theorem eq_bs {s : ByteArray} {l : List UInt8} (h : s.data.toList = l) : s = bs l := by rw [← h, bs_of]
theorem extract_bs (s : ByteArray) (a b : Nat) : s.extract a b = bs ((s.data.toList.drop a).take (b - a)) := by
  apply eq_bs; rw [← ByteArray.toList_eq, Lib.extract_toList]

theorem bs_append (a b : List UInt8) : bs a ++ bs b = bs (a ++ b) := by
  apply eq_bs
  simp [bs]
theorem bs_beq_ne {a b : List UInt8} (h : a ≠ b) : ((bs a).toList == (bs b).toList) = false := by rw [bs_toList, bs_toList]; simpa using h
theorem bs_bne_ne {a b : List UInt8} (h : a ≠ b) : ((bs a).toList != (bs b).toList) = true := by rw [bs_toList, bs_toList]; simpa using h
theorem bs_beq_eq {a b : List UInt8} (h : a = b) : ((bs a).toList == (bs b).toList) = true := by rw [h]; simp
theorem bs_bne_eq {a b : List UInt8} (h : a = b) : ((bs a).toList != (bs b).toList) = false := by rw [h]; simp
theorem ret_bool {a b : Bool} (h : a = b) : Ending.returned (.bool a) = .returned (.bool b) := by rw [h]
theorem ret_int {k : IntKind} {a b : Int} (h : a = b) : Ending.returned (.int k a) = .returned (.int k b) := by rw [h]
theorem ret_str {a b : ByteArray} (h : a = b) : Ending.returned (.string a) = .returned (.string b) := by rw [h]

/-- What stands between bytes c. -/
def splitOn (c : UInt8) : List UInt8 → List (List UInt8)
  | [] => [[]]
  | x :: r => if x = c then [] :: splitOn c r else
    match splitOn c r with
    | [] => [[x]]
    | p :: q => (x :: p) :: q
theorem splitOn_ne (c : UInt8) (l : List UInt8) : splitOn c l ≠ [] := by
  cases l with
  | nil => simp [splitOn]
  | cons x r => unfold splitOn; split <;> try simp
                split <;> simp
theorem splitOn_cons_eq (c : UInt8) (r : List UInt8) : splitOn c (c :: r) = [] :: splitOn c r := by simp [splitOn]
theorem splitOn_append (c : UInt8) (a r : List UInt8) (ha : c ∉ a) : splitOn c (a ++ c :: r) = a :: splitOn c r := by
  induction a with
  | nil => simp [splitOn]
  | cons x a ih =>
    have h1 : x ≠ c := fun e => ha (by simp [e])
    have h2 : c ∉ a := fun e => ha (by simp [e])
    rw [List.cons_append, splitOn, if_neg h1, ih h2]
theorem splitOn_none (c : UInt8) (a : List UInt8) (ha : c ∉ a) : splitOn c a = [a] := by
  induction a with
  | nil => rfl
  | cons x a ih =>
    have h1 : x ≠ c := fun e => ha (by simp [e])
    have h2 : c ∉ a := fun e => ha (by simp [e])
    rw [splitOn, if_neg h1, ih h2]

/-- No piece has the byte; joined again by it they are the text. -/
theorem splitOn_mem (c : UInt8) (l : List UInt8) : ∀ p ∈ splitOn c l, c ∉ p := by
  induction l with
  | nil => intro p hp; simp [splitOn] at hp; subst hp; simp
  | cons x r ih =>
    intro p hp
    unfold splitOn at hp
    split at hp
    · rcases List.mem_cons.1 hp with rfl | hp
      · simp
      · exact ih p hp
    · rename_i hx
      split at hp
      · simp at hp; subst hp; simp; exact fun e => hx e.symm
      · rename_i q qs hq
        rcases List.mem_cons.1 hp with rfl | hp
        · intro e
          rcases List.mem_cons.1 e with e | e
          · exact hx e.symm
          · exact ih q (by rw [hq]; simp) e
        · exact ih p (by rw [hq]; simp [hp])

/-- Pieces with the byte ahead of each. -/
def glue (c : UInt8) (L : List (List UInt8)) : List UInt8 := (L.map (c :: ·)).flatten
theorem glue_cons (c : UInt8) (p : List UInt8) (L) : glue c (p :: L) = c :: p ++ glue c L := by simp [glue]
theorem glue_append (c : UInt8) (A B) : glue c (A ++ B) = glue c A ++ glue c B := by simp [glue]
theorem glue_splitOn (c : UInt8) (l : List UInt8) : glue c (splitOn c l) = c :: l := by
  induction l with
  | nil => rfl
  | cons x r ih =>
    unfold splitOn
    split
    · rename_i h; subst h; rw [glue_cons, ih]; rfl
    · split
      · rename_i h; exact absurd h (splitOn_ne c r)
      · rename_i p q h
        rw [h, glue_cons] at ih
        rw [glue_cons]
        simp at ih ⊢
        exact ih
theorem splitOn_glue (c : UInt8) (p : List UInt8) (L : List (List UInt8)) (hp : c ∉ p) (h : ∀ q ∈ L, c ∉ q) : splitOn c (p ++ glue c L) = p :: L := by
  induction L generalizing p with
  | nil => simp [glue, splitOn_none c p hp]
  | cons q L ih =>
    rw [glue_cons, List.cons_append, splitOn_append c p _ hp, ih q (h q (by simp)) (fun r hr => h r (by simp [hr]))]

theorem splitOn_length_pos (c : UInt8) (l : List UInt8) : 1 ≤ (splitOn c l).length := by
  have := splitOn_ne c l
  cases h : splitOn c l with
  | nil => exact absurd h this
  | cons => simp

theorem index_cons_ne (b c : UInt8) (l : List UInt8) (h : b ≠ c) : Lib.index (b :: l) [c] = if Lib.index l [c] == -1 then -1 else Lib.index l [c] + 1 := by
  have hp : ([c] : List UInt8).isPrefixOf (b :: l) = false := by simp [List.isPrefixOf, Ne.symm h]
  rw [Lib.index, hp]; simp
theorem index_cons_eq (c : UInt8) (l : List UInt8) : Lib.index (c :: l) [c] = 0 := by rw [Lib.index]; simp [List.isPrefixOf]
theorem index_count (c : UInt8) (l : List UInt8) : Lib.index l [c] = -1 ↔ Lib.count l [c] = 0 := by
  constructor
  · exact fun h => Lib.count_miss h
  · intro h
    have hge := Lib.index_ge l [c]
    by_cases hm : Lib.index l [c] = -1
    · exact hm
    · obtain ⟨j, hj⟩ : ∃ j : Nat, Lib.index l [c] = j := ⟨(Lib.index l [c]).toNat, by omega⟩
      rw [Lib.count_hit (by simp) hj] at h
      omega
theorem splitK_on (c : UInt8) : ∀ (l : List UInt8), Lib.splitK [c] 0 (Lib.count l [c]) l = splitOn c l
  | [] => by rw [Lib.count_one]; rfl
  | b :: l => by
    have ih := splitK_on c l
    by_cases h : b = c
    · subst h
      rw [Lib.count_cons_eq, Nat.add_comm, Lib.splitK, index_cons_eq, splitOn_cons_eq]
      simp [ih]
    · rw [Lib.count_cons_ne b c l h, splitOn, if_neg h]
      cases hk : Lib.count l [c] with
      | zero =>
        rw [hk] at ih
        rw [← ih]; rfl
      | succ k =>
        rw [hk] at ih
        have hm : Lib.index l [c] ≠ -1 := fun e => by have := (index_count c l).1 e; omega
        have hge := Lib.index_ge l [c]
        obtain ⟨j, hj⟩ : ∃ j : Nat, Lib.index l [c] = j := ⟨(Lib.index l [c]).toNat, by omega⟩
        have hix : Lib.index (b :: l) [c] = ((j + 1 : Nat) : Int) := by rw [index_cons_ne b c l h, if_neg (fun e => hm (beq_iff_eq.1 e)), hj]; omega
        rw [← ih, Lib.splitK, Lib.splitK, hix, hj]
        have e1 : (((j + 1 : Nat) : Int) == -1) = false := by rw [beq_eq_false_iff_ne]; omega
        have e2 : (((j : Nat) : Int) == -1) = false := by rw [beq_eq_false_iff_ne]; omega
        rw [e1, e2]
        simp
/-- The pieces that strings.Split gives, at a separator of one byte. -/
theorem splitB_on (c : UInt8) (s : ByteArray) : Lib.splitB (bs [c]) 0 (Lib.countB s (bs [c])) s = (splitOn c s.data.toList).map bs := by
  have h := Lib.splitB_data (bs [c]) 0 (Lib.countB s (bs [c])) s
  have hc : Lib.countB s (bs [c]) = Lib.count s.data.toList [c] := by unfold Lib.countB; rw [bs_data]
  rw [hc] at h ⊢
  rw [bs_data, splitK_on] at h
  rw [← h, List.map_map]
  conv => lhs; rw [← List.map_id (Lib.splitB (bs [c]) 0 (Lib.count s.data.toList [c]) s)]
  apply List.map_congr_left
  intro x _
  simp [bs_of]
theorem countB_on (c : UInt8) (s : ByteArray) : Lib.countB s (bs [c]) + 1 = (splitOn c s.data.toList).length := by
  have h := Lib.splitB_all (bs [c]) (by rw [bs_size]; simp) 0 (Lib.countB s (bs [c])) s rfl
  rw [splitB_on, List.length_map] at h
  exact h.symm
end Go.Proofs.YtldgpcmnmegioaaDoor
namespace Go.Proofs.YtldgpcmnmegioaaDoor
open Go.RowKit

/-- Behind it nothing of what was there has turned. -/
def Ext (w w' : World) : Prop := Below w.heap.size w w'
theorem Ext.refl (w : World) : Ext w w := Below.refl _ _
theorem Ext.trans {a b c : World} (h : Ext a b) (k : Ext b c) : Ext a c := Below.trans h (Below.mono k h.size)
theorem Ext.alloc (w : World) (o : Obj) : Ext w (w.alloc o) := (Below.refl _ _).alloc (Nat.le_refl _) _
theorem Ext.drew {a b : World} (h : Ext a b) : Ext a b.drew := Below.drew h
theorem Ext.drewN {a b : World} (h : Ext a b) (n : Nat) : Ext a (b.drewN n) := ⟨h.os, h.tape, h.output, h.size, h.block⟩
theorem Ext.of_below {w w' : World} {B : Nat} (h : Below B w w') (hB : w.heap.size ≤ B) : Ext w w' := h.mono hB
theorem Ext.size {w w' : World} (h : Ext w w') : w.heap.size ≤ w'.heap.size := Below.size h
theorem Ext.cell {w w' : World} (h : Ext w w') {p : Addr} {v : Value} (hc : w.cell? p = some v) : w'.cell? p = some v := by
  have hp : p.block < w.heap.size := by
    rcases Nat.lt_or_ge p.block w.heap.size with hl | hl
    · exact hl
    · have e : w.heap[p.block]? = none := Array.getElem?_eq_none hl
      simp [World.cell?, e] at hc
  rw [Below.cell h hp]; exact hc
theorem Ext.heap {w w' : World} (h : Ext w w') {b : Nat} {o : Obj} (hc : w.heap[b]? = some o) : w'.heap[b]? = some o := by
  have hp : b < w.heap.size := by
    rcases Nat.lt_or_ge b w.heap.size with hl | hl
    · exact hl
    · rw [Array.getElem?_eq_none hl] at hc; cases hc
  rw [h.block b hp]; exact hc

structure Env (w : World) : Prop where
  shaped : w.ShapedOpen Tryd.prog
theorem Env.ext {w w' : World} (h : Env w) (k : Ext w w') : Env w' :=
  ⟨h.shaped.keptBut (Below.frame k (fun _ => False)) (fun _ hp => hp.elim)⟩

/-- A slice at this address has these texts. -/
def Strs (w : World) (a : Option Addr) (L : List (List UInt8)) : Prop :=
  L = [] ∨ ∃ g off, a = some ⟨g, off, none⟩ ∧ g < w.heap.size ∧ ∀ i, i < L.length → w.cell? ⟨g, off + i, none⟩ = some (.string (bs (L.getD i [])))
theorem Strs.nil (w : World) (a : Option Addr) : Strs w a [] := Or.inl rfl
theorem Strs.ext {w w' : World} {a : Option Addr} {L : List (List UInt8)} (h : Strs w a L) (k : Ext w w') : Strs w' a L := by
  rcases h with h | ⟨g, off, ha, hg, hc⟩
  · exact Or.inl h
  · exact Or.inr ⟨g, off, ha, Nat.lt_of_lt_of_le hg k.size, fun i hi => k.cell (hc i hi)⟩
theorem Strs.at {w : World} {a : Option Addr} {L : List (List UInt8)} (h : Strs w a L) (hL : L ≠ []) :
    ∃ g off, a = some ⟨g, off, none⟩ ∧ g < w.heap.size ∧ ∀ i, i < L.length → w.cell? ⟨g, off + i, none⟩ = some (.string (bs (L.getD i []))) :=
  h.resolve_left hL
theorem Strs.at0 {w : World} {b : Nat} {L : List (List UInt8)} (h : Strs w (some ⟨b, 0, none⟩) L) :
    ∀ i, i < L.length → w.cell? ⟨b, i, none⟩ = some (.string (bs (L.getD i []))) := by
  intro i hi
  rcases h with h | ⟨g, off, ha, _, hc⟩
  · rw [h] at hi; simp at hi
  · have ha := Option.some.inj ha
    obtain ⟨rfl, rfl⟩ : g = b ∧ off = 0 := by constructor <;> (cases ha; rfl)
    have := hc i hi
    rwa [Nat.zero_add] at this
/-- A new block of texts. -/
theorem Strs.made (w : World) (L : List (List UInt8)) (t : TypeId) : Strs (w.alloc (.cells ((L.map bs).map Value.string).toArray t)) (some ⟨w.heap.size, 0, none⟩) L := by
  refine Or.inr ⟨w.heap.size, 0, rfl, by simp, fun i hi => ?_⟩
  have h : (w.alloc (.cells ((L.map bs).map Value.string).toArray t)).heap[w.heap.size]? = some (.cells ((L.map bs).map Value.string).toArray t (0, 0)) := by
    show (w.heap.push _)[w.heap.size]? = _
    simp
  unfold World.cell?
  simp only [h]
  simp [hi]
end Go.Proofs.YtldgpcmnmegioaaDoor
namespace Go.Proofs.YtldgpcmnmegioaaDoor
open Go.RowKit Go.WideShapes Go.ChangeShapes
section
variable {H : Type} {enc : TypeId × Value → H}
theorem trodAll_ext {P : Program} (hl : laidOutB P = true) {W W' : World} (hb : Ext W W') : ∀ (ts : List TypeId) (vs : List Value) (ds : List (DataW H)) (ps : List MemPlace),
    (ts.all fun t => P.readableRec t && decide (t < P.types.size)) = true →
    DataW.TrodAll enc P W 0 (fun _ => true) true ts vs ds ps → (∀ x ∈ ps, x.block < W.heap.size) →
    DataW.TrodAll enc P W' 0 (fun b => decide (b < W.heap.size)) true ts vs ds ps
  | [], [], [], _, _, h, _ => h
  | t :: ts, v :: vs, d :: ds, ps, hr, h, hlt => by
    obtain ⟨p, q, h1, h2, rfl⟩ := h
    simp only [List.all_cons, Bool.and_eq_true, decide_eq_true_eq] at hr
    exact ⟨p, q, Below.trod hl hr.1.1 hr.1.2 h1 hb (fun x hx => hlt x (List.mem_append_left _ hx)),
      trodAll_ext hl hb ts vs ds q hr.2 h2 (fun x hx => hlt x (List.mem_append_right _ hx)), rfl⟩
  | [], _ :: _, _, _, _, h, _ => h.elim
  | [], [], _ :: _, _, _, h, _ => h.elim
  | _ :: _, [], _, _, _, h, _ => h.elim
  | _ :: _, _ :: _, [], _, _, h, _ => h.elim
theorem law_post {P : Program} {f : Func} {s : ChangeSpec} {tb : TypeId} {W W' : World} {args : Array Value} {ds gs : List (DataW H)} {before : List MemPlace}
    (hl : laidOutB P = true) (hr : (f.params.toList.all fun t => P.readableRec t && decide (t < P.types.size)) = true)
    (hv : s.vars = []) (hres : f.resultTypes = #[tb]) (htb : P.underlying tb = some .bool)
    (hW : DataW.Whole enc P f.params.toList s.vars false W args.toList ds gs before)
    (hfn : s.fn H (ds ++ gs) = { results := [.lit (.bool true)], args := ds }) (hb : Ext W W') :
    s.post enc P f false true false false W args (.bool true) W' := by
  have hW' := hW
  have hlt := hW.lt
  obtain ⟨p, q, hA, hV, rfl, _, _⟩ := hW
  rw [hv] at hV
  have hq : gs = [] ∧ q = [] := by
    cases gs with
    | nil => exact ⟨rfl, hV⟩
    | cons _ _ => exact hV.elim
  obtain ⟨rfl, rfl⟩ := hq
  refine ⟨ds, [], p ++ [], [], p, [], hW', ?_, ?_, ?_, ?_, fun h => by cases h⟩
  · rw [hfn, hres]
    exact trodAll_cons_mk (shut_bool htb true) trodAll_mk0
  · rw [hfn]
    exact trodAll_ext hl hb _ _ _ _ hr hA (fun x hx => hlt x (List.mem_append_left _ hx))
  · rw [hfn, hv]; rfl
  · exact Below.frame hb _
end
theorem cells_string : Tryd.prog.cellsOf 9 = 1 := by kernel_rfl
set_option maxRecDepth 100000 in
/-- A []string that came in. -/
theorem open_texts {H : Type} {enc : TypeId × Value → H} {W : World} {base b0 : Nat} {v : Value} {d : DataW H} {ps : List MemPlace} {held : Bool}
    (hval : Value.okWide Tryd.prog W .any b0 46 v) (hd : DataW.Trod enc Tryd.prog W base (fun _ => true) held 46 v d ps) :
    ∃ (a : Option Addr) (L : List (List UInt8)) (c : Nat), v = .slice a L.length c ∧ L.length ≤ c ∧ Strs W a L := by
  obtain ⟨a0, len, cap, rfl⟩ := okWide_slice Tryd.underlying46 hval
  obtain ⟨fuel, hf⟩ := hd
  rcases open_strings Tryd.underlying46 Tryd.underlying9 cells_string hf with ⟨hcs, hx⟩ | ⟨a, len', cap', ss, hcs, _, hl, hm, hz, hx, hcell, hws⟩
  · simp [Value.cells] at hcs
    obtain ⟨rfl, rfl, rfl⟩ := hcs
    exact ⟨none, [], 0, rfl, Nat.le_refl _, Strs.nil _ _⟩
  · simp [Value.cells] at hcs
    obtain ⟨rfl, rfl, rfl⟩ := hcs
    have hz' : ss.length = cap := by simpa using hz
    have hLl : ((ss.take len).map (·.data.toList)).length = len := by simp; omega
    refine ⟨some a, (ss.take len).map (·.data.toList), cap, by rw [hLl], by rw [hLl]; exact hl, ?_⟩
    by_cases h0 : (ss.take len).map (·.data.toList) = []
    · exact Or.inl h0
    · have hlen : 0 < len := by
        rcases Nat.eq_zero_or_pos len with h | h
        · subst h; simp at h0
        · exact h
      have hc0 := hcell 0 (by omega)
      have e0 : a.add 0 = a := by simp [Addr.add]
      rw [e0] at hc0
      have hspot : a.spot = none := by
        cases hs : a.spot with
        | none => rfl
        | some x =>
          simp only [World.cell?] at hc0
          split at hc0
          · rw [hs] at hc0; simp at hc0
          · cases hc0
      have hblk : a.block < W.heap.size := by
        rcases Nat.lt_or_ge a.block W.heap.size with h | h
        · exact h
        · have e : W.heap[a.block]? = none := Array.getElem?_eq_none h
          simp [World.cell?, e] at hc0
      refine Or.inr ⟨a.block, a.off, by cases a; simp at hspot; subst hspot; rfl, hblk, fun i hi => ?_⟩
      have hi' : i < len := by rw [hLl] at hi; exact hi
      have hc := hcell i (by omega)
      have ea : a.add i = ⟨a.block, a.off + i, none⟩ := by
        cases a; simp at hspot; subst hspot
        unfold Addr.add; split
        · rename_i h; subst h; rfl
        · rfl
      rw [ea] at hc
      rw [hc]
      have hi2 : i < ss.length := by omega
      simp [hi', hi2, bs_of]
theorem stand_ins {P : Program} {ps : Array TypeId} (h : (ps.toList.all fun t => !P.wantsStandIn t) = true) : ∀ (j : Nat) t, ps[j]? = some t → P.wantsStandIn t = false := by
  intro j t ht
  have hm : t ∈ ps.toList := by
    have := Array.mem_of_getElem? ht
    simpa using this
  have := List.all_eq_true.1 h t hm
  simpa using this
/-- A world with some blocks' cells laid anew. -/
def layCells (w : World) (b : Nat) (cs : Array Value) : World :=
  { w with heap := w.heap.modify b fun
      | .cells _ t frozen => .cells cs t frozen
      | o => o }
theorem own : ownKnob Tryd.prog.godebug = none := by kernel_rfl
theorem laidOutP : laidOutB Tryd.prog = true := by kernel_rfl
def cellsFirst : Array Value := (Go.Pinned.utf8FirstZ.map fun (n : Nat) => Value.int .u8 (n : Int)).toArray
def cellsRanges : Array Value := ([128, 191, 160, 191, 128, 159, 144, 191, 128, 143, 0, 0, 0, 0, 0, 0, 0, 0, 0, 0, 0, 0, 0, 0, 0, 0, 0, 0, 0, 0, 0, 0].map fun (n : Int) => Value.int .u8 n).toArray
/-- A world in which the two tables of unicode/utf8 are laid. -/
noncomputable def laidUtf8 (os : Os) : World :=
  layCells (layCells (World.holding Tryd.prog os ⟨#[], #[], []⟩) 1 cellsFirst) 2 cellsRanges
end Go.Proofs.YtldgpcmnmegioaaDoor
namespace Go.Proofs.YtldgpcmnmegioaaDoor
open Go.RowKit
/-- 'out = append(out, u)', out nil or the call's own. -/
theorem append_one {P : Program} {w : World} {ops : Array Oper} {rest : List Oper} {o : Oper} {a : Act} {Q : Exit → Act → World → Prop} (hgd : o.guard = none) (s x : Operand) (T : TypeId)
    (ho : o.op = .call { callee := .builtin .append, args := #[s, x], argTypes := #[T, T] })
    (E : TypeId) (z : Value) (bytes : Nat) (hT : P.underlying T = some (.slice E)) (hi : (P.info? E).map (fun i => (i.zero, i.size, i.bytes)) = some (some z, 1, bytes)) (hz1 : z.cells.size = 1)
    (base : Nat) (ad : Option Addr) (n cap : Nat) (xs : List Value) (hs : a.eval s = .slice ad n cap) (hown : w.ownsRow base E 1 (.slice ad n cap) n xs)
    (u : Value) (hu : u.oneCell' = true) (hx : a.eval x = .slice (some ⟨w.heap.size, 0, none⟩) 1 1)
    (h63 : n + 1 ≤ 1099511627776) (hbytes : bytes ≤ 128) (hbase : base ≤ w.heap.size)
    (h : ∀ g cap' w', w'.ownsRow base E 1 (.slice (some ⟨g, 0, none⟩) (n + 1) cap') (n + 1) (xs ++ [u]) → n + 1 ≤ cap' → Below base w w' → (w.alloc (.cells #[u] E)).grownBy w' (Value.slice ad n cap).ownBlock →
      wpList P ops Q rest (a.put o.dst (.slice (some ⟨g, 0, none⟩) (n + 1) cap')) w') :
    wpList P ops Q (o :: rest) a (w.alloc (.cells #[u] E)) := by
  obtain ⟨i, hi0, hz, hsz, hby⟩ := info_parts hi
  refine wpList_append_own _ hgd s x T ho base E i z 1 bytes hT hi0 hz hsz hby hz1 (by decide) _ n xs hs (hown.alloc _) ⟨w.heap.size, 0, none⟩ 1 1 [u] hx rfl ?_ ?_ ?_ ?_ ?_ ?_
  · intro j v hj
    match j, hj with
    | 0, hj => simp at hj; subst hj; simp [Addr.add]
  · intro v hv; simp at hv; subst hv; exact hu
  · unfold maxLen; omega
  · have : (n + 1) * bytes ≤ 1099511627776 * 128 := Nat.mul_le_mul h63 hbytes
    omega
  · simp; omega
  · intro v' w' hown' hg hnil
    rcases hown'.2 with ⟨h1, h2⟩ | ⟨g, cap', cur, rfl, hg1, hg2, hg3, _⟩
    · omega
    · refine h g cap' w' hown' hg3 ?_ hg
      exact ((Below.refl _ _).alloc hbase _).grown hg (by simp; omega) (fun k hk => ((hown.alloc (.cells #[u] E)).lt k hk).1)

/-- Texts that the call has gathered so far. -/
def OwnS (w : World) (base : Nat) (a : Option Addr) (cap : Nat) (D : List (List UInt8)) : Prop := w.ownsRow base 9 1 (.slice a D.length cap) D.length (D.map fun p => .string (bs p))
theorem OwnS.strs {w : World} {base : Nat} {a : Option Addr} {cap : Nat} {D : List (List UInt8)} (h : OwnS w base a cap D) : Strs w a D ∧ D.length ≤ cap := by
  rcases h.2 with ⟨h1, h2⟩ | ⟨g, c, cur, h1, _, hg, hn, _⟩
  · have : D = [] := List.eq_nil_of_length_eq_zero h2
    subst this; exact ⟨Strs.nil _ _, Nat.zero_le _⟩
  · simp only [Value.slice.injEq] at h1
    obtain ⟨rfl, _, rfl⟩ := h1
    refine ⟨Or.inr ⟨g, 0, rfl, (Array.getElem?_eq_some_iff.1 hg).1, fun i hi => ?_⟩, hn⟩
    rw [Nat.zero_add, World.ownsRow.cellAt h i (by omega)]
    simp [hi]
theorem OwnS.nil (w : World) (base : Nat) : OwnS w base none 0 [] := World.ownsRow_nil _ _ _ _
theorem OwnS.ext {w w' : World} {base : Nat} {a : Option Addr} {cap : Nat} {D : List (List UInt8)} (h : OwnS w base a cap D) (k : Ext w w') : OwnS w' base a cap D := by
  refine ⟨h.1, ?_⟩
  rcases h.2 with h1 | ⟨g, c, cur, h1, hb, hg, r⟩
  · exact Or.inl h1
  · exact Or.inr ⟨g, c, cur, h1, hb, k.heap hg, r⟩
theorem info_string : (Tryd.prog.info? 9).map (fun i => (i.zero, i.size, i.bytes)) = some (some (.string ⟨#[]⟩), 1, 16) := by kernel_rfl
/-- 'out = append(out, text)'. -/
theorem append_text {w : World} {ops : Array Oper} {rest : List Oper} {o : Oper} {a : Act} {Q : Exit → Act → World → Prop} (hgd : o.guard = none) (s x : Operand)
    (ho : o.op = .call { callee := .builtin .append, args := #[s, x], argTypes := #[46, 46] })
    (base : Nat) (ad : Option Addr) (cap : Nat) (D : List (List UInt8)) (p : List UInt8) (hs : a.eval s = .slice ad D.length cap) (hown : OwnS w base ad cap D)
    (hx : a.eval x = .slice (some ⟨w.heap.size, 0, none⟩) 1 1)
    (h63 : D.length + 1 ≤ 1099511627776) (hbase : base ≤ w.heap.size)
    (h : ∀ g cap' w', OwnS w' base (some ⟨g, 0, none⟩) cap' (D ++ [p]) → Below base w w' →
      wpList Tryd.prog ops Q rest (a.put o.dst (.slice (some ⟨g, 0, none⟩) (D.length + 1) cap')) w') :
    wpList Tryd.prog ops Q (o :: rest) a (w.alloc (.cells #[.string (bs p)] 9)) := by
  refine append_one hgd s x _ ho 9 (.string ⟨#[]⟩) 16 Tryd.underlying46 info_string rfl base ad D.length cap _ hs hown (.string (bs p)) rfl hx h63 (by decide) hbase ?_
  intro g cap' w' hown' hcap hb _
  refine h g cap' w' ?_ hb
  unfold OwnS
  simp only [List.length_append, List.length_cons, List.length_nil, List.map_append, List.map_cons, List.map_nil]
  exact hown'
end Go.Proofs.YtldgpcmnmegioaaDoor
namespace Go.Proofs.YtldgpcmnmegioaaDoor
/-- What a reader has left, and whether something was bad. -/
abbrev RSt := List UInt8 × Bool
def byteAt (l : List UInt8) (i : Nat) : Nat := (l.getD i 0).toNat
def le32 (l : List UInt8) : Nat := byteAt l 0 + 256 * byteAt l 1 + 65536 * byteAt l 2 + 16777216 * byteAt l 3
def num4 (n : Nat) : List UInt8 := [UInt8.ofNat n, UInt8.ofNat (n / 256), UInt8.ofNat (n / 65536), UInt8.ofNat (n / 16777216)]
theorem num4_len (n : Nat) : (num4 n).length = 4 := rfl
theorem le32_lt (l : List UInt8) : le32 l < 4294967296 := by
  unfold le32 byteAt
  have h0 := (l.getD 0 0).toNat_lt
  have h1 := (l.getD 1 0).toNat_lt
  have h2 := (l.getD 2 0).toNat_lt
  have h3 := (l.getD 3 0).toNat_lt
  omega
theorem u8_ofNat_eq {n : Nat} {b : UInt8} (h : n % 256 = b.toNat) : UInt8.ofNat n = b := by
  apply UInt8.toNat_inj.1
  rw [UInt8.toNat_ofNat']
  exact h
theorem num4_le32 {l : List UInt8} (h : 4 ≤ l.length) : num4 (le32 l) ++ l.drop 4 = l := by
  match l, h with
  | a :: b :: c :: d :: r, _ =>
    have ha := a.toNat_lt
    have hb := b.toNat_lt
    have hc := c.toNat_lt
    have hd := d.toNat_lt
    have e : le32 (a :: b :: c :: d :: r) = a.toNat + 256 * b.toNat + 65536 * c.toNat + 16777216 * d.toNat := rfl
    have e0 : UInt8.ofNat (le32 (a :: b :: c :: d :: r)) = a := u8_ofNat_eq (by rw [e]; omega)
    have e1 : UInt8.ofNat (le32 (a :: b :: c :: d :: r) / 256) = b := u8_ofNat_eq (by rw [e]; omega)
    have e2 : UInt8.ofNat (le32 (a :: b :: c :: d :: r) / 65536) = c := u8_ofNat_eq (by rw [e]; omega)
    have e3 : UInt8.ofNat (le32 (a :: b :: c :: d :: r) / 16777216) = d := u8_ofNat_eq (by rw [e]; omega)
    unfold num4
    rw [e0, e1, e2, e3]
    rfl
/-- A number up to a bound. -/
def rNum (most : Nat) (s : RSt) : Nat × RSt :=
  if s.1.length < 4 then (0, ([], true)) else
  if most < le32 s.1 then (0, ([], true)) else (le32 s.1, (s.1.drop 4, s.2))
/-- Bytes up to a bound. -/
def rRaw (most : Nat) (s : RSt) : List UInt8 × RSt :=
  if (rNum most s).2.1.length < (rNum most s).1 then ([], ([], true))
  else ((rNum most s).2.1.take (rNum most s).1, ((rNum most s).2.1.drop (rNum most s).1, (rNum most s).2.2))
/-- A list: its own reader, and what is left. -/
def rList (s : RSt) : RSt × RSt := (((rRaw 16777216 s).1, (rRaw 16777216 s).2.2), (rRaw 16777216 s).2)
def raw4 (l : List UInt8) : List UInt8 := num4 l.length ++ l
theorem rNum_good {most : Nat} {s : RSt} {n : Nat} {l : List UInt8} (h : rNum most s = (n, (l, false))) : s.2 = false ∧ s.1 = num4 n ++ l ∧ n ≤ most ∧ n < 4294967296 := by
  unfold rNum at h
  split at h
  · simp at h
  · split at h
    · simp at h
    · simp only [Prod.mk.injEq] at h
      obtain ⟨h1, h2, h3⟩ := h
      subst h1 h2
      exact ⟨h3, (num4_le32 (by omega)).symm, by omega, le32_lt _⟩
theorem rRaw_good {most : Nat} {s : RSt} {p l : List UInt8} (h : rRaw most s = (p, (l, false))) : s.2 = false ∧ s.1 = raw4 p ++ l ∧ p.length ≤ most := by
  unfold rRaw at h
  split at h
  · simp at h
  · rename_i hlt
    simp only [Prod.mk.injEq] at h
    obtain ⟨h1, h2, h3⟩ := h
    have hn : rNum most s = ((rNum most s).1, ((rNum most s).2.1, false)) := by rw [← h3]
    obtain ⟨g1, g2, g3, _⟩ := rNum_good hn
    have hl : p.length = (rNum most s).1 := by rw [← h1, List.length_take]; omega
    refine ⟨g1, ?_, by omega⟩
    rw [g2, raw4, hl, List.append_assoc, ← h1, ← h2, List.take_append_drop]
theorem rList_good {s a b : RSt} (h : rList s = (a, b)) (ha : a.2 = false) : s.2 = false ∧ s.1 = raw4 a.1 ++ b.1 ∧ b.2 = false := by
  obtain ⟨m, e⟩ := a
  simp only at ha
  subst ha
  unfold rList at h
  simp only [Prod.mk.injEq] at h
  obtain ⟨h1, h2⟩ := h
  have hr : rRaw 16777216 s = (m, (b.1, false)) := by rw [← h1.1, ← h2, ← h1.2]
  obtain ⟨g1, g2, _⟩ := rRaw_good hr
  exact ⟨g1, g2, by rw [← h2, h1.2]⟩
theorem rNum_len (most : Nat) (s : RSt) : (rNum most s).2.1.length ≤ s.1.length := by
  unfold rNum; split
  · simp
  · split <;> simp
theorem rNum_less {most : Nat} {s : RSt} (h : 0 < s.1.length) : (rNum most s).2.1.length < s.1.length := by
  unfold rNum; split
  · simpa using h
  · split
    · simpa using h
    · simp; omega
theorem rRaw_len (most : Nat) (s : RSt) : (rRaw most s).2.1.length ≤ s.1.length ∧ (rRaw most s).1.length ≤ s.1.length := by
  have := rNum_len most s
  unfold rRaw; split
  · simp
  · simp; omega
theorem rRaw_less {most : Nat} {s : RSt} (h : 0 < s.1.length) : (rRaw most s).2.1.length < s.1.length := by
  have := rNum_less (most := most) h
  unfold rRaw; split
  · simpa using h
  · simp; omega
theorem rNum_le (most : Nat) (s : RSt) : (rNum most s).1 ≤ most := by
  unfold rNum; split
  · simp
  · split
    · simp
    · simp; omega
/-- Nothing is left, and nothing was bad. -/
def rDone (s : RSt) : Bool := !s.2 && decide (s.1.length = 0)
theorem rDone_of {s : RSt} (h : rDone s = true) : s = ([], false) := by
  obtain ⟨l, b⟩ := s
  unfold rDone at h
  simp only [Bool.and_eq_true, Bool.not_eq_true', decide_eq_true_eq] at h
  obtain ⟨rfl, h⟩ := h
  rw [List.eq_nil_of_length_eq_zero h]
end Go.Proofs.YtldgpcmnmegioaaDoor
namespace Go.Proofs.YtldgpcmnmegioaaDoor
open Go.RowKit
/-- A slice at this address has these bytes. -/
def Bytes (w : World) (a : Option Addr) (l : List UInt8) : Prop :=
  l = [] ∨ ∃ g off, a = some ⟨g, off, none⟩ ∧ g < w.heap.size ∧ ∀ i, i < l.length → w.cell? ⟨g, off + i, none⟩ = some (.int .u8 (byteAt l i : Nat))
theorem Bytes.ext {w w' : World} {a : Option Addr} {l : List UInt8} (h : Bytes w a l) (k : Ext w w') : Bytes w' a l := by
  rcases h with h | ⟨g, off, ha, hg, hc⟩
  · exact Or.inl h
  · exact Or.inr ⟨g, off, ha, Nat.lt_of_lt_of_le hg k.size, fun i hi => k.cell (hc i hi)⟩
theorem Bytes.at {w : World} {a : Option Addr} {l : List UInt8} (h : Bytes w a l) (hL : l ≠ []) :
    ∃ g off, a = some ⟨g, off, none⟩ ∧ g < w.heap.size ∧ ∀ i, i < l.length → w.cell? ⟨g, off + i, none⟩ = some (.int .u8 (byteAt l i : Nat)) :=
  h.resolve_left hL
/-- But for one block all that was there is as it was. -/
structure But (R : Nat) (w w' : World) : Prop where
  os : w'.os = w.os
  tape : w'.tape = w.tape
  output : w'.output = w.output
  size : w.heap.size ≤ w'.heap.size
  block : ∀ k, k < w.heap.size → k ≠ R → w'.heap[k]? = w.heap[k]?
theorem But.refl (R : Nat) (w : World) : But R w w := ⟨rfl, rfl, rfl, Nat.le_refl _, fun _ _ _ => rfl⟩
theorem But.trans {R : Nat} {a b c : World} (h : But R a b) (k : But R b c) : But R a c :=
  ⟨k.os.trans h.os, k.tape.trans h.tape, k.output.trans h.output, Nat.le_trans h.size k.size, fun i hi hn => (k.block i (Nat.lt_of_lt_of_le hi h.size) hn).trans (h.block i hi hn)⟩
theorem But.of_ext {R : Nat} {a b : World} (h : Ext a b) : But R a b := ⟨h.os, h.tape, h.output, h.size, fun k hk _ => h.block k hk⟩
theorem But.drewN {R : Nat} {a b : World} (h : But R a b) (n : Nat) : But R a (b.drewN n) := ⟨h.os, h.tape, h.output, h.size, h.block⟩
theorem But.alloc {R : Nat} {a b : World} (h : But R a b) (o : Obj) : But R a (b.alloc o) := h.trans (But.of_ext (Ext.alloc _ _))
theorem But.setCell {R : Nat} {a b : World} (h : But R a b) (i : Nat) (v : Value) : But R a (b.setCell ⟨R, i, none⟩ v) :=
  h.trans ⟨rfl, rfl, rfl, by simp [World.setCell], fun k _ hk => Below.heap_setCell _ _ _ _ hk⟩
/-- From before the block was made. -/
theorem But.ext {R : Nat} {w a b : World} (h : Ext w a) (k : But R a b) (hR : w.heap.size ≤ R) : Ext w b :=
  ⟨k.os.trans h.os, k.tape.trans h.tape, k.output.trans h.output, Nat.le_trans h.size k.size, fun i hi => (k.block i (Nat.lt_of_lt_of_le hi h.size) (by omega)).trans (h.block i hi)⟩
theorem But.cell {R : Nat} {w w' : World} (k : But R w w') {g o : Nat} {v : Value} (hg : g ≠ R) (hv : w.cell? ⟨g, o, none⟩ = some v) : w'.cell? ⟨g, o, none⟩ = some v := by
  have hlt : g < w.heap.size := by
    rcases Nat.lt_or_ge g w.heap.size with hl | hl
    · exact hl
    · have e : w.heap[g]? = none := Array.getElem?_eq_none hl
      simp [World.cell?, e] at hv
  rw [World.cell?_of_block (w := w) (w' := w') (a := ⟨g, o, none⟩) (k.block g hlt hg)]; exact hv
/-- The reader's block with another row. -/
theorem setCell_row {w : World} {R i : Nat} {cs : Array Value} {t : TypeId} {fr : Nat × Nat} (hg : w.heap[R]? = some (.cells cs t fr)) (v : Value) :
    (w.setCell ⟨R, i, none⟩ v).heap[R]? = some (.cells (cs.setIfInBounds i v) t fr) := by
  simp only [World.setCell, Array.getElem?_modify, hg]
  simp
/-- w' is w in all blocks of a kind. -/
structure Keep (S : Nat → Prop) (w w' : World) : Prop where
  os : w'.os = w.os
  tape : w'.tape = w.tape
  output : w'.output = w.output
  size : w.heap.size ≤ w'.heap.size
  block : ∀ k, k < w.heap.size → S k → w'.heap[k]? = w.heap[k]?
theorem Keep.refl (S : Nat → Prop) (w : World) : Keep S w w := ⟨rfl, rfl, rfl, Nat.le_refl _, fun _ _ _ => rfl⟩
theorem Keep.trans {S : Nat → Prop} {a b c : World} (h : Keep S a b) (k : Keep S b c) : Keep S a c :=
  ⟨k.os.trans h.os, k.tape.trans h.tape, k.output.trans h.output, Nat.le_trans h.size k.size, fun i hi hn => (k.block i (Nat.lt_of_lt_of_le hi h.size) hn).trans (h.block i hi hn)⟩
theorem Keep.mono {S T : Nat → Prop} {a b : World} (h : Keep S a b) (hT : ∀ k, k < a.heap.size → T k → S k) : Keep T a b := ⟨h.os, h.tape, h.output, h.size, fun k hk hS => h.block k hk (hT k hk hS)⟩
theorem Keep.of_ext {S : Nat → Prop} {a b : World} (h : Ext a b) : Keep S a b := ⟨h.os, h.tape, h.output, h.size, fun k hk _ => h.block k hk⟩
theorem Keep.of_below {B : Nat} {a b : World} (h : Below B a b) : Keep (· < B) a b := ⟨h.os, h.tape, h.output, h.size, fun k _ hS => h.block k hS⟩
theorem Keep.of_but {R : Nat} {a b : World} (h : But R a b) : Keep (· ≠ R) a b := ⟨h.os, h.tape, h.output, h.size, fun k hk hS => h.block k hk hS⟩
theorem Keep.of_grown {row : Option Nat} {a b : World} (h : a.grownBy b row) : Keep (fun k => some k ≠ row) a b := ⟨h.os, h.tape, h.output, h.size, fun k hk hS => h.block k hk hS⟩
theorem Keep.ext {a b : World} (h : Keep (fun _ => True) a b) : Ext a b := ⟨h.os, h.tape, h.output, h.size, fun k hk => h.block k hk trivial⟩
theorem Keep.drewN {S : Nat → Prop} {a b : World} (h : Keep S a b) (n : Nat) : Keep S a (b.drewN n) := ⟨h.os, h.tape, h.output, h.size, h.block⟩
theorem Keep.heap {S : Nat → Prop} {w w' : World} (h : Keep S w w') {g : Nat} {o : Obj} (hS : S g) (hg : w.heap[g]? = some o) : w'.heap[g]? = some o :=
  (h.block g (Array.getElem?_eq_some_iff.1 hg).1 hS).trans hg
theorem lt_of_cell {w : World} {g o : Nat} {v : Value} (hv : w.cell? ⟨g, o, none⟩ = some v) : g < w.heap.size := by
  rcases Nat.lt_or_ge g w.heap.size with hl | hl
  · exact hl
  · have e : w.heap[g]? = none := Array.getElem?_eq_none hl
    simp [World.cell?, e] at hv
theorem Keep.cell {S : Nat → Prop} {w w' : World} (k : Keep S w w') {g o : Nat} {v : Value} (hg : S g) (hv : w.cell? ⟨g, o, none⟩ = some v) : w'.cell? ⟨g, o, none⟩ = some v := by
  rw [World.cell?_of_block (w := w) (w' := w') (a := ⟨g, o, none⟩) (k.block g (lt_of_cell hv) hg)]; exact hv
/-- A slice at this address has these cells, in a block of a kind. -/
def Row (S : Nat → Prop) (w : World) (a : Option Addr) (cs : List Value) : Prop :=
  cs = [] ∨ ∃ g off, a = some ⟨g, off, none⟩ ∧ g < w.heap.size ∧ S g ∧ ∀ i, i < cs.length → w.cell? ⟨g, off + i, none⟩ = cs[i]?
theorem Row.keep {S : Nat → Prop} {w w' : World} {a : Option Addr} {cs : List Value} (h : Row S w a cs) (k : Keep S w w') : Row S w' a cs := by
  rcases h with h | ⟨g, off, ha, hg, hS, hc⟩
  · exact Or.inl h
  · refine Or.inr ⟨g, off, ha, Nat.lt_of_lt_of_le hg k.size, hS, fun i hi => ?_⟩
    have := hc i hi
    rw [List.getElem?_eq_getElem hi] at this ⊢
    exact k.cell hS this
theorem Row.mono {S T : Nat → Prop} {w : World} {a : Option Addr} {cs : List Value} (h : Row S w a cs) (hT : ∀ k, k < w.heap.size → S k → T k) : Row T w a cs := by
  rcases h with h | ⟨g, off, ha, hg, hS, hc⟩
  · exact Or.inl h
  · exact Or.inr ⟨g, off, ha, hg, hT g hg hS, hc⟩
theorem Row.at {S : Nat → Prop} {w : World} {a : Option Addr} {cs : List Value} (h : Row S w a cs) (hL : cs ≠ []) :
    ∃ g off, a = some ⟨g, off, none⟩ ∧ g < w.heap.size ∧ S g ∧ ∀ i, i < cs.length → w.cell? ⟨g, off + i, none⟩ = cs[i]? := h.resolve_left hL
/-- Bytes in a block of a kind. -/
def byteV (l : List UInt8) : List Value := l.map fun b => .int .u8 (b.toNat : Int)
def BytesS (S : Nat → Prop) (w : World) (a : Option Addr) (l : List UInt8) : Prop := Row S w a (byteV l)
theorem byteV_at {l : List UInt8} {i : Nat} (hi : i < l.length) : (byteV l)[i]? = some (.int .u8 (byteAt l i : Nat)) := by
  simp [byteV, byteAt, hi]
theorem BytesS.bytes {S : Nat → Prop} {w : World} {a : Option Addr} {l : List UInt8} (h : BytesS S w a l) : Bytes w a l := by
  rcases h with h | ⟨g, off, ha, hg, hS, hc⟩
  · left; simpa [byteV] using h
  · refine Or.inr ⟨g, off, ha, hg, fun i hi => ?_⟩
    rw [hc i (by simpa [byteV] using hi), byteV_at hi]
theorem Bytes.row {w : World} {a : Option Addr} {l : List UInt8} (h : Bytes w a l) : BytesS (fun _ => True) w a l := by
  rcases h with h | ⟨g, off, ha, hg, hc⟩
  · left; simp [byteV, h]
  · refine Or.inr ⟨g, off, ha, hg, trivial, fun i hi => ?_⟩
    have hi' : i < l.length := by simpa [byteV] using hi
    rw [hc i hi', byteV_at hi']
theorem cell_new (w : World) (cs : Array Value) (t : TypeId) (i : Nat) (v : Value) (h : cs[i]? = some v) : (w.alloc (.cells cs t)).cell? ⟨w.heap.size, i, none⟩ = some v := by
  rw [cell_of_row _ _ _ _ _ _ (heap_alloc_new w _)]; exact h
theorem ext_below {a b c d : World} {B : Nat} (hB : a.heap.size = B) (h : Ext a b) (h2 : Ext b c) (h3 : Below B c d) : Ext a d := by
  subst hB
  exact Below.trans (h.trans h2) h3
theorem blk_cell {w : World} {R : Nat} {cs : Array Value} {t : TypeId} (hg : w.heap[R]? = some (.cells cs t (0, 0))) (i : Nat) (v : Value) (hi : cs[i]? = some v) : w.cell? ⟨R, i, none⟩ = some v := by
  rw [cell_of_row _ _ _ _ _ _ hg]; exact hi
theorem blk_free {w : World} {R : Nat} {cs : Array Value} {t : TypeId} (hg : w.heap[R]? = some (.cells cs t (0, 0))) (i : Nat) : w.frozen? ⟨R, i, none⟩ = false := by
  unfold World.frozen?; simp only [hg]; simp
theorem Keep.setCell {S : Nat → Prop} {a b : World} (h : Keep S a b) {R : Nat} (hR : ∀ k, S k → k ≠ R) (i : Nat) (v : Value) : Keep S a (b.setCell ⟨R, i, none⟩ v) :=
  h.trans ⟨rfl, rfl, rfl, by simp [World.setCell], fun k _ hS => Below.heap_setCell _ _ _ _ (hR k hS)⟩
theorem Keep.ext_trans {S : Nat → Prop} {a b c : World} (h : Keep S a b) (k : Ext b c) : Keep S a c := h.trans (Keep.of_ext k)
theorem ownsRow_keep {S : Nat → Prop} {w w' : World} {base e size n : Nat} {v : Value} {xs : List Value} (h : w.ownsRow base e size v n xs) (k : Keep S w w') (hS : ∀ g cur, v.ownBlock = some g → base ≤ g → w.heap[g]? = some (.cells cur e (0, 0)) → S g) : w'.ownsRow base e size v n xs := by
  refine ⟨h.1, ?_⟩
  rcases h.2 with h1 | ⟨g, c, cur, h1, hb, hg, r⟩
  · exact Or.inl h1
  · exact Or.inr ⟨g, c, cur, h1, hb, k.heap (hS g cur (by rw [h1]; rfl) hb hg) hg, r⟩
theorem Keep.ext_lt {a b : World} (h : Keep (· < a.heap.size) a b) : Ext a b := ⟨h.os, h.tape, h.output, h.size, fun k hk => h.block k hk hk⟩
theorem Keep.of_alloc {S : Nat → Prop} {w w' : World} {o : Obj} (h : Keep S (w.alloc o) w') : Keep S w w' := (Keep.of_ext (Ext.alloc w o)).trans h
end Go.Proofs.YtldgpcmnmegioaaDoor
