/- Several texts of mine, one behind the other: Base, Env, Frame. -/
import Derived.WalkKit
import Derived.Lib.Split
import Derived.Lib.SplitLaws
import Derived.Lib.Strings
import Derived.Lib.Hide
import Derived.Test.YtldgpcmnmegioaaDoorProg
import Derived.ChangeAgain
import Derived.BigQuiet
import Derived.Deep.QuietTactic
import Derived.Handy
import Derived.Test.YtldgpcmnmegioaaDoorCards
import Derived.Test.YtldgpcmnmegioaaDoorTie
import Derived.ProofKit
import Derived.OpenShut
import Derived.Deep.DeepHandedRow
import Derived.Lib.LaidTab
import Derived.SliceStrings
namespace Go.Proofs.YtldgpcmnmegioaaDoor
open Go.RowKit

/-- A text of bytes. -/
def bs (l : List UInt8) : ByteArray := ⟨l.toArray⟩
theorem bs_data (l : List UInt8) : (bs l).data.toList = l := by simp [bs]
theorem bs_of (s : ByteArray) : bs s.data.toList = s := by cases s; simp [bs]
theorem bs_size (l : List UInt8) : (bs l).size = l.length := by simp [bs, ByteArray.size]
theorem bs_toList (l : List UInt8) : (bs l).toList = l := by rw [ByteArray.toList_eq, bs_data]
theorem bs_inj {a b : List UInt8} : bs a = bs b ↔ a = b := ⟨fun h => by rw [← bs_data a, h, bs_data], fun h => by rw [h]⟩
theorem size_len (s : ByteArray) : s.data.toList.length = s.size := by simp
theorem eq_bs {s : ByteArray} {l : List UInt8} (h : s.data.toList = l) : s = bs l := by rw [← h, bs_of]
theorem extract_bs (s : ByteArray) (a b : Nat) : s.extract a b = bs ((s.data.toList.drop a).take (b - a)) := by
  apply eq_bs; rw [← ByteArray.toList_eq, Lib.extract_toList]

theorem bs_append (a b : List UInt8) : bs a ++ bs b = bs (a ++ b) := by
  apply eq_bs
  simp [bs]
theorem bs_beq_ne {a b : List UInt8} (h : a ≠ b) : ((bs a).toList == (bs b).toList) = false := by rw [bs_toList, bs_toList]; simpa using h
theorem bs_bne_ne {a b : List UInt8} (h : a ≠ b) : ((bs a).toList != (bs b).toList) = true := by rw [bs_toList, bs_toList]; simpa using h
theorem bs_beq_eq {a b : List UInt8} (h : a = b) : ((bs a).toList == (bs b).toList) = true := by rw [h]; simp
theorem bs_bne_eq {a b : List UInt8} (h : a = b) : ((bs a).toList != (bs b).toList) = false := by rw [h]; simp
theorem ret_bool {a b : Bool} (h : a = b) : Ending.returned (.bool a) = .returned (.bool b) := by rw [h]
theorem ret_int {k : IntKind} {a b : Int} (h : a = b) : Ending.returned (.int k a) = .returned (.int k b) := by rw [h]
theorem ret_str {a b : ByteArray} (h : a = b) : Ending.returned (.string a) = .returned (.string b) := by rw [h]

/-- What stands between bytes c. -/
def splitOn (c : UInt8) : List UInt8 → List (List UInt8)
  | [] => [[]]
  | x :: r => if x = c then [] :: splitOn c r else
    match splitOn c r with
    | [] => [[x]]
    | p :: q => (x :: p) :: q
theorem splitOn_ne (c : UInt8) (l : List UInt8) : splitOn c l ≠ [] := by
  cases l with
  | nil => simp [splitOn]
  | cons x r => unfold splitOn; split <;> try simp
                split <;> simp
theorem splitOn_cons_eq (c : UInt8) (r : List UInt8) : splitOn c (c :: r) = [] :: splitOn c r := by simp [splitOn]
theorem splitOn_append (c : UInt8) (a r : List UInt8) (ha : c ∉ a) : splitOn c (a ++ c :: r) = a :: splitOn c r := by
  induction a with
  | nil => simp [splitOn]
  | cons x a ih =>
    have h1 : x ≠ c := fun e => ha (by simp [e])
    have h2 : c ∉ a := fun e => ha (by simp [e])
    rw [List.cons_append, splitOn, if_neg h1, ih h2]
theorem splitOn_none (c : UInt8) (a : List UInt8) (ha : c ∉ a) : splitOn c a = [a] := by
  induction a with
  | nil => rfl
  | cons x a ih =>
    have h1 : x ≠ c := fun e => ha (by simp [e])
    have h2 : c ∉ a := fun e => ha (by simp [e])
    rw [splitOn, if_neg h1, ih h2]

/-- No piece has the byte; joined again by it they are the text. -/
theorem splitOn_mem (c : UInt8) (l : List UInt8) : ∀ p ∈ splitOn c l, c ∉ p := by
  induction l with
  | nil => intro p hp; simp [splitOn] at hp; subst hp; simp
  | cons x r ih =>
    intro p hp
    unfold splitOn at hp
    split at hp
    · rcases List.mem_cons.1 hp with rfl | hp
      · simp
      · exact ih p hp
    · rename_i hx
      split at hp
      · simp at hp; subst hp; simp; exact fun e => hx e.symm
      · rename_i q qs hq
        rcases List.mem_cons.1 hp with rfl | hp
        · intro e
          rcases List.mem_cons.1 e with e | e
          · exact hx e.symm
          · exact ih q (by rw [hq]; simp) e
        · exact ih p (by rw [hq]; simp [hp])

/-- Pieces with the byte ahead of each. -/
def glue (c : UInt8) (L : List (List UInt8)) : List UInt8 := (L.map (c :: ·)).flatten
theorem glue_cons (c : UInt8) (p : List UInt8) (L) : glue c (p :: L) = c :: p ++ glue c L := by simp [glue]
theorem glue_append (c : UInt8) (A B) : glue c (A ++ B) = glue c A ++ glue c B := by simp [glue]
theorem glue_splitOn (c : UInt8) (l : List UInt8) : glue c (splitOn c l) = c :: l := by
  induction l with
  | nil => rfl
  | cons x r ih =>
    unfold splitOn
    split
    · rename_i h; subst h; rw [glue_cons, ih]; rfl
    · split
      · rename_i h; exact absurd h (splitOn_ne c r)
      · rename_i p q h
        rw [h, glue_cons] at ih
        rw [glue_cons]
        simp at ih ⊢
        exact ih
theorem splitOn_glue (c : UInt8) (p : List UInt8) (L : List (List UInt8)) (hp : c ∉ p) (h : ∀ q ∈ L, c ∉ q) : splitOn c (p ++ glue c L) = p :: L := by
  induction L generalizing p with
  | nil => simp [glue, splitOn_none c p hp]
  | cons q L ih =>
    rw [glue_cons, List.cons_append, splitOn_append c p _ hp, ih q (h q (by simp)) (fun r hr => h r (by simp [hr]))]

theorem splitOn_length_pos (c : UInt8) (l : List UInt8) : 1 ≤ (splitOn c l).length := by
  have := splitOn_ne c l
  cases h : splitOn c l with
  | nil => exact absurd h this
  | cons => simp

theorem index_cons_ne (b c : UInt8) (l : List UInt8) (h : b ≠ c) : Lib.index (b :: l) [c] = if Lib.index l [c] == -1 then -1 else Lib.index l [c] + 1 := by
  have hp : ([c] : List UInt8).isPrefixOf (b :: l) = false := by simp [List.isPrefixOf, Ne.symm h]
  rw [Lib.index, hp]; simp
theorem index_cons_eq (c : UInt8) (l : List UInt8) : Lib.index (c :: l) [c] = 0 := by rw [Lib.index]; simp [List.isPrefixOf]
theorem index_count (c : UInt8) (l : List UInt8) : Lib.index l [c] = -1 ↔ Lib.count l [c] = 0 := by
  constructor
  · exact fun h => Lib.count_miss h
  · intro h
    have hge := Lib.index_ge l [c]
    by_cases hm : Lib.index l [c] = -1
    · exact hm
    · obtain ⟨j, hj⟩ : ∃ j : Nat, Lib.index l [c] = j := ⟨(Lib.index l [c]).toNat, by omega⟩
      rw [Lib.count_hit (by simp) hj] at h
      omega
theorem splitK_on (c : UInt8) : ∀ (l : List UInt8), Lib.splitK [c] 0 (Lib.count l [c]) l = splitOn c l
  | [] => by rw [Lib.count_one]; rfl
  | b :: l => by
    have ih := splitK_on c l
    by_cases h : b = c
    · subst h
      rw [Lib.count_cons_eq, Nat.add_comm, Lib.splitK, index_cons_eq, splitOn_cons_eq]
      simp [ih]
    · rw [Lib.count_cons_ne b c l h, splitOn, if_neg h]
      cases hk : Lib.count l [c] with
      | zero =>
        rw [hk] at ih
        rw [← ih]; rfl
      | succ k =>
        rw [hk] at ih
        have hm : Lib.index l [c] ≠ -1 := fun e => by have := (index_count c l).1 e; omega
        have hge := Lib.index_ge l [c]
        obtain ⟨j, hj⟩ : ∃ j : Nat, Lib.index l [c] = j := ⟨(Lib.index l [c]).toNat, by omega⟩
        have hix : Lib.index (b :: l) [c] = ((j + 1 : Nat) : Int) := by rw [index_cons_ne b c l h, if_neg (fun e => hm (beq_iff_eq.1 e)), hj]; omega
        rw [← ih, Lib.splitK, Lib.splitK, hix, hj]
        have e1 : (((j + 1 : Nat) : Int) == -1) = false := by rw [beq_eq_false_iff_ne]; omega
        have e2 : (((j : Nat) : Int) == -1) = false := by rw [beq_eq_false_iff_ne]; omega
        rw [e1, e2]
        simp
/-- The pieces that strings.Split gives, at a separator of one byte. -/
theorem splitB_on (c : UInt8) (s : ByteArray) : Lib.splitB (bs [c]) 0 (Lib.countB s (bs [c])) s = (splitOn c s.data.toList).map bs := by
  have h := Lib.splitB_data (bs [c]) 0 (Lib.countB s (bs [c])) s
  have hc : Lib.countB s (bs [c]) = Lib.count s.data.toList [c] := by unfold Lib.countB; rw [bs_data]
  rw [hc] at h ⊢
  rw [bs_data, splitK_on] at h
  rw [← h, List.map_map]
  conv => lhs; rw [← List.map_id (Lib.splitB (bs [c]) 0 (Lib.count s.data.toList [c]) s)]
  apply List.map_congr_left
  intro x _
  simp [bs_of]
theorem countB_on (c : UInt8) (s : ByteArray) : Lib.countB s (bs [c]) + 1 = (splitOn c s.data.toList).length := by
  have h := Lib.splitB_all (bs [c]) (by rw [bs_size]; simp) 0 (Lib.countB s (bs [c])) s rfl
  rw [splitB_on, List.length_map] at h
  exact h.symm
end Go.Proofs.YtldgpcmnmegioaaDoor
namespace Go.Proofs.YtldgpcmnmegioaaDoor
open Go.RowKit

/-- Behind it nothing of what was there has turned. -/
def Ext (w w' : World) : Prop := Below w.heap.size w w'
theorem Ext.refl (w : World) : Ext w w := Below.refl _ _
theorem Ext.trans {a b c : World} (h : Ext a b) (k : Ext b c) : Ext a c := Below.trans h (Below.mono k h.size)
theorem Ext.alloc (w : World) (o : Obj) : Ext w (w.alloc o) := (Below.refl _ _).alloc (Nat.le_refl _) _
theorem Ext.drew {a b : World} (h : Ext a b) : Ext a b.drew := Below.drew h
theorem Ext.drewN {a b : World} (h : Ext a b) (n : Nat) : Ext a (b.drewN n) := ⟨h.os, h.tape, h.output, h.size, h.block⟩
theorem Ext.of_below {w w' : World} {B : Nat} (h : Below B w w') (hB : w.heap.size ≤ B) : Ext w w' := h.mono hB
theorem Ext.size {w w' : World} (h : Ext w w') : w.heap.size ≤ w'.heap.size := Below.size h
theorem Ext.cell {w w' : World} (h : Ext w w') {p : Addr} {v : Value} (hc : w.cell? p = some v) : w'.cell? p = some v := by
  have hp : p.block < w.heap.size := by
    rcases Nat.lt_or_ge p.block w.heap.size with hl | hl
    · exact hl
    · have e : w.heap[p.block]? = none := Array.getElem?_eq_none hl
      simp [World.cell?, e] at hc
  rw [Below.cell h hp]; exact hc
theorem Ext.heap {w w' : World} (h : Ext w w') {b : Nat} {o : Obj} (hc : w.heap[b]? = some o) : w'.heap[b]? = some o := by
  have hp : b < w.heap.size := by
    rcases Nat.lt_or_ge b w.heap.size with hl | hl
    · exact hl
    · rw [Array.getElem?_eq_none hl] at hc; cases hc
  rw [h.block b hp]; exact hc

structure Env (w : World) : Prop where
  shaped : w.ShapedOpen Tryd.prog
theorem Env.ext {w w' : World} (h : Env w) (k : Ext w w') : Env w' :=
  ⟨h.shaped.keptBut (Below.frame k (fun _ => False)) (fun _ hp => hp.elim)⟩

/-- A slice at this address has these texts. -/
def Strs (w : World) (a : Option Addr) (L : List (List UInt8)) : Prop :=
  L = [] ∨ ∃ g off, a = some ⟨g, off, none⟩ ∧ g < w.heap.size ∧ ∀ i, i < L.length → w.cell? ⟨g, off + i, none⟩ = some (.string (bs (L.getD i [])))
theorem Strs.nil (w : World) (a : Option Addr) : Strs w a [] := Or.inl rfl
theorem Strs.ext {w w' : World} {a : Option Addr} {L : List (List UInt8)} (h : Strs w a L) (k : Ext w w') : Strs w' a L := by
  rcases h with h | ⟨g, off, ha, hg, hc⟩
  · exact Or.inl h
  · exact Or.inr ⟨g, off, ha, Nat.lt_of_lt_of_le hg k.size, fun i hi => k.cell (hc i hi)⟩
theorem Strs.at {w : World} {a : Option Addr} {L : List (List UInt8)} (h : Strs w a L) (hL : L ≠ []) :
    ∃ g off, a = some ⟨g, off, none⟩ ∧ g < w.heap.size ∧ ∀ i, i < L.length → w.cell? ⟨g, off + i, none⟩ = some (.string (bs (L.getD i []))) :=
  h.resolve_left hL
theorem Strs.at0 {w : World} {b : Nat} {L : List (List UInt8)} (h : Strs w (some ⟨b, 0, none⟩) L) :
    ∀ i, i < L.length → w.cell? ⟨b, i, none⟩ = some (.string (bs (L.getD i []))) := by
  intro i hi
  rcases h with h | ⟨g, off, ha, _, hc⟩
  · rw [h] at hi; simp at hi
  · have ha := Option.some.inj ha
    obtain ⟨rfl, rfl⟩ : g = b ∧ off = 0 := by constructor <;> (cases ha; rfl)
    have := hc i hi
    rwa [Nat.zero_add] at this
/-- A new block of texts. -/
theorem Strs.made (w : World) (L : List (List UInt8)) (t : TypeId) : Strs (w.alloc (.cells ((L.map bs).map Value.string).toArray t)) (some ⟨w.heap.size, 0, none⟩) L := by
  refine Or.inr ⟨w.heap.size, 0, rfl, by simp, fun i hi => ?_⟩
  have h : (w.alloc (.cells ((L.map bs).map Value.string).toArray t)).heap[w.heap.size]? = some (.cells ((L.map bs).map Value.string).toArray t (0, 0)) := by
    show (w.heap.push _)[w.heap.size]? = _
    simp
  unfold World.cell?
  simp only [h]
  simp [hi]
end Go.Proofs.YtldgpcmnmegioaaDoor
namespace Go.Proofs.YtldgpcmnmegioaaDoor
open Go.RowKit Go.WideShapes Go.ChangeShapes
section
variable {H : Type} {enc : TypeId × Value → H}
theorem trodAll_ext {P : Program} (hl : laidOutB P = true) {W W' : World} (hb : Ext W W') : ∀ (ts : List TypeId) (vs : List Value) (ds : List (DataW H)) (ps : List MemPlace),
    (ts.all fun t => P.readableRec t && decide (t < P.types.size)) = true →
    DataW.TrodAll enc P W 0 (fun _ => true) true ts vs ds ps → (∀ x ∈ ps, x.block < W.heap.size) →
    DataW.TrodAll enc P W' 0 (fun b => decide (b < W.heap.size)) true ts vs ds ps
  | [], [], [], _, _, h, _ => h
  | t :: ts, v :: vs, d :: ds, ps, hr, h, hlt => by
    obtain ⟨p, q, h1, h2, rfl⟩ := h
    simp only [List.all_cons, Bool.and_eq_true, decide_eq_true_eq] at hr
    exact ⟨p, q, Below.trod hl hr.1.1 hr.1.2 h1 hb (fun x hx => hlt x (List.mem_append_left _ hx)),
      trodAll_ext hl hb ts vs ds q hr.2 h2 (fun x hx => hlt x (List.mem_append_right _ hx)), rfl⟩
  | [], _ :: _, _, _, _, h, _ => h.elim
  | [], [], _ :: _, _, _, h, _ => h.elim
  | _ :: _, [], _, _, _, h, _ => h.elim
  | _ :: _, _ :: _, [], _, _, h, _ => h.elim
theorem law_post {P : Program} {f : Func} {s : ChangeSpec} {tb : TypeId} {W W' : World} {args : Array Value} {ds gs : List (DataW H)} {before : List MemPlace}
    (hl : laidOutB P = true) (hr : (f.params.toList.all fun t => P.readableRec t && decide (t < P.types.size)) = true)
    (hv : s.vars = []) (hres : f.resultTypes = #[tb]) (htb : P.underlying tb = some .bool)
    (hW : DataW.Whole enc P f.params.toList s.vars false W args.toList ds gs before)
    (hfn : s.fn H (ds ++ gs) = { results := [.lit (.bool true)], args := ds }) (hb : Ext W W') :
    s.post enc P f false true false false W args (.bool true) W' := by
  have hW' := hW
  have hlt := hW.lt
  obtain ⟨p, q, hA, hV, rfl, _, _⟩ := hW
  rw [hv] at hV
  have hq : gs = [] ∧ q = [] := by
    cases gs with
    | nil => exact ⟨rfl, hV⟩
    | cons _ _ => exact hV.elim
  obtain ⟨rfl, rfl⟩ := hq
  refine ⟨ds, [], p ++ [], [], p, [], hW', ?_, ?_, ?_, ?_, fun h => by cases h⟩
  · rw [hfn, hres]
    exact trodAll_cons_mk (shut_bool htb true) trodAll_mk0
  · rw [hfn]
    exact trodAll_ext hl hb _ _ _ _ hr hA (fun x hx => hlt x (List.mem_append_left _ hx))
  · rw [hfn, hv]; rfl
  · exact Below.frame hb _
end
theorem cells_string : Tryd.prog.cellsOf 9 = 1 := by kernel_rfl
set_option maxRecDepth 100000 in
/-- A []string that came in. -/
theorem open_texts {H : Type} {enc : TypeId × Value → H} {W : World} {base b0 : Nat} {v : Value} {d : DataW H} {ps : List MemPlace} {held : Bool}
    (hval : Value.okWide Tryd.prog W .any b0 46 v) (hd : DataW.Trod enc Tryd.prog W base (fun _ => true) held 46 v d ps) :
    ∃ (a : Option Addr) (L : List (List UInt8)) (c : Nat), v = .slice a L.length c ∧ L.length ≤ c ∧ Strs W a L := by
  obtain ⟨a0, len, cap, rfl⟩ := okWide_slice Tryd.underlying46 hval
  obtain ⟨fuel, hf⟩ := hd
  rcases open_strings Tryd.underlying46 Tryd.underlying9 cells_string hf with ⟨hcs, hx⟩ | ⟨a, len', cap', ss, hcs, _, hl, hm, hz, hx, hcell, hws⟩
  · simp [Value.cells] at hcs
    obtain ⟨rfl, rfl, rfl⟩ := hcs
    exact ⟨none, [], 0, rfl, Nat.le_refl _, Strs.nil _ _⟩
  · simp [Value.cells] at hcs
    obtain ⟨rfl, rfl, rfl⟩ := hcs
    have hz' : ss.length = cap := by simpa using hz
    have hLl : ((ss.take len).map (·.data.toList)).length = len := by simp; omega
    refine ⟨some a, (ss.take len).map (·.data.toList), cap, by rw [hLl], by rw [hLl]; exact hl, ?_⟩
    by_cases h0 : (ss.take len).map (·.data.toList) = []
    · exact Or.inl h0
    · have hlen : 0 < len := by
        rcases Nat.eq_zero_or_pos len with h | h
        · subst h; simp at h0
        · exact h
      have hc0 := hcell 0 (by omega)
      have e0 : a.add 0 = a := by simp [Addr.add]
      rw [e0] at hc0
      have hspot : a.spot = none := by
        cases hs : a.spot with
        | none => rfl
        | some x =>
          simp only [World.cell?] at hc0
          split at hc0
          · rw [hs] at hc0; simp at hc0
          · cases hc0
      have hblk : a.block < W.heap.size := by
        rcases Nat.lt_or_ge a.block W.heap.size with h | h
        · exact h
        · have e : W.heap[a.block]? = none := Array.getElem?_eq_none h
          simp [World.cell?, e] at hc0
      refine Or.inr ⟨a.block, a.off, by cases a; simp at hspot; subst hspot; rfl, hblk, fun i hi => ?_⟩
      have hi' : i < len := by rw [hLl] at hi; exact hi
      have hc := hcell i (by omega)
      have ea : a.add i = ⟨a.block, a.off + i, none⟩ := by
        cases a; simp at hspot; subst hspot
        unfold Addr.add; split
        · rename_i h; subst h; rfl
        · rfl
      rw [ea] at hc
      rw [hc]
      have hi2 : i < ss.length := by omega
      simp [hi', hi2, bs_of]
theorem stand_ins {P : Program} {ps : Array TypeId} (h : (ps.toList.all fun t => !P.wantsStandIn t) = true) : ∀ (j : Nat) t, ps[j]? = some t → P.wantsStandIn t = false := by
  intro j t ht
  have hm : t ∈ ps.toList := by
    have := Array.mem_of_getElem? ht
    simpa using this
  have := List.all_eq_true.1 h t hm
  simpa using this
/-- A world with some blocks' cells laid anew. -/
def layCells (w : World) (b : Nat) (cs : Array Value) : World :=
  { w with heap := w.heap.modify b fun
      | .cells _ t frozen => .cells cs t frozen
      | o => o }
theorem own : ownKnob Tryd.prog.godebug = none := by kernel_rfl
theorem laidOutP : laidOutB Tryd.prog = true := by kernel_rfl
def cellsFirst : Array Value := (Go.Pinned.utf8FirstZ.map fun (n : Nat) => Value.int .u8 (n : Int)).toArray
def cellsRanges : Array Value := ([128, 191, 160, 191, 128, 159, 144, 191, 128, 143, 0, 0, 0, 0, 0, 0, 0, 0, 0, 0, 0, 0, 0, 0, 0, 0, 0, 0, 0, 0, 0, 0].map fun (n : Int) => Value.int .u8 n).toArray
/-- A world in which the two tables of unicode/utf8 are laid. -/
noncomputable def laidUtf8 (os : Os) : World :=
  layCells (layCells (World.holding Tryd.prog os ⟨#[], #[], []⟩) 1 cellsFirst) 2 cellsRanges
end Go.Proofs.YtldgpcmnmegioaaDoor
