/- Several texts of mine, one behind the other: Base, Env, Frame, NumSpec, Shelf, Own, EnvN, FrameN, RecSpec, Keep, FrameB, Read, ReadW, ReachOf, Maps, MapRange. -/
import Derived.WalkKit
import Derived.Lib.Split
import Derived.Lib.SplitLaws
import Derived.Lib.Strings
import Derived.Lib.Hide
import Derived.Test.YtnclibfhbngkjaaGreatDoorProg
import Derived.ChangeAgain
import Derived.BigQuiet
import Derived.Deep.QuietTactic
import Derived.Handy
import Derived.Test.YtnclibfhbngkjaaGreatDoorCards
import Derived.Test.YtnclibfhbngkjaaGreatDoorTie
import Derived.ProofKit
import Derived.OpenShut
import Derived.Deep.DeepHandedRow
import Derived.Lib.LaidTab
import Derived.SliceStrings
import Derived.Lib.AtoiAll
import Derived.Lib.ItoaNum
import Derived.Shelf.Strconv.Atoi
import Derived.Shelf.Strconv.Itoa0
import Derived.Shelf.Strconv.Itoa1
import Derived.Shelf.LaysM
import Derived.Shelf.Strconv.Itoa2
import Derived.Shelf.Strconv.Itoa3
import Derived.Shelf.Strconv.AtoiErrFast
import Derived.Shelf.Strconv.ParseIntEmpty
import Derived.Shelf.Strconv.AtoiFail
import Derived.Shelf.Strconv.Clone
import Derived.Shelf.Strconv.SyntaxError
import Derived.Shelf.LaysC
import Derived.Shelf.Strconv.ToError
import Derived.Shelf.Strconv.Lower
import Derived.Shelf.Strconv.ParseUint10
import Derived.Shelf.Strconv.ParseUint10Empty
import Derived.Shelf.Strconv.ParseUint10Any
import Derived.Shelf.Strconv.ParseInt10
import Derived.Shelf.Strconv.AtoiLong
import Derived.Shelf.Strconv.AtoiInnerAll
import Derived.Shelf.Strconv.RangeError
import Derived.Shelf.Strconv.ToErrorRange
import Derived.Shelf.Strconv.AtoiAll
import Derived.Shelf.Strconv.ErrVarAll
import Derived.Shelf.Strings.Search1
import Derived.Shelf.Strings.Search2
import Derived.Shelf.Strings.Search3
import Derived.Shelf.Strings.Cut
import Derived.Shelf.Strings.Count
import Derived.Shelf.Strings.Shaped
import Derived.Shelf.Strings.Prefix
import Derived.Shelf.Strings.Split
import Derived.Shelf.Strings.SplitShaped
import Derived.Shelf.Unicode.DecodeSlow
import Derived.Shelf.Slices.Turned
import Derived.Shelf.Slices.CompactS
import Derived.Shelf.Slices.Cells
import Derived.Ground.SlgnProg
import Derived.Shelf.SlicesE.Clone
import Derived.Ground.SlgmProg
import Derived.Shelf.SortM.Plain
import Derived.Shelf.SortM.SortNone
import Derived.Shelf.SlIter.Nil
import Derived.Ground.GgzProg
import Derived.Deep.DeepWitnessRowRef
import Derived.Stop.LaidErr
import Derived.ChangeSlices
import Derived.Deep.Slices
import Derived.Deep.Fields
import Derived.DataReads
import Derived.Maps.OwnSet
import Derived.Maps.Keyed
import Derived.Maps.RangeWalk
import Derived.Maps.OwnOps
namespace Go.Proofs.YtnclibfhbngkjaaGreatDoor
open Go.RowKit

/-- A text of bytes. -/
def bs (l : List UInt8) : ByteArray := ⟨l.toArray⟩
theorem bs_data (l : List UInt8) : (bs l).data.toList = l := by simp [bs]
theorem bs_of (s : ByteArray) : bs s.data.toList = s := by cases s; simp [bs]
theorem bs_size (l : List UInt8) : (bs l).size = l.length := by simp [bs, ByteArray.size]
theorem bs_toList (l : List UInt8) : (bs l).toList = l := by rw [ByteArray.toList_eq, bs_data]
theorem bs_inj {a b : List UInt8} : bs a = bs b ↔ a = b := ⟨fun h => by rw [← bs_data a, h, bs_data], fun h => by rw [h]⟩
theorem size_len (s : ByteArray) : s.data.toList.length = s.size := by simp
theorem eq_bs {s : ByteArray} {l : List UInt8} (h : s.data.toList = l) : s = bs l := by rw [← h, bs_of]
theorem extract_bs (s : ByteArray) (a b : Nat) : s.extract a b = bs ((s.data.toList.drop a).take (b - a)) := by
  apply eq_bs; rw [← ByteArray.toList_eq, Lib.extract_toList]

theorem bs_append (a b : List UInt8) : bs a ++ bs b = bs (a ++ b) := by
  apply eq_bs
  simp [bs]
theorem bs_beq_ne {a b : List UInt8} (h : a ≠ b) : ((bs a).toList == (bs b).toList) = false := by rw [bs_toList, bs_toList]; simpa using h
theorem bs_bne_ne {a b : List UInt8} (h : a ≠ b) : ((bs a).toList != (bs b).toList) = true := by rw [bs_toList, bs_toList]; simpa using h
theorem bs_beq_eq {a b : List UInt8} (h : a = b) : ((bs a).toList == (bs b).toList) = true := by rw [h]; simp
theorem bs_bne_eq {a b : List UInt8} (h : a = b) : ((bs a).toList != (bs b).toList) = false := by rw [h]; simp
theorem ret_bool {a b : Bool} (h : a = b) : Ending.returned (.bool a) = .returned (.bool b) := by rw [h]
theorem ret_int {k : IntKind} {a b : Int} (h : a = b) : Ending.returned (.int k a) = .returned (.int k b) := by rw [h]
theorem ret_str {a b : ByteArray} (h : a = b) : Ending.returned (.string a) = .returned (.string b) := by rw [h]

/-- What stands between bytes c. -/
def splitOn (c : UInt8) : List UInt8 → List (List UInt8)
  | [] => [[]]
  | x :: r => if x = c then [] :: splitOn c r else
    match splitOn c r with
    | [] => [[x]]
    | p :: q => (x :: p) :: q
theorem splitOn_ne (c : UInt8) (l : List UInt8) : splitOn c l ≠ [] := by
  cases l with
  | nil => simp [splitOn]
  | cons x r => unfold splitOn; split <;> try simp
                split <;> simp
theorem splitOn_cons_eq (c : UInt8) (r : List UInt8) : splitOn c (c :: r) = [] :: splitOn c r := by simp [splitOn]
theorem splitOn_append (c : UInt8) (a r : List UInt8) (ha : c ∉ a) : splitOn c (a ++ c :: r) = a :: splitOn c r := by
  induction a with
  | nil => simp [splitOn]
  | cons x a ih =>
    have h1 : x ≠ c := fun e => ha (by simp [e])
    have h2 : c ∉ a := fun e => ha (by simp [e])
    rw [List.cons_append, splitOn, if_neg h1, ih h2]
theorem splitOn_none (c : UInt8) (a : List UInt8) (ha : c ∉ a) : splitOn c a = [a] := by
  induction a with
  | nil => rfl
  | cons x a ih =>
    have h1 : x ≠ c := fun e => ha (by simp [e])
    have h2 : c ∉ a := fun e => ha (by simp [e])
    rw [splitOn, if_neg h1, ih h2]

/-- No piece has the byte; joined again by it they are the text. -/
theorem splitOn_mem (c : UInt8) (l : List UInt8) : ∀ p ∈ splitOn c l, c ∉ p := by
  induction l with
  | nil => intro p hp; simp [splitOn] at hp; subst hp; simp
  | cons x r ih =>
    intro p hp
    unfold splitOn at hp
    split at hp
    · rcases List.mem_cons.1 hp with rfl | hp
      · simp
      · exact ih p hp
    · rename_i hx
      split at hp
      · simp at hp; subst hp; simp; exact fun e => hx e.symm
      · rename_i q qs hq
        rcases List.mem_cons.1 hp with rfl | hp
        · intro e
          rcases List.mem_cons.1 e with e | e
          · exact hx e.symm
          · exact ih q (by rw [hq]; simp) e
        · exact ih p (by rw [hq]; simp [hp])

/-- Pieces with the byte ahead of each. -/
def glue (c : UInt8) (L : List (List UInt8)) : List UInt8 := (L.map (c :: ·)).flatten
theorem glue_cons (c : UInt8) (p : List UInt8) (L) : glue c (p :: L) = c :: p ++ glue c L := by simp [glue]
theorem glue_append (c : UInt8) (A B) : glue c (A ++ B) = glue c A ++ glue c B := by simp [glue]
theorem glue_splitOn (c : UInt8) (l : List UInt8) : glue c (splitOn c l) = c :: l := by
  induction l with
  | nil => rfl
  | cons x r ih =>
    unfold splitOn
    split
    · rename_i h; subst h; rw [glue_cons, ih]; rfl
    · split
      · rename_i h; exact absurd h (splitOn_ne c r)
      · rename_i p q h
        rw [h, glue_cons] at ih
        rw [glue_cons]
        simp at ih ⊢
        exact ih
theorem splitOn_glue (c : UInt8) (p : List UInt8) (L : List (List UInt8)) (hp : c ∉ p) (h : ∀ q ∈ L, c ∉ q) : splitOn c (p ++ glue c L) = p :: L := by
  induction L generalizing p with
  | nil => simp [glue, splitOn_none c p hp]
  | cons q L ih =>
    rw [glue_cons, List.cons_append, splitOn_append c p _ hp, ih q (h q (by simp)) (fun r hr => h r (by simp [hr]))]

theorem splitOn_length_pos (c : UInt8) (l : List UInt8) : 1 ≤ (splitOn c l).length := by
  have := splitOn_ne c l
  cases h : splitOn c l with
  | nil => exact absurd h this
  | cons => simp

theorem index_cons_ne (b c : UInt8) (l : List UInt8) (h : b ≠ c) : Lib.index (b :: l) [c] = if Lib.index l [c] == -1 then -1 else Lib.index l [c] + 1 := by
  have hp : ([c] : List UInt8).isPrefixOf (b :: l) = false := by simp [List.isPrefixOf, Ne.symm h]
  rw [Lib.index, hp]; simp
theorem index_cons_eq (c : UInt8) (l : List UInt8) : Lib.index (c :: l) [c] = 0 := by rw [Lib.index]; simp [List.isPrefixOf]
theorem index_count (c : UInt8) (l : List UInt8) : Lib.index l [c] = -1 ↔ Lib.count l [c] = 0 := by
  constructor
  · exact fun h => Lib.count_miss h
  · intro h
    have hge := Lib.index_ge l [c]
    by_cases hm : Lib.index l [c] = -1
    · exact hm
    · obtain ⟨j, hj⟩ : ∃ j : Nat, Lib.index l [c] = j := ⟨(Lib.index l [c]).toNat, by omega⟩
      rw [Lib.count_hit (by simp) hj] at h
      omega
theorem splitK_on (c : UInt8) : ∀ (l : List UInt8), Lib.splitK [c] 0 (Lib.count l [c]) l = splitOn c l
  | [] => by rw [Lib.count_one]; rfl
  | b :: l => by
    have ih := splitK_on c l
    by_cases h : b = c
    · subst h
      rw [Lib.count_cons_eq, Nat.add_comm, Lib.splitK, index_cons_eq, splitOn_cons_eq]
      simp [ih]
    · rw [Lib.count_cons_ne b c l h, splitOn, if_neg h]
      cases hk : Lib.count l [c] with
      | zero =>
        rw [hk] at ih
        rw [← ih]; rfl
      | succ k =>
        rw [hk] at ih
        have hm : Lib.index l [c] ≠ -1 := fun e => by have := (index_count c l).1 e; omega
        have hge := Lib.index_ge l [c]
        obtain ⟨j, hj⟩ : ∃ j : Nat, Lib.index l [c] = j := ⟨(Lib.index l [c]).toNat, by omega⟩
        have hix : Lib.index (b :: l) [c] = ((j + 1 : Nat) : Int) := by rw [index_cons_ne b c l h, if_neg (fun e => hm (beq_iff_eq.1 e)), hj]; omega
        rw [← ih, Lib.splitK, Lib.splitK, hix, hj]
        have e1 : (((j + 1 : Nat) : Int) == -1) = false := by rw [beq_eq_false_iff_ne]; omega
        have e2 : (((j : Nat) : Int) == -1) = false := by rw [beq_eq_false_iff_ne]; omega
        rw [e1, e2]
        simp
/-- The pieces that strings.Split gives, at a separator of one byte. -/
theorem splitB_on (c : UInt8) (s : ByteArray) : Lib.splitB (bs [c]) 0 (Lib.countB s (bs [c])) s = (splitOn c s.data.toList).map bs := by
  have h := Lib.splitB_data (bs [c]) 0 (Lib.countB s (bs [c])) s
  have hc : Lib.countB s (bs [c]) = Lib.count s.data.toList [c] := by unfold Lib.countB; rw [bs_data]
  rw [hc] at h ⊢
  rw [bs_data, splitK_on] at h
  rw [← h, List.map_map]
  conv => lhs; rw [← List.map_id (Lib.splitB (bs [c]) 0 (Lib.count s.data.toList [c]) s)]
  apply List.map_congr_left
  intro x _
  simp [bs_of]
theorem countB_on (c : UInt8) (s : ByteArray) : Lib.countB s (bs [c]) + 1 = (splitOn c s.data.toList).length := by
  have h := Lib.splitB_all (bs [c]) (by rw [bs_size]; simp) 0 (Lib.countB s (bs [c])) s rfl
  rw [splitB_on, List.length_map] at h
  exact h.symm
end Go.Proofs.YtnclibfhbngkjaaGreatDoor
namespace Go.Proofs.YtnclibfhbngkjaaGreatDoor
open Go.RowKit

/-- Behind it nothing of what was there has turned. -/
def Ext (w w' : World) : Prop := Below w.heap.size w w'
theorem Ext.refl (w : World) : Ext w w := Below.refl _ _
theorem Ext.trans {a b c : World} (h : Ext a b) (k : Ext b c) : Ext a c := Below.trans h (Below.mono k h.size)
theorem Ext.alloc (w : World) (o : Obj) : Ext w (w.alloc o) := (Below.refl _ _).alloc (Nat.le_refl _) _
theorem Ext.drew {a b : World} (h : Ext a b) : Ext a b.drew := Below.drew h
theorem Ext.drewN {a b : World} (h : Ext a b) (n : Nat) : Ext a (b.drewN n) := ⟨h.os, h.tape, h.output, h.size, h.block⟩
theorem Ext.of_below {w w' : World} {B : Nat} (h : Below B w w') (hB : w.heap.size ≤ B) : Ext w w' := h.mono hB
theorem Ext.size {w w' : World} (h : Ext w w') : w.heap.size ≤ w'.heap.size := Below.size h
theorem Ext.cell {w w' : World} (h : Ext w w') {p : Addr} {v : Value} (hc : w.cell? p = some v) : w'.cell? p = some v := by
  have hp : p.block < w.heap.size := by
    rcases Nat.lt_or_ge p.block w.heap.size with hl | hl
    · exact hl
    · have e : w.heap[p.block]? = none := Array.getElem?_eq_none hl
      simp [World.cell?, e] at hc
  rw [Below.cell h hp]; exact hc
theorem Ext.heap {w w' : World} (h : Ext w w') {b : Nat} {o : Obj} (hc : w.heap[b]? = some o) : w'.heap[b]? = some o := by
  have hp : b < w.heap.size := by
    rcases Nat.lt_or_ge b w.heap.size with hl | hl
    · exact hl
    · rw [Array.getElem?_eq_none hl] at hc; cases hc
  rw [h.block b hp]; exact hc

structure Env (w : World) : Prop where
  shaped : w.ShapedOpen Tryz.prog
theorem Env.ext {w w' : World} (h : Env w) (k : Ext w w') : Env w' :=
  ⟨h.shaped.keptBut (Below.frame k (fun _ => False)) (fun _ hp => hp.elim)⟩

/-- A slice at this address has these texts. -/
def Strs (w : World) (a : Option Addr) (L : List (List UInt8)) : Prop :=
  L = [] ∨ ∃ g off, a = some ⟨g, off, none⟩ ∧ g < w.heap.size ∧ ∀ i, i < L.length → w.cell? ⟨g, off + i, none⟩ = some (.string (bs (L.getD i [])))
theorem Strs.nil (w : World) (a : Option Addr) : Strs w a [] := Or.inl rfl
theorem Strs.ext {w w' : World} {a : Option Addr} {L : List (List UInt8)} (h : Strs w a L) (k : Ext w w') : Strs w' a L := by
  rcases h with h | ⟨g, off, ha, hg, hc⟩
  · exact Or.inl h
  · exact Or.inr ⟨g, off, ha, Nat.lt_of_lt_of_le hg k.size, fun i hi => k.cell (hc i hi)⟩
theorem Strs.at {w : World} {a : Option Addr} {L : List (List UInt8)} (h : Strs w a L) (hL : L ≠ []) :
    ∃ g off, a = some ⟨g, off, none⟩ ∧ g < w.heap.size ∧ ∀ i, i < L.length → w.cell? ⟨g, off + i, none⟩ = some (.string (bs (L.getD i []))) :=
  h.resolve_left hL
theorem Strs.at0 {w : World} {b : Nat} {L : List (List UInt8)} (h : Strs w (some ⟨b, 0, none⟩) L) :
    ∀ i, i < L.length → w.cell? ⟨b, i, none⟩ = some (.string (bs (L.getD i []))) := by
  intro i hi
  rcases h with h | ⟨g, off, ha, _, hc⟩
  · rw [h] at hi; simp at hi
  · have ha := Option.some.inj ha
    obtain ⟨rfl, rfl⟩ : g = b ∧ off = 0 := by constructor <;> (cases ha; rfl)
    have := hc i hi
    rwa [Nat.zero_add] at this
/-- A new block of texts. -/
theorem Strs.made (w : World) (L : List (List UInt8)) (t : TypeId) : Strs (w.alloc (.cells ((L.map bs).map Value.string).toArray t)) (some ⟨w.heap.size, 0, none⟩) L := by
  refine Or.inr ⟨w.heap.size, 0, rfl, by simp, fun i hi => ?_⟩
  have h : (w.alloc (.cells ((L.map bs).map Value.string).toArray t)).heap[w.heap.size]? = some (.cells ((L.map bs).map Value.string).toArray t (0, 0)) := by
    show (w.heap.push _)[w.heap.size]? = _
    simp
  unfold World.cell?
  simp only [h]
  simp [hi]
end Go.Proofs.YtnclibfhbngkjaaGreatDoor
namespace Go.Proofs.YtnclibfhbngkjaaGreatDoor
open Go.RowKit Go.WideShapes Go.ChangeShapes
section
variable {H : Type} {enc : TypeId × Value → H}
theorem trodAll_ext {P : Program} (hl : laidOutB P = true) {W W' : World} (hb : Ext W W') : ∀ (ts : List TypeId) (vs : List Value) (ds : List (DataW H)) (ps : List MemPlace),
    (ts.all fun t => P.readableRec t && decide (t < P.types.size)) = true →
    DataW.TrodAll enc P W 0 (fun _ => true) true ts vs ds ps → (∀ x ∈ ps, x.block < W.heap.size) →
    DataW.TrodAll enc P W' 0 (fun b => decide (b < W.heap.size)) true ts vs ds ps
  | [], [], [], _, _, h, _ => h
  | t :: ts, v :: vs, d :: ds, ps, hr, h, hlt => by
    obtain ⟨p, q, h1, h2, rfl⟩ := h
    simp only [List.all_cons, Bool.and_eq_true, decide_eq_true_eq] at hr
    exact ⟨p, q, Below.trod hl hr.1.1 hr.1.2 h1 hb (fun x hx => hlt x (List.mem_append_left _ hx)),
      trodAll_ext hl hb ts vs ds q hr.2 h2 (fun x hx => hlt x (List.mem_append_right _ hx)), rfl⟩
  | [], _ :: _, _, _, _, h, _ => h.elim
  | [], [], _ :: _, _, _, h, _ => h.elim
  | _ :: _, [], _, _, _, h, _ => h.elim
  | _ :: _, _ :: _, [], _, _, h, _ => h.elim
theorem law_post {P : Program} {f : Func} {s : ChangeSpec} {tb : TypeId} {W W' : World} {args : Array Value} {ds gs : List (DataW H)} {before : List MemPlace}
    (hl : laidOutB P = true) (hr : (f.params.toList.all fun t => P.readableRec t && decide (t < P.types.size)) = true)
    (hv : s.vars = []) (hres : f.resultTypes = #[tb]) (htb : P.underlying tb = some .bool)
    (hW : DataW.Whole enc P f.params.toList s.vars false W args.toList ds gs before)
    (hfn : s.fn H (ds ++ gs) = { results := [.lit (.bool true)], args := ds }) (hb : Ext W W') :
    s.post enc P f false true false false W args (.bool true) W' := by
  have hW' := hW
  have hlt := hW.lt
  obtain ⟨p, q, hA, hV, rfl, _, _⟩ := hW
  rw [hv] at hV
  have hq : gs = [] ∧ q = [] := by
    cases gs with
    | nil => exact ⟨rfl, hV⟩
    | cons _ _ => exact hV.elim
  obtain ⟨rfl, rfl⟩ := hq
  refine ⟨ds, [], p ++ [], [], p, [], hW', ?_, ?_, ?_, ?_, fun h => by cases h⟩
  · rw [hfn, hres]
    exact trodAll_cons_mk (shut_bool htb true) trodAll_mk0
  · rw [hfn]
    exact trodAll_ext hl hb _ _ _ _ hr hA (fun x hx => hlt x (List.mem_append_left _ hx))
  · rw [hfn, hv]; rfl
  · exact Below.frame hb _
end
theorem cells_string : Tryz.prog.cellsOf 9 = 1 := by kernel_rfl
set_option maxRecDepth 100000 in
/-- A []string that came in. -/
theorem open_texts {H : Type} {enc : TypeId × Value → H} {W : World} {base b0 : Nat} {v : Value} {d : DataW H} {ps : List MemPlace} {held : Bool}
    (hval : Value.okWide Tryz.prog W .any b0 28 v) (hd : DataW.Trod enc Tryz.prog W base (fun _ => true) held 28 v d ps) :
    ∃ (a : Option Addr) (L : List (List UInt8)) (c : Nat), v = .slice a L.length c ∧ L.length ≤ c ∧ Strs W a L := by
  obtain ⟨a0, len, cap, rfl⟩ := okWide_slice Tryz.underlying28 hval
  obtain ⟨fuel, hf⟩ := hd
  rcases open_strings Tryz.underlying28 Tryz.underlying9 cells_string hf with ⟨hcs, hx⟩ | ⟨a, len', cap', ss, hcs, _, hl, hm, hz, hx, hcell, hws⟩
  · simp [Value.cells] at hcs
    obtain ⟨rfl, rfl, rfl⟩ := hcs
    exact ⟨none, [], 0, rfl, Nat.le_refl _, Strs.nil _ _⟩
  · simp [Value.cells] at hcs
    obtain ⟨rfl, rfl, rfl⟩ := hcs
    have hz' : ss.length = cap := by simpa using hz
    have hLl : ((ss.take len).map (·.data.toList)).length = len := by simp; omega
    refine ⟨some a, (ss.take len).map (·.data.toList), cap, by rw [hLl], by rw [hLl]; exact hl, ?_⟩
    by_cases h0 : (ss.take len).map (·.data.toList) = []
    · exact Or.inl h0
    · have hlen : 0 < len := by
        rcases Nat.eq_zero_or_pos len with h | h
        · subst h; simp at h0
        · exact h
      have hc0 := hcell 0 (by omega)
      have e0 : a.add 0 = a := by simp [Addr.add]
      rw [e0] at hc0
      have hspot : a.spot = none := by
        cases hs : a.spot with
        | none => rfl
        | some x =>
          simp only [World.cell?] at hc0
          split at hc0
          · rw [hs] at hc0; simp at hc0
          · cases hc0
      have hblk : a.block < W.heap.size := by
        rcases Nat.lt_or_ge a.block W.heap.size with h | h
        · exact h
        · have e : W.heap[a.block]? = none := Array.getElem?_eq_none h
          simp [World.cell?, e] at hc0
      refine Or.inr ⟨a.block, a.off, by cases a; simp at hspot; subst hspot; rfl, hblk, fun i hi => ?_⟩
      have hi' : i < len := by rw [hLl] at hi; exact hi
      have hc := hcell i (by omega)
      have ea : a.add i = ⟨a.block, a.off + i, none⟩ := by
        cases a; simp at hspot; subst hspot
        unfold Addr.add; split
        · rename_i h; subst h; rfl
        · rfl
      rw [ea] at hc
      rw [hc]
      have hi2 : i < ss.length := by omega
      simp [hi', hi2, bs_of]
theorem stand_ins {P : Program} {ps : Array TypeId} (h : (ps.toList.all fun t => !P.wantsStandIn t) = true) : ∀ (j : Nat) t, ps[j]? = some t → P.wantsStandIn t = false := by
  intro j t ht
  have hm : t ∈ ps.toList := by
    have := Array.mem_of_getElem? ht
    simpa using this
  have := List.all_eq_true.1 h t hm
  simpa using this
/-- A world with some blocks' cells laid anew. -/
def layCells (w : World) (b : Nat) (cs : Array Value) : World :=
  { w with heap := w.heap.modify b fun
      | .cells _ t frozen => .cells cs t frozen
      | o => o }
theorem own : ownKnob Tryz.prog.godebug = none := by kernel_rfl
theorem laidOutP : laidOutB Tryz.prog = true := by kernel_rfl
def cellsFirst : Array Value := (Go.Pinned.utf8FirstZ.map fun (n : Nat) => Value.int .u8 (n : Int)).toArray
def cellsRanges : Array Value := ([128, 191, 160, 191, 128, 159, 144, 191, 128, 143, 0, 0, 0, 0, 0, 0, 0, 0, 0, 0, 0, 0, 0, 0, 0, 0, 0, 0, 0, 0, 0, 0].map fun (n : Int) => Value.int .u8 n).toArray
/-- A world in which the two tables of unicode/utf8 are laid. -/
noncomputable def laidUtf8 (os : Os) : World :=
  layCells (layCells (World.holding Tryz.prog os ⟨#[], #[], []⟩) 4 cellsFirst) 5 cellsRanges
end Go.Proofs.YtnclibfhbngkjaaGreatDoor
namespace Go.Proofs.YtnclibfhbngkjaaGreatDoor
/-- Digits alone? -/
def digs (l : List UInt8) : Bool := l.all fun b => decide (48 ≤ b.toNat ∧ b.toNat ≤ 57)
/-- The number of digits. -/
def valD (l : List UInt8) : Nat := l.foldl (fun acc b => acc * 10 + (b.toNat - 48)) 0
/-- The number that is written just so; none: no number is. -/
def canon (l : List UInt8) : Option Nat :=
  if l ≠ [] ∧ digs l = true ∧ (l.length = 1 ∨ l.head? ≠ some 48) then some (valD l) else none
theorem valD_snoc (l : List UInt8) (b : UInt8) : valD (l ++ [b]) = valD l * 10 + (b.toNat - 48) := by simp [valD]
theorem digs_snoc (l : List UInt8) (b : UInt8) : digs (l ++ [b]) = (digs l && decide (48 ≤ b.toNat ∧ b.toNat ≤ 57)) := by simp [digs]
theorem digit_byte {b : UInt8} (h : 48 ≤ b.toNat ∧ b.toNat ≤ 57) : UInt8.ofNat (48 + (b.toNat - 48)) = b := by
  apply UInt8.toNat_inj.1
  rw [UInt8.toNat_ofNat']
  omega
theorem list_snoc_ind {p : List UInt8 → Prop} (h0 : p []) (h1 : ∀ l b, p l → p (l ++ [b])) (l : List UInt8) : p l := by
  have : ∀ n (l : List UInt8), l.length = n → p l := by
    intro n
    induction n with
    | zero => intro l hl; have := List.eq_nil_of_length_eq_zero hl; subst this; exact h0
    | succ n ih =>
      intro l hl
      have hne : l ≠ [] := by intro e; subst e; simp at hl
      rw [← List.dropLast_concat_getLast hne]
      exact h1 _ _ (ih _ (by simp [hl]))
  exact this _ l rfl
theorem valD_pos {l : List UInt8} (hd : digs l = true) (hne : l ≠ []) (hh : l.head? ≠ some 48) : 1 ≤ valD l := by
  induction l using list_snoc_ind with
  | h0 => exact absurd rfl hne
  | h1 l b ih =>
    rw [digs_snoc, Bool.and_eq_true, decide_eq_true_eq] at hd
    rw [valD_snoc]
    by_cases hl : l = []
    · subst hl
      simp at hh
      have : b.toNat ≠ 48 := fun e => hh (UInt8.toNat_inj.1 (by rw [e]; rfl))
      omega
    · have := ih hd.1 hl (by
        intro e; apply hh
        cases l with
        | nil => exact absurd rfl hl
        | cons x r => simpa using e)
      omega
theorem decDigits_val {l : List UInt8} (hd : digs l = true) (hne : l ≠ []) (hh : l.length = 1 ∨ l.head? ≠ some 48) : Lib.decDigits (valD l) = l := by
  induction l using list_snoc_ind with
  | h0 => exact absurd rfl hne
  | h1 l b ih =>
    rw [digs_snoc, Bool.and_eq_true, decide_eq_true_eq] at hd
    rw [valD_snoc]
    by_cases hl : l = []
    · subst hl
      have : valD [] = 0 := rfl
      rw [this, Lib.decDigits_one (by omega)]
      simp [digit_byte hd.2]
    · have h1 : 2 ≤ (l ++ [b]).length := by
        cases l with
        | nil => exact absurd rfl hl
        | cons x r => simp
      have h2 : l.head? ≠ some 48 := by
        rcases hh with h | h
        · omega
        · intro e; apply h
          cases l with
          | nil => exact absurd rfl hl
          | cons x r => simpa using e
      have h3 := valD_pos hd.1 hl h2
      rw [Lib.decDigits, dif_neg (by omega)]
      rw [show (valD l * 10 + (b.toNat - 48)) / 10 = valD l by omega, ih hd.1 hl (Or.inr h2)]
      congr 2
      have : (valD l * 10 + (b.toNat - 48)) % 10 = b.toNat - 48 := by omega
      rw [this, digit_byte hd.2]
theorem decDigits_canon : ∀ (n : Nat), canon (Lib.decDigits n) = some n := by
  intro n
  have key : ∀ k n, n < k → (Lib.decDigits n ≠ [] ∧ digs (Lib.decDigits n) = true ∧ (n < 10 ∧ (Lib.decDigits n).length = 1 ∨ 10 ≤ n ∧ (Lib.decDigits n).head? ≠ some 48) ∧ valD (Lib.decDigits n) = n ∧ (1 ≤ n → (Lib.decDigits n).head? ≠ some 48)) := by
    intro k
    induction k with
    | zero => intro n h; omega
    | succ k ih =>
      intro n hn
      by_cases h10 : n < 10
      · rw [Lib.decDigits_one h10]
        have e : (UInt8.ofNat (48 + n)).toNat = 48 + n := by rw [UInt8.toNat_ofNat']; omega
        refine ⟨by simp, by simp only [digs, List.all_cons, List.all_nil, Bool.and_true, decide_eq_true_eq, e]; omega, Or.inl ⟨h10, rfl⟩, ?_, ?_⟩
        · simp only [valD, List.foldl_cons, List.foldl_nil, e]; omega
        · intro h1
          simp only [List.head?_cons, ne_eq, Option.some.injEq]
          intro h
          have := congrArg UInt8.toNat h
          rw [e] at this
          have e48 : (48 : UInt8).toNat = 48 := rfl
          omega
      · have h := ih (n / 10) (by omega)
        have e : (UInt8.ofNat (48 + n % 10)).toNat = 48 + n % 10 := by rw [UInt8.toNat_ofNat']; omega
        have hh := h.2.2.2.2 (by omega)
        have hr : Lib.decDigits n = Lib.decDigits (n / 10) ++ [UInt8.ofNat (48 + n % 10)] := by rw [Lib.decDigits, dif_neg h10]
        have hhead : (Lib.decDigits n).head? ≠ some 48 := by
          rw [hr]
          intro e2; apply hh
          cases hd : Lib.decDigits (n / 10) with
          | nil => exact absurd hd h.1
          | cons x r => rw [hd] at e2; simpa using e2
        refine ⟨by rw [hr]; simp, ?_, Or.inr ⟨by omega, hhead⟩, ?_, fun _ => hhead⟩
        · rw [hr, digs_snoc, h.2.1, Bool.true_and, decide_eq_true_eq, e]; omega
        · rw [hr, valD_snoc, h.2.2.2.1, e]; omega
  have h := key (n + 1) n (by omega)
  unfold canon
  rw [if_pos ⟨h.1, h.2.1, by
    rcases h.2.2.1 with h1 | h1
    · exact Or.inl h1.2
    · exact Or.inr h1.2⟩, h.2.2.2.1]
theorem canon_iff (l : List UInt8) (n : Nat) : canon l = some n ↔ Lib.decDigits n = l := by
  constructor
  · intro h
    unfold canon at h
    split at h
    · rename_i hc
      have h := Option.some.inj h
      rw [← h]; exact decDigits_val hc.2.1 hc.1 hc.2.2
    · cases h
  · intro h; rw [← h]; exact decDigits_canon n
theorem itoa_nat (n : Nat) : Lib.itoa (n : Int) = Lib.decDigits n := by
  unfold Lib.itoa; rw [if_neg (by omega)]; rfl
theorem fold_ge (l : List UInt8) : ∀ acc : Nat, acc ≤ l.foldl (fun acc b => acc * 10 + (b.toNat - 48)) acc := by
  induction l with
  | nil => intro acc; exact Nat.le_refl _
  | cons b r ih => intro acc; have := ih (acc * 10 + (b.toNat - 48)); simp only [List.foldl_cons]; omega
theorem parse_digs (l : List UInt8) : ∀ acc : Nat, digs l = true → l.foldl (fun acc b => acc * 10 + (b.toNat - 48)) acc ≤ 1000000000000000000 →
    Lib.parseUint10 acc l = .ok (l.foldl (fun acc b => acc * 10 + (b.toNat - 48)) acc) := by
  induction l with
  | nil => intro acc _ _; rfl
  | cons b r ih =>
    intro acc hd hb
    simp only [digs, List.all_cons, Bool.and_eq_true, decide_eq_true_eq] at hd
    have hg := fold_ge r (acc * 10 + (b.toNat - 48))
    simp only [List.foldl_cons] at hb ⊢
    rw [Lib.parseUint10, if_pos hd.1, if_neg (by omega), if_neg (by omega)]
    exact ih _ hd.2 hb
theorem atoi_canon {l : List UInt8} {n : Nat} (h : canon l = some n) (hn : n ≤ 1000000000000000000) : Lib.atoiAll l = .ok (n : Int) := by
  unfold canon at h
  split at h
  · rename_i hc
    have h := Option.some.inj h
    cases l with
    | nil => exact absurd rfl hc.1
    | cons b r =>
      have hd := hc.2.1
      simp only [digs, List.all_cons, Bool.and_eq_true, decide_eq_true_eq] at hd
      have e1 : ¬ (b.toNat = 43 ∨ b.toNat = 45) := by omega
      have e2 : ¬ b.toNat = 45 := by omega
      have hp : Lib.parseMag (b :: r) = .ok n := by
        unfold Lib.parseMag
        rw [if_neg (by simp), parse_digs (b :: r) 0 hc.2.1 (by show valD (b :: r) ≤ _; rw [h]; exact hn)]
        show Lib.NumEnd.ok (valD (b :: r)) = _
        rw [h]
      unfold Lib.atoiAll
      have e3 : ¬ b.toNat = 43 := by omega
      simp only [e3, e2, or_self, if_false]
      rw [hp]
      show (if _ then _ else _) = _
      rw [if_neg (by omega)]
      simp only [false_and, if_false]
  · cases h
theorem canon_len {l : List UInt8} {n : Nat} (h : canon l = some n) : 1 ≤ l.length := by
  unfold canon at h
  split at h
  · rename_i hc
    cases l with
    | nil => exact absurd rfl hc.1
    | cons => simp
  · cases h
end Go.Proofs.YtnclibfhbngkjaaGreatDoor
namespace Go.Proofs
open Go.Shelf
def Tryz.laysM171_ren : Go.Shelf.Ren := ⟨fun | 171 => 113 | 243 => 125 | 246 => 139 | 283 => 148 | 284 => 149 | 285 => 150 | 286 => 151 | 129 => 110 | 317 => 155 | 318 => 156 | 319 => 157 | 320 => 158 | 337 => 159 | 338 => 160 | n => n, fun | 3 => 3 | 9 => 9 | 2 => 2 | 4 => 4 | 171 => 199 | 0 => 0 | 53 => 163 | 37 => 74 | 5 => 5 | 173 => 201 | 212 => 208 | 51 => 69 | 20 => 20 | 213 => 209 | 46 => 97 | 232 => 214 | 233 => 215 | n => n, fun | 17 => 3 | 18 => 6 | 19 => 7 | n => n⟩
theorem Tryz.laysM171 : Go.Proofs.LaysM.n171 Tryz.prog Tryz.laysM171_ren := {
  mixed := by kernel_rfl
  f129 := Tryz.func110.trans (congrArg some (by kernel_rfl))
  f171 := Tryz.func113.trans (congrArg some (by kernel_rfl))
  f243 := Tryz.func125.trans (congrArg some (by kernel_rfl))
  f246 := Tryz.func139.trans (congrArg some (by kernel_rfl))
  f283 := Tryz.func148.trans (congrArg some (by kernel_rfl))
  f284 := Tryz.func149.trans (congrArg some (by kernel_rfl))
  f285 := Tryz.func150.trans (congrArg some (by kernel_rfl))
  f286 := Tryz.func151.trans (congrArg some (by kernel_rfl))
  f317 := Tryz.func155.trans (congrArg some (by kernel_rfl))
  f318 := Tryz.func156.trans (congrArg some (by kernel_rfl))
  f319 := Tryz.func157.trans (congrArg some (by kernel_rfl))
  f320 := Tryz.func158.trans (congrArg some (by kernel_rfl))
  f337 := Tryz.func159.trans (congrArg some (by kernel_rfl))
  f338 := Tryz.func160.trans (congrArg some (by kernel_rfl))
  t0 := Tryz.underlying0
  a0 := Tryz.isAgg0
  z0 := Tryz.sizeOf0
  v0 := Tryz.zeroValue0
  t2 := Tryz.underlying2
  a2 := Tryz.isAgg2
  z2 := Tryz.sizeOf2
  v2 := Tryz.zeroValue2
  t3 := Tryz.underlying3
  a3 := Tryz.isAgg3
  z3 := Tryz.sizeOf3
  v3 := Tryz.zeroValue3
  t4 := Tryz.underlying4
  a4 := Tryz.isAgg4
  z4 := Tryz.sizeOf4
  v4 := Tryz.zeroValue4
  t5 := Tryz.underlying5
  a5 := Tryz.isAgg5
  z5 := Tryz.sizeOf5
  v5 := Tryz.zeroValue5
  t9 := Tryz.underlying9
  a9 := Tryz.isAgg9
  z9 := Tryz.sizeOf9
  v9 := Tryz.zeroValue9
  t20 := Tryz.underlying20
  a20 := Tryz.isAgg20
  z20 := Tryz.sizeOf20
  v20 := Tryz.zeroValue20
  t37 := Tryz.underlying74
  a37 := Tryz.isAgg74
  z37 := Tryz.sizeOf74
  v37 := Tryz.zeroValue74
  t46 := Tryz.underlying97
  a46 := Tryz.isAgg97
  z46 := Tryz.sizeOf97
  v46 := Tryz.zeroValue97
  t51 := Tryz.underlying69
  a51 := Tryz.isAgg69
  z51 := Tryz.sizeOf69
  v51 := Tryz.zeroValue69
  t53 := Tryz.underlying163
  a53 := Tryz.isAgg163
  z53 := Tryz.sizeOf163
  v53 := Tryz.zeroValue163
  t171 := Tryz.underlying199
  a171 := Tryz.isAgg199
  z171 := Tryz.sizeOf199
  v171 := Tryz.zeroValue199
  t173 := Tryz.underlying201
  a173 := Tryz.isAgg201
  z173 := Tryz.sizeOf201
  v173 := Tryz.zeroValue201
  t212 := Tryz.underlying208
  a212 := Tryz.isAgg208
  z212 := Tryz.sizeOf208
  v212 := Tryz.zeroValue208
  t213 := Tryz.underlying209
  a213 := Tryz.isAgg209
  z213 := Tryz.sizeOf209
  t232 := Tryz.underlying214
  a232 := Tryz.isAgg214
  z232 := Tryz.sizeOf214
  v232 := Tryz.zeroValue214
  t233 := Tryz.underlying215
  a233 := Tryz.isAgg215
  z233 := Tryz.sizeOf215
  v233 := Tryz.zeroValue215
  g17 := by kernel_rfl
  g18 := by kernel_rfl
  g19 := by kernel_rfl
  i0 := by kernel_rfl
  i2 := by kernel_rfl
  i3 := by kernel_rfl
  i4 := by kernel_rfl
  i5 := by kernel_rfl
  i9 := by kernel_rfl
  i20 := by kernel_rfl
  i37 := by kernel_rfl
  i46 := by kernel_rfl
  i51 := by kernel_rfl
  i53 := by kernel_rfl
  i171 := by kernel_rfl
  i173 := by kernel_rfl
  i212 := by kernel_rfl
  i232 := by kernel_rfl
  i233 := by kernel_rfl
  m17 := by kernel_rfl
  m18 := by kernel_rfl
  m19 := by kernel_rfl }
open Go.RowKit Go.Sort Go.Lib in
theorem Tryz.strconv_Itoa (n : Int) (h0 : -9223372036854775808 ≤ n) (h1 : n ≤ 9223372036854775807) (w : World) (htab : Lib.TabIs Tryz.prog w "internal/strconv.uint64pow10" .u64 Lib.pow10Tab) :
    Calls Tryz.prog 113 #[.int .i64 n] w fun e w' => e = .returned (.string ⟨(Lib.itoa n).toArray⟩) ∧ ∃ k os, w' = grow (w.drewN k) os := Any.strconv_Itoa Tryz.laysM171 n h0 h1 w htab
def Tryz.laysC172_ren : Go.Shelf.Ren := ⟨fun | 172 => 112 | 244 => 123 | 245 => 124 | 247 => 134 | 279 => 135 | 280 => 136 | 281 => 137 | 282 => 138 | 287 => 145 | 316 => 146 | 171 => 113 | 205 => 147 | 321 => 153 | 322 => 154 | 243 => 125 | 246 => 139 | 283 => 148 | 284 => 149 | 285 => 150 | 286 => 151 | 129 => 110 | 317 => 155 | 318 => 156 | 319 => 157 | 320 => 158 | 337 => 159 | 338 => 160 | n => n, fun | 9 => 9 | 3 => 3 | 75 => 165 | 76 => 166 | 4 => 4 | 5 => 5 | 167 => 181 | 37 => 74 | 0 => 0 | 85 => 182 | 2 => 2 | 168 => 184 | 53 => 163 | 175 => 193 | 46 => 97 | 210 => 197 | 127 => 204 | 145 => 207 | 143 => 205 | 21 => 21 | 171 => 199 | 173 => 201 | 212 => 208 | 51 => 69 | 20 => 20 | 213 => 209 | 232 => 214 | 233 => 215 | 80 => 216 | n => n, fun | 15 => 1 | 16 => 2 | 17 => 3 | 18 => 6 | 19 => 7 | n => n⟩
theorem Tryz.laysC172 : Go.Proofs.LaysC.n172 Tryz.prog Tryz.laysC172_ren := {
  mixed := by kernel_rfl
  f129 := Tryz.func110.trans (congrArg some (by kernel_rfl))
  f171 := Tryz.func113.trans (congrArg some (by kernel_rfl))
  f172 := Tryz.func112.trans (congrArg some (by kernel_rfl))
  f205 := Tryz.func147.trans (congrArg some (by kernel_rfl))
  f243 := Tryz.func125.trans (congrArg some (by kernel_rfl))
  f244 := Tryz.func123.trans (congrArg some (by kernel_rfl))
  f245 := Tryz.func124.trans (congrArg some (by kernel_rfl))
  f246 := Tryz.func139.trans (congrArg some (by kernel_rfl))
  f247 := Tryz.func134.trans (congrArg some (by kernel_rfl))
  f279 := Tryz.func135.trans (congrArg some (by kernel_rfl))
  f280 := Tryz.func136.trans (congrArg some (by kernel_rfl))
  f281 := Tryz.func137.trans (congrArg some (by kernel_rfl))
  f282 := Tryz.func138.trans (congrArg some (by kernel_rfl))
  f283 := Tryz.func148.trans (congrArg some (by kernel_rfl))
  f284 := Tryz.func149.trans (congrArg some (by kernel_rfl))
  f285 := Tryz.func150.trans (congrArg some (by kernel_rfl))
  f286 := Tryz.func151.trans (congrArg some (by kernel_rfl))
  f287 := Tryz.func145.trans (congrArg some (by kernel_rfl))
  f316 := Tryz.func146.trans (congrArg some (by kernel_rfl))
  f317 := Tryz.func155.trans (congrArg some (by kernel_rfl))
  f318 := Tryz.func156.trans (congrArg some (by kernel_rfl))
  f319 := Tryz.func157.trans (congrArg some (by kernel_rfl))
  f320 := Tryz.func158.trans (congrArg some (by kernel_rfl))
  f321 := Tryz.func153.trans (congrArg some (by kernel_rfl))
  f322 := Tryz.func154.trans (congrArg some (by kernel_rfl))
  f337 := Tryz.func159.trans (congrArg some (by kernel_rfl))
  f338 := Tryz.func160.trans (congrArg some (by kernel_rfl))
  t0 := Tryz.underlying0
  a0 := Tryz.isAgg0
  z0 := Tryz.sizeOf0
  v0 := Tryz.zeroValue0
  t2 := Tryz.underlying2
  a2 := Tryz.isAgg2
  z2 := Tryz.sizeOf2
  v2 := Tryz.zeroValue2
  t3 := Tryz.underlying3
  a3 := Tryz.isAgg3
  z3 := Tryz.sizeOf3
  v3 := Tryz.zeroValue3
  t4 := Tryz.underlying4
  a4 := Tryz.isAgg4
  z4 := Tryz.sizeOf4
  v4 := Tryz.zeroValue4
  t5 := Tryz.underlying5
  a5 := Tryz.isAgg5
  z5 := Tryz.sizeOf5
  v5 := Tryz.zeroValue5
  t9 := Tryz.underlying9
  a9 := Tryz.isAgg9
  z9 := Tryz.sizeOf9
  v9 := Tryz.zeroValue9
  t20 := Tryz.underlying20
  a20 := Tryz.isAgg20
  z20 := Tryz.sizeOf20
  v20 := Tryz.zeroValue20
  t21 := Tryz.underlying21
  a21 := Tryz.isAgg21
  z21 := Tryz.sizeOf21
  v21 := Tryz.zeroValue21
  t37 := Tryz.underlying74
  a37 := Tryz.isAgg74
  z37 := Tryz.sizeOf74
  v37 := Tryz.zeroValue74
  t46 := Tryz.underlying97
  a46 := Tryz.isAgg97
  z46 := Tryz.sizeOf97
  v46 := Tryz.zeroValue97
  t51 := Tryz.underlying69
  a51 := Tryz.isAgg69
  z51 := Tryz.sizeOf69
  v51 := Tryz.zeroValue69
  t53 := Tryz.underlying163
  a53 := Tryz.isAgg163
  z53 := Tryz.sizeOf163
  v53 := Tryz.zeroValue163
  t75 := Tryz.underlying165
  a75 := Tryz.isAgg165
  z75 := Tryz.sizeOf165
  v75 := Tryz.zeroValue165
  t76 := Tryz.underlying166
  a76 := Tryz.isAgg166
  z76 := Tryz.sizeOf166
  v76 := Tryz.zeroValue166
  t85 := Tryz.underlying182
  a85 := Tryz.isAgg182
  z85 := Tryz.sizeOf182
  v85 := Tryz.zeroValue182
  t127 := Tryz.underlying204
  a127 := Tryz.isAgg204
  z127 := Tryz.sizeOf204
  v127 := Tryz.zeroValue204
  t143 := Tryz.underlying205
  a143 := Tryz.isAgg205
  z143 := Tryz.sizeOf205
  v143 := Tryz.zeroValue205
  t145 := Tryz.underlying207
  a145 := Tryz.isAgg207
  z145 := Tryz.sizeOf207
  v145 := Tryz.zeroValue207
  t167 := Tryz.underlying181
  a167 := Tryz.isAgg181
  z167 := Tryz.sizeOf181
  v167 := Tryz.zeroValue181
  t168 := Tryz.underlying184
  a168 := Tryz.isAgg184
  z168 := Tryz.sizeOf184
  v168 := Tryz.zeroValue184
  t171 := Tryz.underlying199
  a171 := Tryz.isAgg199
  z171 := Tryz.sizeOf199
  v171 := Tryz.zeroValue199
  t173 := Tryz.underlying201
  a173 := Tryz.isAgg201
  z173 := Tryz.sizeOf201
  v173 := Tryz.zeroValue201
  t175 := Tryz.underlying193
  a175 := Tryz.isAgg193
  z175 := Tryz.sizeOf193
  v175 := Tryz.zeroValue193
  t210 := Tryz.underlying197
  a210 := Tryz.isAgg197
  z210 := Tryz.sizeOf197
  v210 := Tryz.zeroValue197
  t212 := Tryz.underlying208
  a212 := Tryz.isAgg208
  z212 := Tryz.sizeOf208
  v212 := Tryz.zeroValue208
  t213 := Tryz.underlying209
  a213 := Tryz.isAgg209
  z213 := Tryz.sizeOf209
  t232 := Tryz.underlying214
  a232 := Tryz.isAgg214
  z232 := Tryz.sizeOf214
  v232 := Tryz.zeroValue214
  t233 := Tryz.underlying215
  a233 := Tryz.isAgg215
  z233 := Tryz.sizeOf215
  v233 := Tryz.zeroValue215
  g15 := by kernel_rfl
  g16 := by kernel_rfl
  g17 := by kernel_rfl
  g18 := by kernel_rfl
  g19 := by kernel_rfl
  t80 := Tryz.underlying216
  a80 := Tryz.isAgg216
  z80 := Tryz.sizeOf216
  v80 := Tryz.zeroValue216
  i0 := by kernel_rfl
  i2 := by kernel_rfl
  i3 := by kernel_rfl
  i4 := by kernel_rfl
  i5 := by kernel_rfl
  i9 := by kernel_rfl
  i20 := by kernel_rfl
  i21 := by kernel_rfl
  i37 := by kernel_rfl
  i46 := by kernel_rfl
  i51 := by kernel_rfl
  i53 := by kernel_rfl
  i75 := by kernel_rfl
  i76 := by kernel_rfl
  i80 := by kernel_rfl
  i85 := by kernel_rfl
  i127 := by kernel_rfl
  i143 := by kernel_rfl
  i145 := by kernel_rfl
  i167 := by kernel_rfl
  i168 := by kernel_rfl
  i171 := by kernel_rfl
  i173 := by kernel_rfl
  i175 := by kernel_rfl
  i210 := by kernel_rfl
  i212 := by kernel_rfl
  i232 := by kernel_rfl
  i233 := by kernel_rfl
  m15 := by kernel_rfl
  m16 := by kernel_rfl
  m17 := by kernel_rfl
  m18 := by kernel_rfl
  m19 := by kernel_rfl
  c0 := by kernel_rfl
  c2 := by kernel_rfl
  c3 := by kernel_rfl
  c4 := by kernel_rfl
  c5 := by kernel_rfl
  c9 := by kernel_rfl
  c20 := by kernel_rfl
  c21 := by kernel_rfl
  c37 := by kernel_rfl
  c46 := by kernel_rfl
  c51 := by kernel_rfl
  c53 := by kernel_rfl
  c75 := by kernel_rfl
  c76 := by kernel_rfl
  c80 := by kernel_rfl
  c85 := by kernel_rfl
  c127 := by kernel_rfl
  c143 := by kernel_rfl
  c145 := by kernel_rfl
  c167 := by kernel_rfl
  c168 := by kernel_rfl
  c171 := by kernel_rfl
  c173 := by kernel_rfl
  c175 := by kernel_rfl
  c210 := by kernel_rfl
  c212 := by kernel_rfl
  c213 := by kernel_rfl
  c232 := by kernel_rfl
  c233 := by kernel_rfl }
open Go.RowKit in
theorem Tryz.strconv_Atoi_ok (s : ByteArray) (hmax : s.size ≤ 9223372036854775806) (v : Int) (h : Lib.atoiAll s.data.toList = .ok v) (w : World) :
    Calls Tryz.prog 112 #[.string s] w fun e w' => e = .returned (.tuple #[.int .i64 v, .nilIface]) ∧ (w' = w ∨ ∃ t, w' = Lib.bytesWorld w 5 t) := Any.strconv_Atoi_ok Tryz.laysC172 s hmax v h w
def Tryz.laysM145_ren : Go.Shelf.Ren := ⟨fun | 145 => 91 | 220 => 111 | 219 => 122 | 217 => 130 | 225 => 131 | 224 => 132 | 267 => 133 | 266 => 143 | 314 => 144 | n => n, fun | 9 => 9 | 4 => 4 | 59 => 145 | 3 => 3 | 5 => 5 | 46 => 97 | 146 => 191 | 51 => 69 | n => n, fun | 1 => 0 | n => n⟩
theorem Tryz.laysM145 : Go.Proofs.LaysM.n145 Tryz.prog Tryz.laysM145_ren := {
  mixed := by kernel_rfl
  f145 := Tryz.func91.trans (congrArg some (by kernel_rfl))
  f217 := Tryz.func130.trans (congrArg some (by kernel_rfl))
  f219 := Tryz.func122.trans (congrArg some (by kernel_rfl))
  f220 := Tryz.func111.trans (congrArg some (by kernel_rfl))
  f224 := Tryz.func132.trans (congrArg some (by kernel_rfl))
  f225 := Tryz.func131.trans (congrArg some (by kernel_rfl))
  f266 := Tryz.func143.trans (congrArg some (by kernel_rfl))
  f267 := Tryz.func133.trans (congrArg some (by kernel_rfl))
  f314 := Tryz.func144.trans (congrArg some (by kernel_rfl))
  t3 := Tryz.underlying3
  a3 := Tryz.isAgg3
  z3 := Tryz.sizeOf3
  v3 := Tryz.zeroValue3
  t4 := Tryz.underlying4
  a4 := Tryz.isAgg4
  z4 := Tryz.sizeOf4
  v4 := Tryz.zeroValue4
  t5 := Tryz.underlying5
  a5 := Tryz.isAgg5
  z5 := Tryz.sizeOf5
  v5 := Tryz.zeroValue5
  t9 := Tryz.underlying9
  a9 := Tryz.isAgg9
  z9 := Tryz.sizeOf9
  v9 := Tryz.zeroValue9
  t46 := Tryz.underlying97
  a46 := Tryz.isAgg97
  z46 := Tryz.sizeOf97
  v46 := Tryz.zeroValue97
  t51 := Tryz.underlying69
  a51 := Tryz.isAgg69
  z51 := Tryz.sizeOf69
  v51 := Tryz.zeroValue69
  t59 := Tryz.underlying145
  a59 := Tryz.isAgg145
  z59 := Tryz.sizeOf145
  v59 := Tryz.zeroValue145
  t146 := Tryz.underlying191
  a146 := Tryz.isAgg191
  z146 := Tryz.sizeOf191
  v146 := Tryz.zeroValue191
  g1 := by kernel_rfl
  i3 := by kernel_rfl
  i4 := by kernel_rfl
  i5 := by kernel_rfl
  i9 := by kernel_rfl
  i46 := by kernel_rfl
  i51 := by kernel_rfl
  i59 := by kernel_rfl
  i146 := by kernel_rfl
  m1 := by kernel_rfl
  s1_3 := fun w h => Go.Proofs.cell_of_shapedOpen_int (zero := #[.int .i64 0]) (t := 3) h (of_decide_eq_true (by kernel_rfl)) (by kernel_rfl) rfl (by kernel_rfl) (by kernel_rfl) Tryz.underlying3 }
open Go.RowKit Go.Lib in
theorem Tryz.strings_Cut_shaped (s sep : ByteArray) (w : World) (h : w.ShapedOpen Tryz.prog) (hs : s.size < 4294967281) :
    Calls Tryz.prog 91 #[.string s, .string sep] w fun e w' => e = .returned (.tuple #[.string ⟨(Lib.cut s.data.toList sep.data.toList).1.toArray⟩, .string ⟨(Lib.cut s.data.toList sep.data.toList).2.1.toArray⟩, .bool (Lib.cut s.data.toList sep.data.toList).2.2]) ∧ ∃ n, w' = w.drewN n := Any.strings_Cut_shaped Tryz.laysM145 s sep w h hs
def Tryz.lays99_ren : Go.Shelf.Ren := ⟨fun | 99 => 94 | 206 => 115 | n => n, fun | 9 => 9 | 4 => 4 | 3 => 3 | n => n, fun | n => n⟩
theorem Tryz.lays99 : Go.Proofs.Lays.n99 Tryz.prog Tryz.lays99_ren := {
  mixed := by kernel_rfl
  f99 := Tryz.func94.trans (congrArg some (by kernel_rfl))
  f206 := Tryz.func115.trans (congrArg some (by kernel_rfl))
  t3 := Tryz.underlying3
  a3 := Tryz.isAgg3
  z3 := Tryz.sizeOf3
  v3 := Tryz.zeroValue3
  t4 := Tryz.underlying4
  a4 := Tryz.isAgg4
  z4 := Tryz.sizeOf4
  v4 := Tryz.zeroValue4
  t9 := Tryz.underlying9
  a9 := Tryz.isAgg9
  z9 := Tryz.sizeOf9
  v9 := Tryz.zeroValue9 }
open Go.RowKit Go.Lib in
theorem Tryz.strings_HasPrefix (s p : ByteArray) (w : World) :
    Calls Tryz.prog 94 #[.string s, .string p] w fun e w' => e = .returned (.bool (Lib.hasPrefix s.data.toList p.data.toList)) ∧ w' = w := Any.strings_HasPrefix Tryz.lays99 s p w
def Tryz.laysM146_ren : Go.Shelf.Ren := ⟨fun | 146 => 93 | 221 => 114 | 268 => 126 | 138 => 127 | 143 => 128 | 195 => 140 | 197 => 141 | 218 => 142 | 219 => 122 | 260 => 152 | 217 => 130 | 225 => 131 | 224 => 132 | 267 => 133 | 266 => 143 | 314 => 144 | n => n, fun | 9 => 9 | 31 => 28 | 3 => 3 | 4 => 4 | 0 => 0 | 105 => 189 | 21 => 21 | 5 => 5 | 46 => 97 | 119 => 210 | 139 => 213 | 138 => 212 | 146 => 191 | 51 => 69 | n => n, fun | 1 => 0 | 3 => 4 | 4 => 5 | n => n⟩
theorem Tryz.laysM146 : Go.Proofs.LaysM.n146 Tryz.prog Tryz.laysM146_ren := {
  mixed := by kernel_rfl
  f138 := Tryz.func127.trans (congrArg some (by kernel_rfl))
  f143 := Tryz.func128.trans (congrArg some (by kernel_rfl))
  f146 := Tryz.func93.trans (congrArg some (by kernel_rfl))
  f195 := Tryz.func140.trans (congrArg some (by kernel_rfl))
  f197 := Tryz.func141.trans (congrArg some (by kernel_rfl))
  f217 := Tryz.func130.trans (congrArg some (by kernel_rfl))
  f218 := Tryz.func142.trans (congrArg some (by kernel_rfl))
  f219 := Tryz.func122.trans (congrArg some (by kernel_rfl))
  f221 := Tryz.func114.trans (congrArg some (by kernel_rfl))
  f224 := Tryz.func132.trans (congrArg some (by kernel_rfl))
  f225 := Tryz.func131.trans (congrArg some (by kernel_rfl))
  f260 := Tryz.func152.trans (congrArg some (by kernel_rfl))
  f266 := Tryz.func143.trans (congrArg some (by kernel_rfl))
  f267 := Tryz.func133.trans (congrArg some (by kernel_rfl))
  f268 := Tryz.func126.trans (congrArg some (by kernel_rfl))
  f314 := Tryz.func144.trans (congrArg some (by kernel_rfl))
  t0 := Tryz.underlying0
  a0 := Tryz.isAgg0
  z0 := Tryz.sizeOf0
  v0 := Tryz.zeroValue0
  t3 := Tryz.underlying3
  a3 := Tryz.isAgg3
  z3 := Tryz.sizeOf3
  v3 := Tryz.zeroValue3
  t4 := Tryz.underlying4
  a4 := Tryz.isAgg4
  z4 := Tryz.sizeOf4
  v4 := Tryz.zeroValue4
  t5 := Tryz.underlying5
  a5 := Tryz.isAgg5
  z5 := Tryz.sizeOf5
  v5 := Tryz.zeroValue5
  t9 := Tryz.underlying9
  a9 := Tryz.isAgg9
  z9 := Tryz.sizeOf9
  v9 := Tryz.zeroValue9
  t21 := Tryz.underlying21
  a21 := Tryz.isAgg21
  z21 := Tryz.sizeOf21
  v21 := Tryz.zeroValue21
  t31 := Tryz.underlying28
  a31 := Tryz.isAgg28
  z31 := Tryz.sizeOf28
  v31 := Tryz.zeroValue28
  t46 := Tryz.underlying97
  a46 := Tryz.isAgg97
  z46 := Tryz.sizeOf97
  v46 := Tryz.zeroValue97
  t51 := Tryz.underlying69
  a51 := Tryz.isAgg69
  z51 := Tryz.sizeOf69
  v51 := Tryz.zeroValue69
  t105 := Tryz.underlying189
  a105 := Tryz.isAgg189
  z105 := Tryz.sizeOf189
  v105 := Tryz.zeroValue189
  t119 := Tryz.underlying210
  a119 := Tryz.isAgg210
  z119 := Tryz.sizeOf210
  t138 := Tryz.underlying212
  a138 := Tryz.isAgg212
  z138 := Tryz.sizeOf212
  v138 := Tryz.zeroValue212
  t139 := Tryz.underlying213
  a139 := Tryz.isAgg213
  z139 := Tryz.sizeOf213
  v139 := Tryz.zeroValue213
  t146 := Tryz.underlying191
  a146 := Tryz.isAgg191
  z146 := Tryz.sizeOf191
  v146 := Tryz.zeroValue191
  g1 := by kernel_rfl
  g3 := by kernel_rfl
  g4 := by kernel_rfl
  i0 := by kernel_rfl
  i3 := by kernel_rfl
  i4 := by kernel_rfl
  i5 := by kernel_rfl
  i9 := by kernel_rfl
  i21 := by kernel_rfl
  i31 := by kernel_rfl
  i46 := by kernel_rfl
  i51 := by kernel_rfl
  i105 := by kernel_rfl
  i138 := by kernel_rfl
  i139 := by kernel_rfl
  i146 := by kernel_rfl
  m1 := by kernel_rfl
  s1_3 := fun w h => Go.Proofs.cell_of_shapedOpen_int (zero := #[.int .i64 0]) (t := 3) h (of_decide_eq_true (by kernel_rfl)) (by kernel_rfl) rfl (by kernel_rfl) (by kernel_rfl) Tryz.underlying3
  m3 := by kernel_rfl
  m4 := by kernel_rfl }
open Go.RowKit Go.Lib in
theorem Tryz.strings_Split_shaped (s sep : ByteArray) (w : World) (h : w.ShapedOpen Tryz.prog) (hs : s.size < 4294967281) (h1 : 1 ≤ sep.size) :
    Calls Tryz.prog 93 #[.string s, .string sep] w fun e w' =>
      e = .returned (.slice (some ⟨w.heap.size, 0, none⟩) (Lib.countB s sep + 1) (Lib.countB s sep + 1)) ∧ w' = w.alloc (.cells ((Lib.splitB sep 0 (Lib.countB s sep) s).map Value.string).toArray 9) := Any.strings_Split_shaped Tryz.laysM146 s sep w h hs h1
def Tryz.lays110_ren : Go.Shelf.Ren := ⟨fun | 110 => 63 | 109 => 84 | n => n, fun | 31 => 28 | 9 => 9 | 4 => 4 | 3 => 3 | 0 => 0 | n => n, fun | n => n⟩
theorem Tryz.lays110 : Go.Proofs.Lays.n110 Tryz.prog Tryz.lays110_ren := {
  mixed := by kernel_rfl
  f109 := Tryz.func84.trans (congrArg some (by kernel_rfl))
  f110 := Tryz.func63.trans (congrArg some (by kernel_rfl))
  t0 := Tryz.underlying0
  a0 := Tryz.isAgg0
  z0 := Tryz.sizeOf0
  v0 := Tryz.zeroValue0
  t3 := Tryz.underlying3
  a3 := Tryz.isAgg3
  z3 := Tryz.sizeOf3
  v3 := Tryz.zeroValue3
  t4 := Tryz.underlying4
  a4 := Tryz.isAgg4
  z4 := Tryz.sizeOf4
  v4 := Tryz.zeroValue4
  t9 := Tryz.underlying9
  a9 := Tryz.isAgg9
  z9 := Tryz.sizeOf9
  v9 := Tryz.zeroValue9
  t31 := Tryz.underlying28
  a31 := Tryz.isAgg28
  z31 := Tryz.sizeOf28
  v31 := Tryz.zeroValue28 }
open Go.Lib in
theorem Tryz.slices_Contains_string (b off n c : Nat) (zs : List ByteArray) (x : ByteArray) (w : World) (hz : n ≤ zs.length) (hbig : n ≤ 9223372036854775807) (hc : ∀ j, j < zs.length → w.cell? ⟨b, off + j, none⟩ = some (.string (zs.getD j ByteArray.empty))) :
    Calls Tryz.prog 63 #[.slice (some ⟨b, off, none⟩) n c, .string x] w fun e w' => e = .returned (.bool (Lib.containsS (zs.take n) x)) ∧ w' = w := Any.slices_Contains_string Tryz.lays110 b off n c zs x w hz hbig hc
open Go.Lib in
theorem Tryz.slices_Contains_string_empty (a : Option Addr) (c : Nat) (x : ByteArray) (w : World) :
    Calls Tryz.prog 63 #[.slice a 0 c, .string x] w fun e w' => e = .returned (.bool false) ∧ w' = w := Any.slices_Contains_string_empty Tryz.lays110 a c x w
def Tryz.lays194_ren : Go.Shelf.Ren := ⟨fun | 194 => 66 | n => n, fun | 31 => 28 | 9 => 9 | 3 => 3 | 4 => 4 | 0 => 0 | n => n, fun | n => n⟩
theorem Tryz.lays194 : Go.Proofs.Lays.n194 Tryz.prog Tryz.lays194_ren := {
  mixed := by kernel_rfl
  f194 := Tryz.func66.trans (congrArg some (by kernel_rfl))
  t0 := Tryz.underlying0
  a0 := Tryz.isAgg0
  z0 := Tryz.sizeOf0
  v0 := Tryz.zeroValue0
  t3 := Tryz.underlying3
  a3 := Tryz.isAgg3
  z3 := Tryz.sizeOf3
  v3 := Tryz.zeroValue3
  t4 := Tryz.underlying4
  a4 := Tryz.isAgg4
  z4 := Tryz.sizeOf4
  v4 := Tryz.zeroValue4
  t9 := Tryz.underlying9
  a9 := Tryz.isAgg9
  z9 := Tryz.sizeOf9
  v9 := Tryz.zeroValue9
  t31 := Tryz.underlying28
  a31 := Tryz.isAgg28
  z31 := Tryz.sizeOf28
  v31 := Tryz.zeroValue28 }
open Go.RowKit Go.Lib Go.Sort in
theorem Tryz.slices_Compact_string_empty (a : Option Addr) (cap : Nat) (w : World) :
    Calls Tryz.prog 66 #[.slice a 0 cap] w fun e w' => e = .returned (.slice a 0 cap) ∧ w' = w := Any.slices_Compact_string_empty Tryz.lays194 a cap w
open Go.RowKit Go.Lib Go.Sort in
theorem Tryz.slices_Compact_string_cells (b off n c : Nat) (Sx : Nat → ByteArray) (w : World) (hbig : n ≤ 9223372036854775807) (hcap : n ≤ c) (hc : ∀ i, i < n → w.cell? ⟨b, off + i, none⟩ = some (.string (Sx i))) (hf : ∀ j, j < n → w.frozen? ⟨b, off + j, none⟩ = false) :
    Calls Tryz.prog 66 #[.slice (some ⟨b, off, none⟩) n c] w fun e w' => e = .returned (.slice (some ⟨b, off, none⟩) (Lib.compact (Lib.strsOf Sx n)).length c) ∧ ∃ q, w' = (w.drewN q).setCells b off ((Lib.compact (Lib.strsOf Sx n) ++ List.replicate (n - (Lib.compact (Lib.strsOf Sx n)).length) []).map encStr) := Any.slices_Compact_string_cells Tryz.lays194 b off n c Sx w hbig hcap hc hf
def Tryz.laysSlE041_f41_ren : Go.Shelf.Ren := ⟨fun | 41 => 41 | n => n, fun | 22 => 28 | 23 => 9 | 4 => 4 | n => n, fun | n => n⟩
theorem Tryz.laysSlE041_f41 : Go.Proofs.SlLaysE0.n41 Tryz.prog Tryz.laysSlE041_f41_ren := {
  mixed := by kernel_rfl
  f41 := ⟨Tryz.f41.name, by decide, Tryz.func41.trans (congrArg some (by kernel_rfl))⟩
  t4 := Tryz.underlying4
  a4 := Tryz.isAgg4
  z4 := Tryz.sizeOf4
  v4 := Tryz.zeroValue4
  t22 := Tryz.underlying28
  a22 := Tryz.isAgg28
  z22 := Tryz.sizeOf28
  v22 := Tryz.zeroValue28 }
def Tryz.keys_base_Entry_ren : Go.Shelf.Ren := ⟨fun | 7 => 61 | 10 => 81 | n => n, fun | 23 => 40 | 26 => 9 | 3 => 37 | 28 => 113 | 0 => 0 | 27 => 112 | 33 => 80 | 4 => 4 | n => n, fun | n => n⟩
theorem Tryz.keys_base_Entry : Go.Proofs.SlLaysZ.n7 Tryz.prog Tryz.keys_base_Entry_ren := {
  mixed := by kernel_rfl
  f7 := ⟨Tryz.f61.name, by decide, Tryz.func61.trans (congrArg some (by kernel_rfl))⟩
  f10 := ⟨Tryz.f81.name, by decide, Tryz.func81.trans (congrArg some (by kernel_rfl))⟩
  t0 := Tryz.underlying0
  a0 := Tryz.isAgg0
  z0 := Tryz.sizeOf0
  v0 := Tryz.zeroValue0
  t4 := Tryz.underlying4
  a4 := Tryz.isAgg4
  z4 := Tryz.sizeOf4
  v4 := Tryz.zeroValue4
  t23 := Tryz.underlying40
  a23 := Tryz.isAgg40
  z23 := Tryz.sizeOf40
  v23 := Tryz.zeroValue40
  t26 := Tryz.underlying9
  a26 := Tryz.isAgg9
  z26 := Tryz.sizeOf9
  v26 := Tryz.zeroValue9
  t27 := Tryz.underlying112
  a27 := Tryz.isAgg112
  z27 := Tryz.sizeOf112
  v27 := Tryz.zeroValue112
  t28 := Tryz.underlying113
  a28 := Tryz.isAgg113
  z28 := Tryz.sizeOf113
  v28 := Tryz.zeroValue113
  t33 := Tryz.underlying80
  a33 := Tryz.isAgg80
  z33 := Tryz.sizeOf80
  v33 := Tryz.zeroValue80 }
def Tryz.clone_arc_Need_ren : Go.Shelf.Ren := ⟨fun | 41 => 40 | n => n, fun | 22 => 27 | 23 => 68 | 4 => 4 | n => n, fun | n => n⟩
theorem Tryz.clone_arc_Need : Go.Proofs.SlLaysE0.n41 Tryz.prog Tryz.clone_arc_Need_ren := {
  mixed := by kernel_rfl
  f41 := ⟨Tryz.f40.name, by decide, Tryz.func40.trans (congrArg some (by kernel_rfl))⟩
  t4 := Tryz.underlying4
  a4 := Tryz.isAgg4
  z4 := Tryz.sizeOf4
  v4 := Tryz.zeroValue4
  t22 := Tryz.underlying27
  a22 := Tryz.isAgg27
  z22 := Tryz.sizeOf27
  v22 := Tryz.zeroValue27 }
def Tryz.clone_base_File_ren : Go.Shelf.Ren := ⟨fun | 41 => 59 | n => n, fun | 22 => 35 | 23 => 71 | 4 => 4 | n => n, fun | n => n⟩
theorem Tryz.clone_base_File : Go.Proofs.SlLaysE0.n41 Tryz.prog Tryz.clone_base_File_ren := {
  mixed := by kernel_rfl
  f41 := ⟨Tryz.f59.name, by decide, Tryz.func59.trans (congrArg some (by kernel_rfl))⟩
  t4 := Tryz.underlying4
  a4 := Tryz.isAgg4
  z4 := Tryz.sizeOf4
  v4 := Tryz.zeroValue4
  t22 := Tryz.underlying35
  a22 := Tryz.isAgg35
  z22 := Tryz.sizeOf35
  v22 := Tryz.zeroValue35 }
def Tryz.sort_string_ren : Go.Shelf.Ren := ⟨fun | 6 => 65 | 8 => 90 | 9 => 89 | 19 => 109 | 20 => 110 | 21 => 100 | 22 => 101 | 23 => 102 | 24 => 103 | 25 => 104 | 26 => 105 | 27 => 106 | 28 => 107 | 29 => 108 | 36 => 116 | 31 => 117 | 32 => 118 | 37 => 119 | 38 => 120 | 39 => 121 | 41 => 129 | n => n, fun | 27 => 28 | 29 => 9 | 3 => 3 | 32 => 97 | 26 => 28 | 0 => 0 | 44 => 69 | 46 => 163 | 4 => 4 | 36 => 156 | 35 => 155 | 41 => 147 | 5 => 5 | 9 => 9 | 53 => 169 | 57 => 173 | 63 => 177 | 64 => 178 | n => n, fun | n => n⟩
theorem Tryz.sort_string : Go.Proofs.SlLaysM.n6 Tryz.prog Tryz.sort_string_ren := {
  mixed := by kernel_rfl
  f6 := ⟨Tryz.f65.name, by decide, Tryz.func65.trans (congrArg some (by kernel_rfl))⟩
  f8 := Tryz.func90.trans (congrArg some (by kernel_rfl))
  f9 := ⟨Tryz.f89.name, by decide, Tryz.func89.trans (congrArg some (by kernel_rfl))⟩
  f19 := Tryz.func109.trans (congrArg some (by kernel_rfl))
  f20 := Tryz.func110.trans (congrArg some (by kernel_rfl))
  f21 := ⟨Tryz.f100.name, by decide, Tryz.func100.trans (congrArg some (by kernel_rfl))⟩
  f22 := ⟨Tryz.f101.name, by decide, Tryz.func101.trans (congrArg some (by kernel_rfl))⟩
  f23 := ⟨Tryz.f102.name, by decide, Tryz.func102.trans (congrArg some (by kernel_rfl))⟩
  f24 := ⟨Tryz.f103.name, by decide, Tryz.func103.trans (congrArg some (by kernel_rfl))⟩
  f25 := ⟨Tryz.f104.name, by decide, Tryz.func104.trans (congrArg some (by kernel_rfl))⟩
  f26 := ⟨Tryz.f105.name, by decide, Tryz.func105.trans (congrArg some (by kernel_rfl))⟩
  f27 := ⟨Tryz.f106.name, by decide, Tryz.func106.trans (congrArg some (by kernel_rfl))⟩
  f28 := ⟨Tryz.f107.name, by decide, Tryz.func107.trans (congrArg some (by kernel_rfl))⟩
  f29 := ⟨Tryz.f108.name, by decide, Tryz.func108.trans (congrArg some (by kernel_rfl))⟩
  f31 := Tryz.func117.trans (congrArg some (by kernel_rfl))
  f32 := Tryz.func118.trans (congrArg some (by kernel_rfl))
  f36 := ⟨Tryz.f116.name, by decide, Tryz.func116.trans (congrArg some (by kernel_rfl))⟩
  f37 := ⟨Tryz.f119.name, by decide, Tryz.func119.trans (congrArg some (by kernel_rfl))⟩
  f38 := ⟨Tryz.f120.name, by decide, Tryz.func120.trans (congrArg some (by kernel_rfl))⟩
  f39 := ⟨Tryz.f121.name, by decide, Tryz.func121.trans (congrArg some (by kernel_rfl))⟩
  f41 := ⟨Tryz.f129.name, by decide, Tryz.func129.trans (congrArg some (by kernel_rfl))⟩
  t0 := Tryz.underlying0
  a0 := Tryz.isAgg0
  z0 := Tryz.sizeOf0
  v0 := Tryz.zeroValue0
  t3 := Tryz.underlying3
  a3 := Tryz.isAgg3
  z3 := Tryz.sizeOf3
  v3 := Tryz.zeroValue3
  t4 := Tryz.underlying4
  a4 := Tryz.isAgg4
  z4 := Tryz.sizeOf4
  v4 := Tryz.zeroValue4
  t5 := Tryz.underlying5
  a5 := Tryz.isAgg5
  z5 := Tryz.sizeOf5
  v5 := Tryz.zeroValue5
  t9 := Tryz.underlying9
  a9 := Tryz.isAgg9
  z9 := Tryz.sizeOf9
  v9 := Tryz.zeroValue9
  t26 := Tryz.underlying28
  a26 := Tryz.isAgg28
  z26 := Tryz.sizeOf28
  v26 := Tryz.zeroValue28
  t27 := Tryz.underlying28
  a27 := Tryz.isAgg28
  z27 := Tryz.sizeOf28
  v27 := Tryz.zeroValue28
  t29 := Tryz.underlying9
  a29 := Tryz.isAgg9
  z29 := Tryz.sizeOf9
  v29 := Tryz.zeroValue9
  t32 := Tryz.underlying97
  a32 := Tryz.isAgg97
  z32 := Tryz.sizeOf97
  v32 := Tryz.zeroValue97
  t35 := Tryz.underlying155
  a35 := Tryz.isAgg155
  z35 := Tryz.sizeOf155
  v35 := Tryz.zeroValue155
  t36 := Tryz.underlying156
  a36 := Tryz.isAgg156
  z36 := Tryz.sizeOf156
  v36 := Tryz.zeroValue156
  t41 := Tryz.underlying147
  a41 := Tryz.isAgg147
  z41 := Tryz.sizeOf147
  v41 := Tryz.zeroValue147
  t44 := Tryz.underlying69
  a44 := Tryz.isAgg69
  z44 := Tryz.sizeOf69
  v44 := Tryz.zeroValue69
  t46 := Tryz.underlying163
  a46 := Tryz.isAgg163
  z46 := Tryz.sizeOf163
  v46 := Tryz.zeroValue163
  t53 := Tryz.underlying169
  a53 := Tryz.isAgg169
  z53 := Tryz.sizeOf169
  v53 := Tryz.zeroValue169
  t57 := Tryz.underlying173
  a57 := Tryz.isAgg173
  z57 := Tryz.sizeOf173
  v57 := Tryz.zeroValue173
  t63 := Tryz.underlying177
  a63 := Tryz.isAgg177
  z63 := Tryz.sizeOf177
  v63 := Tryz.zeroValue177
  t64 := Tryz.underlying178
  a64 := Tryz.isAgg178
  z64 := Tryz.sizeOf178
  v64 := Tryz.zeroValue178 }
def Tryz.sorted_string_ren : Go.Shelf.Ren := ⟨fun | 6 => 60 | 8 => 80 | 9 => 65 | 11 => 97 | 13 => 90 | 12 => 89 | 23 => 109 | 24 => 110 | 14 => 100 | 15 => 101 | 16 => 102 | 17 => 103 | 18 => 104 | 19 => 105 | 20 => 106 | 21 => 107 | 22 => 108 | 25 => 116 | 26 => 117 | 27 => 118 | 28 => 119 | 29 => 120 | 30 => 121 | 31 => 129 | n => n, fun | 26 => 9 | 28 => 113 | 24 => 28 | 0 => 0 | 3 => 3 | 37 => 97 | 48 => 69 | 50 => 163 | 4 => 4 | 40 => 156 | 39 => 155 | 45 => 147 | 5 => 5 | 9 => 9 | 51 => 169 | 55 => 173 | 57 => 177 | 58 => 178 | 33 => 80 | n => n, fun | n => n⟩
theorem Tryz.sorted_string : Go.Proofs.SlLaysZ.n6 Tryz.prog Tryz.sorted_string_ren := {
  mixed := by kernel_rfl
  f6 := ⟨Tryz.f60.name, by decide, Tryz.func60.trans (congrArg some (by kernel_rfl))⟩
  f8 := ⟨Tryz.f80.name, by decide, Tryz.func80.trans (congrArg some (by kernel_rfl))⟩
  f11 := ⟨Tryz.f97.name, by decide, Tryz.func97.trans (congrArg some (by kernel_rfl))⟩
  t0 := Tryz.underlying0
  a0 := Tryz.isAgg0
  z0 := Tryz.sizeOf0
  v0 := Tryz.zeroValue0
  t24 := Tryz.underlying28
  a24 := Tryz.isAgg28
  z24 := Tryz.sizeOf28
  v24 := Tryz.zeroValue28
  t26 := Tryz.underlying9
  a26 := Tryz.isAgg9
  z26 := Tryz.sizeOf9
  v26 := Tryz.zeroValue9
  t28 := Tryz.underlying113
  a28 := Tryz.isAgg113
  z28 := Tryz.sizeOf113
  v28 := Tryz.zeroValue113
  i26 := by kernel_rfl }
end Go.Proofs
namespace Go.Proofs.YtnclibfhbngkjaaGreatDoor
open Go.RowKit
/-- 'out = append(out, u)', out nil or the call's own. -/
theorem append_one {P : Program} {w : World} {ops : Array Oper} {rest : List Oper} {o : Oper} {a : Act} {Q : Exit → Act → World → Prop} (hgd : o.guard = none) (s x : Operand) (T : TypeId)
    (ho : o.op = .call { callee := .builtin .append, args := #[s, x], argTypes := #[T, T] })
    (E : TypeId) (z : Value) (bytes : Nat) (hT : P.underlying T = some (.slice E)) (hi : (P.info? E).map (fun i => (i.zero, i.size, i.bytes)) = some (some z, 1, bytes)) (hz1 : z.cells.size = 1)
    (base : Nat) (ad : Option Addr) (n cap : Nat) (xs : List Value) (hs : a.eval s = .slice ad n cap) (hown : w.ownsRow base E 1 (.slice ad n cap) n xs)
    (u : Value) (hu : u.oneCell' = true) (hx : a.eval x = .slice (some ⟨w.heap.size, 0, none⟩) 1 1)
    (h63 : n + 1 ≤ 1099511627776) (hbytes : bytes ≤ 128) (hbase : base ≤ w.heap.size)
    (h : ∀ g cap' w', w'.ownsRow base E 1 (.slice (some ⟨g, 0, none⟩) (n + 1) cap') (n + 1) (xs ++ [u]) → n + 1 ≤ cap' → Below base w w' → (w.alloc (.cells #[u] E)).grownBy w' (Value.slice ad n cap).ownBlock →
      wpList P ops Q rest (a.put o.dst (.slice (some ⟨g, 0, none⟩) (n + 1) cap')) w') :
    wpList P ops Q (o :: rest) a (w.alloc (.cells #[u] E)) := by
  obtain ⟨i, hi0, hz, hsz, hby⟩ := info_parts hi
  refine wpList_append_own _ hgd s x T ho base E i z 1 bytes hT hi0 hz hsz hby hz1 (by decide) _ n xs hs (hown.alloc _) ⟨w.heap.size, 0, none⟩ 1 1 [u] hx rfl ?_ ?_ ?_ ?_ ?_ ?_
  · intro j v hj
    match j, hj with
    | 0, hj => simp at hj; subst hj; simp [Addr.add]
  · intro v hv; simp at hv; subst hv; exact hu
  · unfold maxLen; omega
  · have : (n + 1) * bytes ≤ 1099511627776 * 128 := Nat.mul_le_mul h63 hbytes
    omega
  · simp; omega
  · intro v' w' hown' hg hnil
    rcases hown'.2 with ⟨h1, h2⟩ | ⟨g, cap', cur, rfl, hg1, hg2, hg3, _⟩
    · omega
    · refine h g cap' w' hown' hg3 ?_ hg
      exact ((Below.refl _ _).alloc hbase _).grown hg (by simp; omega) (fun k hk => ((hown.alloc (.cells #[u] E)).lt k hk).1)

/-- Texts that the call has gathered so far. -/
def OwnS (w : World) (base : Nat) (a : Option Addr) (cap : Nat) (D : List (List UInt8)) : Prop := w.ownsRow base 9 1 (.slice a D.length cap) D.length (D.map fun p => .string (bs p))
theorem OwnS.strs {w : World} {base : Nat} {a : Option Addr} {cap : Nat} {D : List (List UInt8)} (h : OwnS w base a cap D) : Strs w a D ∧ D.length ≤ cap := by
  rcases h.2 with ⟨h1, h2⟩ | ⟨g, c, cur, h1, _, hg, hn, _⟩
  · have : D = [] := List.eq_nil_of_length_eq_zero h2
    subst this; exact ⟨Strs.nil _ _, Nat.zero_le _⟩
  · simp only [Value.slice.injEq] at h1
    obtain ⟨rfl, _, rfl⟩ := h1
    refine ⟨Or.inr ⟨g, 0, rfl, (Array.getElem?_eq_some_iff.1 hg).1, fun i hi => ?_⟩, hn⟩
    rw [Nat.zero_add, World.ownsRow.cellAt h i (by omega)]
    simp [hi]
theorem OwnS.nil (w : World) (base : Nat) : OwnS w base none 0 [] := World.ownsRow_nil _ _ _ _
theorem OwnS.ext {w w' : World} {base : Nat} {a : Option Addr} {cap : Nat} {D : List (List UInt8)} (h : OwnS w base a cap D) (k : Ext w w') : OwnS w' base a cap D := by
  refine ⟨h.1, ?_⟩
  rcases h.2 with h1 | ⟨g, c, cur, h1, hb, hg, r⟩
  · exact Or.inl h1
  · exact Or.inr ⟨g, c, cur, h1, hb, k.heap hg, r⟩
theorem info_string : (Tryz.prog.info? 9).map (fun i => (i.zero, i.size, i.bytes)) = some (some (.string ⟨#[]⟩), 1, 16) := by kernel_rfl
/-- 'out = append(out, text)'. -/
theorem append_text {w : World} {ops : Array Oper} {rest : List Oper} {o : Oper} {a : Act} {Q : Exit → Act → World → Prop} (hgd : o.guard = none) (s x : Operand)
    (ho : o.op = .call { callee := .builtin .append, args := #[s, x], argTypes := #[28, 28] })
    (base : Nat) (ad : Option Addr) (cap : Nat) (D : List (List UInt8)) (p : List UInt8) (hs : a.eval s = .slice ad D.length cap) (hown : OwnS w base ad cap D)
    (hx : a.eval x = .slice (some ⟨w.heap.size, 0, none⟩) 1 1)
    (h63 : D.length + 1 ≤ 1099511627776) (hbase : base ≤ w.heap.size)
    (h : ∀ g cap' w', OwnS w' base (some ⟨g, 0, none⟩) cap' (D ++ [p]) → Below base w w' →
      wpList Tryz.prog ops Q rest (a.put o.dst (.slice (some ⟨g, 0, none⟩) (D.length + 1) cap')) w') :
    wpList Tryz.prog ops Q (o :: rest) a (w.alloc (.cells #[.string (bs p)] 9)) := by
  refine append_one hgd s x _ ho 9 (.string ⟨#[]⟩) 16 Tryz.underlying28 info_string rfl base ad D.length cap _ hs hown (.string (bs p)) rfl hx h63 (by decide) hbase ?_
  intro g cap' w' hown' hcap hb _
  refine h g cap' w' ?_ hb
  unfold OwnS
  simp only [List.length_append, List.length_cons, List.length_nil, List.map_append, List.map_cons, List.map_nil]
  exact hown'
end Go.Proofs.YtnclibfhbngkjaaGreatDoor
namespace Go.Proofs.YtnclibfhbngkjaaGreatDoor
open Go.RowKit
theorem Ext.var {w w' : World} (h : Ext w w') {P : Program} {n : String} {cs : Array Value} (hv : w.var? P n = some cs) : w'.var? P n = some cs := by
  unfold World.var? at hv ⊢
  cases hg : P.globalNamed n with
  | none => rw [hg] at hv; cases hv
  | some g =>
    rw [hg] at hv
    simp only [Option.bind_some] at hv ⊢
    cases ho : w.heap[g]? with
    | none => rw [ho] at hv; cases hv
    | some o => rw [h.heap ho]; rw [ho] at hv; exact hv
structure EnvN (w : World) : Prop where
  env : Env w
  pow : Lib.TabIs Tryz.prog w "internal/strconv.uint64pow10" .u64 Lib.pow10Tab
  one : ∃ t p, w.var? Tryz.prog "strconv.ErrSyntax" = some #[.iface t p]
  two : ∃ t p, w.var? Tryz.prog "strconv.ErrRange" = some #[.iface t p]
theorem EnvN.ext {w w' : World} (h : EnvN w) (k : Ext w w') : EnvN w' := by
  obtain ⟨t1, p1, h1⟩ := h.one
  obtain ⟨t2, p2, h2⟩ := h.two
  exact ⟨h.env.ext k, k.var h.pow, ⟨t1, p1, k.var h1⟩, ⟨t2, p2, k.var h2⟩⟩
theorem ext_grow (w : World) (k : Nat) (os : Array Obj) : Ext w (Go.Sort.grow (w.drewN k) os) := by
  refine ⟨rfl, rfl, rfl, by simp [Go.Sort.grow, World.drewN], fun j hj => ?_⟩
  show (w.heap ++ os)[j]? = _
  rw [Array.getElem?_append_left hj]
/-- strconv.Itoa. -/
theorem itoa_any (n : Int) (h0 : 0 ≤ n) (h1 : n ≤ 9223372036854775807) (w : World) (hE : EnvN w) :
    Calls Tryz.prog 113 #[.int .i64 n] w fun e w' => e = .returned (.string (bs (Lib.itoa n))) ∧ Ext w w' := by
  refine (Tryz.strconv_Itoa n (by omega) h1 w hE.pow).mono ?_
  rintro e w' ⟨rfl, k, os, rfl⟩
  exact ⟨rfl, ext_grow _ _ _⟩
/-- strconv.Atoi of a numeral. -/
theorem atoi_ok (s : ByteArray) (hs : s.size ≤ 1000000) (v : Int) (h : Lib.atoiAll s.data.toList = .ok v) (w : World) :
    Calls Tryz.prog 112 #[.string s] w fun e w' => e = .returned (.tuple #[.int .i64 v, .nilIface]) ∧ Ext w w' := by
  refine (Tryz.strconv_Atoi_ok s (by omega) v h w).mono ?_
  rintro e w' ⟨rfl, rfl | ⟨t, rfl⟩⟩
  · exact ⟨rfl, Ext.refl _⟩
  · exact ⟨rfl, Lib.bytesWorld_below _ _ _⟩
/-- strconv.Atoi of what is none. -/
theorem atoi_not (s : ByteArray) (hs : s.size ≤ 1000000) (h : ∀ v, Lib.atoiAll s.data.toList ≠ .ok v) (w : World) (hE : EnvN w) :
    Calls Tryz.prog 112 #[.string s] w fun e w' => ∃ v t p, e = .returned (.tuple #[.int .i64 v, .iface t p]) ∧ Ext w w' := by
  obtain ⟨t1, p1, h1⟩ := hE.one
  obtain ⟨t2, p2, h2⟩ := hE.two
  cases hh : Lib.atoiAll s.data.toList with
  | ok v => exact absurd hh (h v)
  | range =>
    refine (Go.Proofs.Any.strconv_Atoi_range_var Tryz.laysC172 s (by omega) hh t2 p2 w h2).mono ?_
    rintro e w' ⟨N, rfl, _, _, hb⟩
    exact ⟨_, _, _, rfl, hb⟩
  | _ =>
    refine (Go.Proofs.Any.strconv_Atoi_syntax_var Tryz.laysC172 s (by omega) hh t1 p1 w h1).mono ?_
    rintro e w' ⟨N, rfl, _, _, hb⟩
    exact ⟨_, _, _, rfl, hb⟩

/-- Numbers as a slice's cells. -/
def Nums (w : World) (a : Option Addr) (X : List Nat) : Prop :=
  X = [] ∨ ∃ g off, a = some ⟨g, off, none⟩ ∧ g < w.heap.size ∧ ∀ i, i < X.length → w.cell? ⟨g, off + i, none⟩ = some (.int .i64 (X.getD i 0 : Nat))
theorem Nums.ext {w w' : World} {a : Option Addr} {X : List Nat} (h : Nums w a X) (k : Ext w w') : Nums w' a X := by
  rcases h with h | ⟨g, off, ha, hg, hc⟩
  · exact Or.inl h
  · exact Or.inr ⟨g, off, ha, Nat.lt_of_lt_of_le hg k.size, fun i hi => k.cell (hc i hi)⟩
theorem Nums.at {w : World} {a : Option Addr} {X : List Nat} (h : Nums w a X) (hL : X ≠ []) :
    ∃ g off, a = some ⟨g, off, none⟩ ∧ g < w.heap.size ∧ ∀ i, i < X.length → w.cell? ⟨g, off + i, none⟩ = some (.int .i64 (X.getD i 0 : Nat)) :=
  h.resolve_left hL
/-- Numbers that the call has gathered so far. -/
def OwnN (w : World) (base : Nat) (a : Option Addr) (cap : Nat) (D : List Nat) : Prop := w.ownsRow base 3 1 (.slice a D.length cap) D.length (D.map fun (p : Nat) => .int .i64 (p : Int))
theorem OwnN.nums {w : World} {base : Nat} {a : Option Addr} {cap : Nat} {D : List Nat} (h : OwnN w base a cap D) : Nums w a D ∧ D.length ≤ cap := by
  rcases h.2 with ⟨h1, h2⟩ | ⟨g, c, cur, h1, _, hg, hn, _⟩
  · have : D = [] := List.eq_nil_of_length_eq_zero h2
    subst this; exact ⟨Or.inl rfl, Nat.zero_le _⟩
  · simp only [Value.slice.injEq] at h1
    obtain ⟨rfl, _, rfl⟩ := h1
    refine ⟨Or.inr ⟨g, 0, rfl, (Array.getElem?_eq_some_iff.1 hg).1, fun i hi => ?_⟩, hn⟩
    rw [Nat.zero_add, World.ownsRow.cellAt h i (by omega)]
    simp [hi]
theorem OwnN.nil (w : World) (base : Nat) : OwnN w base none 0 [] := World.ownsRow_nil _ _ _ _
theorem OwnN.ext {w w' : World} {base : Nat} {a : Option Addr} {cap : Nat} {D : List Nat} (h : OwnN w base a cap D) (k : Ext w w') : OwnN w' base a cap D := by
  refine ⟨h.1, ?_⟩
  rcases h.2 with h1 | ⟨g, c, cur, h1, hb, hg, r⟩
  · exact Or.inl h1
  · exact Or.inr ⟨g, c, cur, h1, hb, k.heap hg, r⟩
theorem info_int : (Tryz.prog.info? 3).map (fun i => (i.zero, i.size, i.bytes)) = some (some (.int .i64 0), 1, 8) := by kernel_rfl
/-- 'out = append(out, number)'. -/
theorem append_num {w : World} {ops : Array Oper} {rest : List Oper} {o : Oper} {a : Act} {Q : Exit → Act → World → Prop} (hgd : o.guard = none) (s x : Operand)
    (ho : o.op = .call { callee := .builtin .append, args := #[s, x], argTypes := #[120, 120] })
    (base : Nat) (ad : Option Addr) (cap : Nat) (D : List Nat) (p : Nat) (hs : a.eval s = .slice ad D.length cap) (hown : OwnN w base ad cap D)
    (hx : a.eval x = .slice (some ⟨w.heap.size, 0, none⟩) 1 1)
    (h63 : D.length + 1 ≤ 1099511627776) (hbase : base ≤ w.heap.size)
    (h : ∀ g cap' w', OwnN w' base (some ⟨g, 0, none⟩) cap' (D ++ [p]) → Below base w w' →
      wpList Tryz.prog ops Q rest (a.put o.dst (.slice (some ⟨g, 0, none⟩) (D.length + 1) cap')) w') :
    wpList Tryz.prog ops Q (o :: rest) a (w.alloc (.cells #[.int .i64 (p : Int)] 3)) := by
  refine append_one hgd s x _ ho 3 (.int .i64 0) 8 Tryz.underlying120 info_int rfl base ad D.length cap _ hs hown (.int .i64 (p : Int)) rfl hx h63 (by decide) hbase ?_
  intro g cap' w' hown' hcap hb _
  refine h g cap' w' ?_ hb
  unfold OwnN
  simp only [List.length_append, List.length_cons, List.length_nil, List.map_append, List.map_cons, List.map_nil]
  exact hown'
end Go.Proofs.YtnclibfhbngkjaaGreatDoor
namespace Go.Proofs.YtnclibfhbngkjaaGreatDoor
open Go.RowKit
theorem star_err : "*" ++ "errors.errorString" = "*errors.errorString" := by decide
theorem row_err (u : TypeId) (h : Tryz.prog.typeName? 3 u = some "*errors.errorString") : u = 205 :=
  typeName_ptr_named (nm := "errors.errorString") (by rw [star_err]; kernel_rfl) (by kernel_rfl) (by decide) u (by rw [star_err]; exact h)
/-- The row's list. -/
def listN : List (String × DataW Unit) := [("math/bits.deBruijn32tab", Rows.laid_math_bits_deBruijn32tab), ("math/bits.deBruijn64tab", Rows.laid_math_bits_deBruijn64tab), ("internal/strconv.uint64pow10", Rows.laid_internal_strconv_uint64pow10), ("unicode/utf8.acceptRanges", Rows.laid_unicode_utf8_acceptRanges), ("strconv.ErrRange", Rows.laid_strconv_ErrRange), ("strconv.ErrSyntax", Rows.laid_strconv_ErrSyntax), ("unicode/utf8.first", Rows.laid_unicode_utf8_first)]
theorem envN_of {W : World} (hL : laidMet Tryz.prog listN W) (hs : W.ShapedOpen Tryz.prog) : EnvN W := by
  have h2 := hL.tail.tail
  have h4 := h2.tail.tail
  have h5 := h4.tail
  obtain ⟨a0, t0, hv0, _⟩ := laid_sentinel (g := 2) h4 (by kernel_rfl) (by kernel_rfl) Tryz.underlying165 row_err Tryz.underlying205 Tryz.underlying207 rfl rfl Tryz.underlying9 (by kernel_rfl) (by kernel_rfl)
  obtain ⟨a1, t1, hv1, _⟩ := laid_sentinel (g := 1) h5 (by kernel_rfl) (by kernel_rfl) Tryz.underlying165 row_err Tryz.underlying205 Tryz.underlying207 rfl rfl Tryz.underlying9 (by kernel_rfl) (by kernel_rfl)
  exact ⟨⟨hs⟩, Lib.tabIs_of_head (g := 3) (by kernel_rfl) (by kernel_rfl) Tryz.underlying208 Tryz.underlying163 (by kernel_rfl) (by kernel_rfl) h2, ⟨_, _, hv1⟩, ⟨_, _, hv0⟩⟩
def ofData : DataW Unit → Array Value
  | .agg ds => (ds.map fun | .lit (.int k z) => Value.int k z | _ => Value.bool false).toArray
  | _ => #[]
noncomputable def laidNum (os : Os) : World :=
  let N := (World.settled Tryz.prog os).heap.size
  let w0 := World.holding Tryz.prog os ⟨#[
    .cells #[.string ⟨#[118, 97, 108, 117, 101, 32, 111, 117, 116, 32, 111, 102, 32, 114, 97, 110, 103, 101]⟩] 207,
    .cells #[.string ⟨#[105, 110, 118, 97, 108, 105, 100, 32, 115, 121, 110, 116, 97, 120]⟩] 207], #[], []⟩
  let w1 := layCells w0 2 #[.iface 205 (.pointer (some ⟨N, 0, none⟩))]
  let w2 := layCells w1 1 #[.iface 205 (.pointer (some ⟨N + 1, 0, none⟩))]
  let w3 := layCells w2 3 (ofData Rows.laid_internal_strconv_uint64pow10)
  let w4 := layCells w3 6 (ofData Rows.laid_math_bits_deBruijn32tab)
  let w5 := layCells w4 7 (ofData Rows.laid_math_bits_deBruijn64tab)
  layCells (layCells w5 4 cellsFirst) 5 cellsRanges
end Go.Proofs.YtnclibfhbngkjaaGreatDoor
namespace Go.Proofs.YtnclibfhbngkjaaGreatDoor
/-- What a reader has left, and whether something was bad. -/
abbrev RSt := List UInt8 × Bool
def byteAt (l : List UInt8) (i : Nat) : Nat := (l.getD i 0).toNat
def le32 (l : List UInt8) : Nat := byteAt l 0 + 256 * byteAt l 1 + 65536 * byteAt l 2 + 16777216 * byteAt l 3
def num4 (n : Nat) : List UInt8 := [UInt8.ofNat n, UInt8.ofNat (n / 256), UInt8.ofNat (n / 65536), UInt8.ofNat (n / 16777216)]
theorem num4_len (n : Nat) : (num4 n).length = 4 := rfl
theorem le32_lt (l : List UInt8) : le32 l < 4294967296 := by
  unfold le32 byteAt
  have h0 := (l.getD 0 0).toNat_lt
  have h1 := (l.getD 1 0).toNat_lt
  have h2 := (l.getD 2 0).toNat_lt
  have h3 := (l.getD 3 0).toNat_lt
  omega
theorem u8_ofNat_eq {n : Nat} {b : UInt8} (h : n % 256 = b.toNat) : UInt8.ofNat n = b := by
  apply UInt8.toNat_inj.1
  rw [UInt8.toNat_ofNat']
  exact h
theorem num4_le32 {l : List UInt8} (h : 4 ≤ l.length) : num4 (le32 l) ++ l.drop 4 = l := by
  match l, h with
  | a :: b :: c :: d :: r, _ =>
    have ha := a.toNat_lt
    have hb := b.toNat_lt
    have hc := c.toNat_lt
    have hd := d.toNat_lt
    have e : le32 (a :: b :: c :: d :: r) = a.toNat + 256 * b.toNat + 65536 * c.toNat + 16777216 * d.toNat := rfl
    have e0 : UInt8.ofNat (le32 (a :: b :: c :: d :: r)) = a := u8_ofNat_eq (by rw [e]; omega)
    have e1 : UInt8.ofNat (le32 (a :: b :: c :: d :: r) / 256) = b := u8_ofNat_eq (by rw [e]; omega)
    have e2 : UInt8.ofNat (le32 (a :: b :: c :: d :: r) / 65536) = c := u8_ofNat_eq (by rw [e]; omega)
    have e3 : UInt8.ofNat (le32 (a :: b :: c :: d :: r) / 16777216) = d := u8_ofNat_eq (by rw [e]; omega)
    unfold num4
    rw [e0, e1, e2, e3]
    rfl
/-- A number up to a bound. -/
def rNum (most : Nat) (s : RSt) : Nat × RSt :=
  if s.1.length < 4 then (0, ([], true)) else
  if most < le32 s.1 then (0, ([], true)) else (le32 s.1, (s.1.drop 4, s.2))
/-- Bytes up to a bound. -/
def rRaw (most : Nat) (s : RSt) : List UInt8 × RSt :=
  if (rNum most s).2.1.length < (rNum most s).1 then ([], ([], true))
  else ((rNum most s).2.1.take (rNum most s).1, ((rNum most s).2.1.drop (rNum most s).1, (rNum most s).2.2))
/-- A list: its own reader, and what is left. -/
def rList (s : RSt) : RSt × RSt := (((rRaw 16777216 s).1, (rRaw 16777216 s).2.2), (rRaw 16777216 s).2)
def raw4 (l : List UInt8) : List UInt8 := num4 l.length ++ l
theorem rNum_good {most : Nat} {s : RSt} {n : Nat} {l : List UInt8} (h : rNum most s = (n, (l, false))) : s.2 = false ∧ s.1 = num4 n ++ l ∧ n ≤ most ∧ n < 4294967296 := by
  unfold rNum at h
  split at h
  · simp at h
  · split at h
    · simp at h
    · simp only [Prod.mk.injEq] at h
      obtain ⟨h1, h2, h3⟩ := h
      subst h1 h2
      exact ⟨h3, (num4_le32 (by omega)).symm, by omega, le32_lt _⟩
theorem rRaw_good {most : Nat} {s : RSt} {p l : List UInt8} (h : rRaw most s = (p, (l, false))) : s.2 = false ∧ s.1 = raw4 p ++ l ∧ p.length ≤ most := by
  unfold rRaw at h
  split at h
  · simp at h
  · rename_i hlt
    simp only [Prod.mk.injEq] at h
    obtain ⟨h1, h2, h3⟩ := h
    have hn : rNum most s = ((rNum most s).1, ((rNum most s).2.1, false)) := by rw [← h3]
    obtain ⟨g1, g2, g3, _⟩ := rNum_good hn
    have hl : p.length = (rNum most s).1 := by rw [← h1, List.length_take]; omega
    refine ⟨g1, ?_, by omega⟩
    rw [g2, raw4, hl, List.append_assoc, ← h1, ← h2, List.take_append_drop]
theorem rList_good {s a b : RSt} (h : rList s = (a, b)) (ha : a.2 = false) : s.2 = false ∧ s.1 = raw4 a.1 ++ b.1 ∧ b.2 = false := by
  obtain ⟨m, e⟩ := a
  simp only at ha
  subst ha
  unfold rList at h
  simp only [Prod.mk.injEq] at h
  obtain ⟨h1, h2⟩ := h
  have hr : rRaw 16777216 s = (m, (b.1, false)) := by rw [← h1.1, ← h2, ← h1.2]
  obtain ⟨g1, g2, _⟩ := rRaw_good hr
  exact ⟨g1, g2, by rw [← h2, h1.2]⟩
theorem rNum_len (most : Nat) (s : RSt) : (rNum most s).2.1.length ≤ s.1.length := by
  unfold rNum; split
  · simp
  · split <;> simp
theorem rNum_less {most : Nat} {s : RSt} (h : 0 < s.1.length) : (rNum most s).2.1.length < s.1.length := by
  unfold rNum; split
  · simpa using h
  · split
    · simpa using h
    · simp; omega
theorem rRaw_len (most : Nat) (s : RSt) : (rRaw most s).2.1.length ≤ s.1.length ∧ (rRaw most s).1.length ≤ s.1.length := by
  have := rNum_len most s
  unfold rRaw; split
  · simp
  · simp; omega
theorem rRaw_less {most : Nat} {s : RSt} (h : 0 < s.1.length) : (rRaw most s).2.1.length < s.1.length := by
  have := rNum_less (most := most) h
  unfold rRaw; split
  · simpa using h
  · simp; omega
theorem rNum_le (most : Nat) (s : RSt) : (rNum most s).1 ≤ most := by
  unfold rNum; split
  · simp
  · split
    · simp
    · simp; omega
/-- Nothing is left, and nothing was bad. -/
def rDone (s : RSt) : Bool := !s.2 && decide (s.1.length = 0)
theorem rDone_of {s : RSt} (h : rDone s = true) : s = ([], false) := by
  obtain ⟨l, b⟩ := s
  unfold rDone at h
  simp only [Bool.and_eq_true, Bool.not_eq_true', decide_eq_true_eq] at h
  obtain ⟨rfl, h⟩ := h
  rw [List.eq_nil_of_length_eq_zero h]
end Go.Proofs.YtnclibfhbngkjaaGreatDoor
namespace Go.Proofs.YtnclibfhbngkjaaGreatDoor
open Go.RowKit
/-- A slice at this address has these bytes. -/
def Bytes (w : World) (a : Option Addr) (l : List UInt8) : Prop :=
  l = [] ∨ ∃ g off, a = some ⟨g, off, none⟩ ∧ g < w.heap.size ∧ ∀ i, i < l.length → w.cell? ⟨g, off + i, none⟩ = some (.int .u8 (byteAt l i : Nat))
theorem Bytes.ext {w w' : World} {a : Option Addr} {l : List UInt8} (h : Bytes w a l) (k : Ext w w') : Bytes w' a l := by
  rcases h with h | ⟨g, off, ha, hg, hc⟩
  · exact Or.inl h
  · exact Or.inr ⟨g, off, ha, Nat.lt_of_lt_of_le hg k.size, fun i hi => k.cell (hc i hi)⟩
theorem Bytes.at {w : World} {a : Option Addr} {l : List UInt8} (h : Bytes w a l) (hL : l ≠ []) :
    ∃ g off, a = some ⟨g, off, none⟩ ∧ g < w.heap.size ∧ ∀ i, i < l.length → w.cell? ⟨g, off + i, none⟩ = some (.int .u8 (byteAt l i : Nat)) :=
  h.resolve_left hL
/-- But for one block all that was there is as it was. -/
structure But (R : Nat) (w w' : World) : Prop where
  os : w'.os = w.os
  tape : w'.tape = w.tape
  output : w'.output = w.output
  size : w.heap.size ≤ w'.heap.size
  block : ∀ k, k < w.heap.size → k ≠ R → w'.heap[k]? = w.heap[k]?
theorem But.refl (R : Nat) (w : World) : But R w w := ⟨rfl, rfl, rfl, Nat.le_refl _, fun _ _ _ => rfl⟩
theorem But.trans {R : Nat} {a b c : World} (h : But R a b) (k : But R b c) : But R a c :=
  ⟨k.os.trans h.os, k.tape.trans h.tape, k.output.trans h.output, Nat.le_trans h.size k.size, fun i hi hn => (k.block i (Nat.lt_of_lt_of_le hi h.size) hn).trans (h.block i hi hn)⟩
theorem But.of_ext {R : Nat} {a b : World} (h : Ext a b) : But R a b := ⟨h.os, h.tape, h.output, h.size, fun k hk _ => h.block k hk⟩
theorem But.drewN {R : Nat} {a b : World} (h : But R a b) (n : Nat) : But R a (b.drewN n) := ⟨h.os, h.tape, h.output, h.size, h.block⟩
theorem But.alloc {R : Nat} {a b : World} (h : But R a b) (o : Obj) : But R a (b.alloc o) := h.trans (But.of_ext (Ext.alloc _ _))
theorem But.setCell {R : Nat} {a b : World} (h : But R a b) (i : Nat) (v : Value) : But R a (b.setCell ⟨R, i, none⟩ v) :=
  h.trans ⟨rfl, rfl, rfl, by simp [World.setCell], fun k _ hk => Below.heap_setCell _ _ _ _ hk⟩
/-- From before the block was made. -/
theorem But.ext {R : Nat} {w a b : World} (h : Ext w a) (k : But R a b) (hR : w.heap.size ≤ R) : Ext w b :=
  ⟨k.os.trans h.os, k.tape.trans h.tape, k.output.trans h.output, Nat.le_trans h.size k.size, fun i hi => (k.block i (Nat.lt_of_lt_of_le hi h.size) (by omega)).trans (h.block i hi)⟩
theorem But.cell {R : Nat} {w w' : World} (k : But R w w') {g o : Nat} {v : Value} (hg : g ≠ R) (hv : w.cell? ⟨g, o, none⟩ = some v) : w'.cell? ⟨g, o, none⟩ = some v := by
  have hlt : g < w.heap.size := by
    rcases Nat.lt_or_ge g w.heap.size with hl | hl
    · exact hl
    · have e : w.heap[g]? = none := Array.getElem?_eq_none hl
      simp [World.cell?, e] at hv
  rw [World.cell?_of_block (w := w) (w' := w') (a := ⟨g, o, none⟩) (k.block g hlt hg)]; exact hv
/-- The reader's block with another row. -/
theorem setCell_row {w : World} {R i : Nat} {cs : Array Value} {t : TypeId} {fr : Nat × Nat} (hg : w.heap[R]? = some (.cells cs t fr)) (v : Value) :
    (w.setCell ⟨R, i, none⟩ v).heap[R]? = some (.cells (cs.setIfInBounds i v) t fr) := by
  simp only [World.setCell, Array.getElem?_modify, hg]
  simp
/-- w' is w in all blocks of a kind. -/
structure Keep (S : Nat → Prop) (w w' : World) : Prop where
  os : w'.os = w.os
  tape : w'.tape = w.tape
  output : w'.output = w.output
  size : w.heap.size ≤ w'.heap.size
  block : ∀ k, k < w.heap.size → S k → w'.heap[k]? = w.heap[k]?
theorem Keep.refl (S : Nat → Prop) (w : World) : Keep S w w := ⟨rfl, rfl, rfl, Nat.le_refl _, fun _ _ _ => rfl⟩
theorem Keep.trans {S : Nat → Prop} {a b c : World} (h : Keep S a b) (k : Keep S b c) : Keep S a c :=
  ⟨k.os.trans h.os, k.tape.trans h.tape, k.output.trans h.output, Nat.le_trans h.size k.size, fun i hi hn => (k.block i (Nat.lt_of_lt_of_le hi h.size) hn).trans (h.block i hi hn)⟩
theorem Keep.mono {S T : Nat → Prop} {a b : World} (h : Keep S a b) (hT : ∀ k, k < a.heap.size → T k → S k) : Keep T a b := ⟨h.os, h.tape, h.output, h.size, fun k hk hS => h.block k hk (hT k hk hS)⟩
theorem Keep.of_ext {S : Nat → Prop} {a b : World} (h : Ext a b) : Keep S a b := ⟨h.os, h.tape, h.output, h.size, fun k hk _ => h.block k hk⟩
theorem Keep.of_below {B : Nat} {a b : World} (h : Below B a b) : Keep (· < B) a b := ⟨h.os, h.tape, h.output, h.size, fun k _ hS => h.block k hS⟩
theorem Keep.of_but {R : Nat} {a b : World} (h : But R a b) : Keep (· ≠ R) a b := ⟨h.os, h.tape, h.output, h.size, fun k hk hS => h.block k hk hS⟩
theorem Keep.of_grown {row : Option Nat} {a b : World} (h : a.grownBy b row) : Keep (fun k => some k ≠ row) a b := ⟨h.os, h.tape, h.output, h.size, fun k hk hS => h.block k hk hS⟩
theorem Keep.ext {a b : World} (h : Keep (fun _ => True) a b) : Ext a b := ⟨h.os, h.tape, h.output, h.size, fun k hk => h.block k hk trivial⟩
theorem Keep.drewN {S : Nat → Prop} {a b : World} (h : Keep S a b) (n : Nat) : Keep S a (b.drewN n) := ⟨h.os, h.tape, h.output, h.size, h.block⟩
theorem Keep.heap {S : Nat → Prop} {w w' : World} (h : Keep S w w') {g : Nat} {o : Obj} (hS : S g) (hg : w.heap[g]? = some o) : w'.heap[g]? = some o :=
  (h.block g (Array.getElem?_eq_some_iff.1 hg).1 hS).trans hg
theorem lt_of_cell {w : World} {g o : Nat} {v : Value} (hv : w.cell? ⟨g, o, none⟩ = some v) : g < w.heap.size := by
  rcases Nat.lt_or_ge g w.heap.size with hl | hl
  · exact hl
  · have e : w.heap[g]? = none := Array.getElem?_eq_none hl
    simp [World.cell?, e] at hv
theorem Keep.cell {S : Nat → Prop} {w w' : World} (k : Keep S w w') {g o : Nat} {v : Value} (hg : S g) (hv : w.cell? ⟨g, o, none⟩ = some v) : w'.cell? ⟨g, o, none⟩ = some v := by
  rw [World.cell?_of_block (w := w) (w' := w') (a := ⟨g, o, none⟩) (k.block g (lt_of_cell hv) hg)]; exact hv
/-- A slice at this address has these cells, in a block of a kind. -/
def Row (S : Nat → Prop) (w : World) (a : Option Addr) (cs : List Value) : Prop :=
  cs = [] ∨ ∃ g off, a = some ⟨g, off, none⟩ ∧ g < w.heap.size ∧ S g ∧ ∀ i, i < cs.length → w.cell? ⟨g, off + i, none⟩ = cs[i]?
theorem Row.keep {S : Nat → Prop} {w w' : World} {a : Option Addr} {cs : List Value} (h : Row S w a cs) (k : Keep S w w') : Row S w' a cs := by
  rcases h with h | ⟨g, off, ha, hg, hS, hc⟩
  · exact Or.inl h
  · refine Or.inr ⟨g, off, ha, Nat.lt_of_lt_of_le hg k.size, hS, fun i hi => ?_⟩
    have := hc i hi
    rw [List.getElem?_eq_getElem hi] at this ⊢
    exact k.cell hS this
theorem Row.mono {S T : Nat → Prop} {w : World} {a : Option Addr} {cs : List Value} (h : Row S w a cs) (hT : ∀ k, k < w.heap.size → S k → T k) : Row T w a cs := by
  rcases h with h | ⟨g, off, ha, hg, hS, hc⟩
  · exact Or.inl h
  · exact Or.inr ⟨g, off, ha, hg, hT g hg hS, hc⟩
theorem Row.at {S : Nat → Prop} {w : World} {a : Option Addr} {cs : List Value} (h : Row S w a cs) (hL : cs ≠ []) :
    ∃ g off, a = some ⟨g, off, none⟩ ∧ g < w.heap.size ∧ S g ∧ ∀ i, i < cs.length → w.cell? ⟨g, off + i, none⟩ = cs[i]? := h.resolve_left hL
/-- Bytes in a block of a kind. -/
def byteV (l : List UInt8) : List Value := l.map fun b => .int .u8 (b.toNat : Int)
def BytesS (S : Nat → Prop) (w : World) (a : Option Addr) (l : List UInt8) : Prop := Row S w a (byteV l)
theorem byteV_at {l : List UInt8} {i : Nat} (hi : i < l.length) : (byteV l)[i]? = some (.int .u8 (byteAt l i : Nat)) := by
  simp [byteV, byteAt, hi]
theorem BytesS.bytes {S : Nat → Prop} {w : World} {a : Option Addr} {l : List UInt8} (h : BytesS S w a l) : Bytes w a l := by
  rcases h with h | ⟨g, off, ha, hg, hS, hc⟩
  · left; simpa [byteV] using h
  · refine Or.inr ⟨g, off, ha, hg, fun i hi => ?_⟩
    rw [hc i (by simpa [byteV] using hi), byteV_at hi]
theorem Bytes.row {w : World} {a : Option Addr} {l : List UInt8} (h : Bytes w a l) : BytesS (fun _ => True) w a l := by
  rcases h with h | ⟨g, off, ha, hg, hc⟩
  · left; simp [byteV, h]
  · refine Or.inr ⟨g, off, ha, hg, trivial, fun i hi => ?_⟩
    have hi' : i < l.length := by simpa [byteV] using hi
    rw [hc i hi', byteV_at hi']
theorem cell_new (w : World) (cs : Array Value) (t : TypeId) (i : Nat) (v : Value) (h : cs[i]? = some v) : (w.alloc (.cells cs t)).cell? ⟨w.heap.size, i, none⟩ = some v := by
  rw [cell_of_row _ _ _ _ _ _ (heap_alloc_new w _)]; exact h
theorem ext_below {a b c d : World} {B : Nat} (hB : a.heap.size = B) (h : Ext a b) (h2 : Ext b c) (h3 : Below B c d) : Ext a d := by
  subst hB
  exact Below.trans (h.trans h2) h3
theorem blk_cell {w : World} {R : Nat} {cs : Array Value} {t : TypeId} (hg : w.heap[R]? = some (.cells cs t (0, 0))) (i : Nat) (v : Value) (hi : cs[i]? = some v) : w.cell? ⟨R, i, none⟩ = some v := by
  rw [cell_of_row _ _ _ _ _ _ hg]; exact hi
theorem blk_free {w : World} {R : Nat} {cs : Array Value} {t : TypeId} (hg : w.heap[R]? = some (.cells cs t (0, 0))) (i : Nat) : w.frozen? ⟨R, i, none⟩ = false := by
  unfold World.frozen?; simp only [hg]; simp
theorem Keep.setCell {S : Nat → Prop} {a b : World} (h : Keep S a b) {R : Nat} (hR : ∀ k, S k → k ≠ R) (i : Nat) (v : Value) : Keep S a (b.setCell ⟨R, i, none⟩ v) :=
  h.trans ⟨rfl, rfl, rfl, by simp [World.setCell], fun k _ hS => Below.heap_setCell _ _ _ _ (hR k hS)⟩
theorem Keep.ext_trans {S : Nat → Prop} {a b c : World} (h : Keep S a b) (k : Ext b c) : Keep S a c := h.trans (Keep.of_ext k)
theorem ownsRow_keep {S : Nat → Prop} {w w' : World} {base e size n : Nat} {v : Value} {xs : List Value} (h : w.ownsRow base e size v n xs) (k : Keep S w w') (hS : ∀ g cur, v.ownBlock = some g → base ≤ g → w.heap[g]? = some (.cells cur e (0, 0)) → S g) : w'.ownsRow base e size v n xs := by
  refine ⟨h.1, ?_⟩
  rcases h.2 with h1 | ⟨g, c, cur, h1, hb, hg, r⟩
  · exact Or.inl h1
  · exact Or.inr ⟨g, c, cur, h1, hb, k.heap (hS g cur (by rw [h1]; rfl) hb hg) hg, r⟩
theorem Keep.ext_lt {a b : World} (h : Keep (· < a.heap.size) a b) : Ext a b := ⟨h.os, h.tape, h.output, h.size, fun k hk => h.block k hk hk⟩
theorem Keep.of_alloc {S : Nat → Prop} {w w' : World} {o : Obj} (h : Keep S (w.alloc o) w') : Keep S w w' := (Keep.of_ext (Ext.alloc w o)).trans h
end Go.Proofs.YtnclibfhbngkjaaGreatDoor
namespace Go.Proofs.YtnclibfhbngkjaaGreatDoor
open Go.RowKit Go.WideShapes Go.ChangeShapes
theorem cells_u8 : Tryz.prog.cellsOf 5 = 1 := by kernel_rfl
/-- An address at which a cell is read is a plain one. -/
theorem addr_plain {W : World} {a : Addr} {v : Value} (h : W.cell? a = some v) : ∃ g off, a = ⟨g, off, none⟩ ∧ g < W.heap.size := by
  have hspot : a.spot = none := by
    cases hs : a.spot with
    | none => rfl
    | some x =>
      simp only [World.cell?] at h
      split at h
      · rw [hs] at h; simp at h
      · cases h
  have hblk : a.block < W.heap.size := by
    rcases Nat.lt_or_ge a.block W.heap.size with h1 | h1
    · exact h1
    · have e : W.heap[a.block]? = none := Array.getElem?_eq_none h1
      simp [World.cell?, e] at h
  obtain ⟨g, off, sp⟩ := a
  simp only at hspot hblk
  subst hspot
  exact ⟨g, off, rfl, hblk⟩
theorem add_plain (g off n : Nat) : (⟨g, off, none⟩ : Addr).add n = ⟨g, off + n, none⟩ := by
  unfold Addr.add; split
  · rename_i h0; subst h0; rfl
  · rfl
set_option maxRecDepth 100000 in
/-- A []byte that came in. -/
theorem open_bytes {H : Type} {enc : TypeId × Value → H} {W : World} {base b0 : Nat} {v : Value} {d : DataW H} {ps : List MemPlace} {held : Bool}
    (hval : Value.okWide Tryz.prog W .any b0 74 v) (hd : DataW.Trod enc Tryz.prog W base (fun _ => true) held 74 v d ps) :
    ∃ (a : Option Addr) (l : List UInt8) (c : Nat), v = .slice a l.length c ∧ l.length ≤ c ∧ Bytes W a l := by
  obtain ⟨a0, len, cap, rfl⟩ := okWide_slice Tryz.underlying74 hval
  obtain ⟨fuel, hf⟩ := hd
  rcases open_ints Tryz.underlying74 Tryz.underlying5 cells_u8 hf with ⟨hcs, hx⟩ | ⟨a, len', cap', zs, hcs, _, hl, hm, hz, hx, hcell, hwf⟩
  · simp [Value.cells] at hcs
    obtain ⟨rfl, rfl, rfl⟩ := hcs
    exact ⟨none, [], 0, rfl, Nat.le_refl _, Or.inl rfl⟩
  · simp [Value.cells] at hcs
    obtain ⟨rfl, rfl, rfl⟩ := hcs
    have hz' : zs.length = cap := by simpa using hz
    have hLl : ((zs.take len).map fun n => UInt8.ofNat n.toNat).length = len := by simp; omega
    refine ⟨some a, (zs.take len).map fun n => UInt8.ofNat n.toNat, cap, by rw [hLl], by rw [hLl]; exact hl, ?_⟩
    rcases Nat.eq_zero_or_pos len with h0 | h0
    · left; subst h0; simp
    · have hc0 := hcell 0 (by omega)
      have e0 : a.add 0 = a := by simp [Addr.add]
      rw [e0] at hc0
      obtain ⟨g, off, rfl, hlt⟩ := addr_plain hc0
      refine Or.inr ⟨_, _, rfl, hlt, fun i hi => ?_⟩
      have hi' : i < len := by rw [hLl] at hi; exact hi
      have hc := hcell i (by omega)
      rw [add_plain] at hc
      rw [hc]
      have hi2 : i < zs.length := by omega
      have hw := hwf (zs.getD i 0) (by rw [List.getD_eq_getElem?_getD, List.getElem?_eq_getElem hi2]; simp)
      have hb : 0 ≤ zs.getD i 0 ∧ zs.getD i 0 < 256 := by
        simp only [Lit.wf, Bool.and_eq_true, decide_eq_true_eq] at hw
        have h1 : IntKind.u8.min = 0 := by decide
        have h2 : IntKind.u8.max = 255 := by decide
        rw [h1, h2] at hw
        omega
      simp [byteAt, hi', hi2] at hb ⊢
      omega
end Go.Proofs.YtnclibfhbngkjaaGreatDoor
namespace Go.Proofs.YtnclibfhbngkjaaGreatDoor
open Go.RowKit Go.WideShapes Go.ChangeShapes Go.Deep
/-- A slice's elements: C cells each, read as R says. -/
def SliceOf {α : Type} (C : Nat) (R : World → List Value → α → Prop) (w : World) (a : Option Addr) (L : List α) : Prop :=
  L = [] ∨ ∃ g off, a = some ⟨g, off, none⟩ ∧ g < w.heap.size ∧ ∀ i (hi : i < L.length), ∃ cs, cs.length = C ∧ (∀ j, j < C → w.cell? ⟨g, off + i * C + j, none⟩ = cs[j]?) ∧ R w cs L[i]
theorem SliceOf.ext {α : Type} {C : Nat} {R : World → List Value → α → Prop} (hR : ∀ {w w' : World} {cs : List Value} {x : α}, R w cs x → Ext w w' → R w' cs x) {w w' : World} {a : Option Addr} {L : List α} (h : SliceOf C R w a L) (k : Ext w w') : SliceOf C R w' a L := by
  rcases h with h | ⟨g, off, ha, hg, hc⟩
  · exact Or.inl h
  · refine Or.inr ⟨g, off, ha, Nat.lt_of_lt_of_le hg k.size, fun i hi => ?_⟩
    obtain ⟨cs, h1, h2, h3⟩ := hc i hi
    refine ⟨cs, h1, fun j hj => ?_, hR h3 k⟩
    have := h2 j hj
    have hj' : j < cs.length := by omega
    rw [List.getElem?_eq_getElem hj'] at this ⊢
    exact k.cell this
theorem read_list {α : Type} {P : Nat → α → Prop} : ∀ (m : Nat), (∀ i, i < m → ∃ x, P i x) → ∃ L : List α, L.length = m ∧ ∀ i (hi : i < L.length), P i L[i]
  | 0, _ => ⟨[], rfl, fun i hi => by simp at hi⟩
  | m + 1, h => by
    obtain ⟨L, h1, h2⟩ := read_list m (fun i hi => h i (by omega))
    obtain ⟨x, hx⟩ := h m (by omega)
    refine ⟨L ++ [x], by simp [h1], fun i hi => ?_⟩
    by_cases hl : i < L.length
    · rw [List.getElem_append_left hl]; exact h2 i hl
    · have : i = m := by simp at hi; omega
      subst this
      rw [List.getElem_append_right (by omega)]
      simpa [h1] using hx
section
variable {H : Type} {enc : TypeId × Value → H} {P : Program} {w : World} {base : Nat} {spare : Nat → Bool} {held : Bool}
theorem bulk_append (l r : List (DataW H)) : Rows.uptoBulkAll (l ++ r) = Rows.uptoBulkAll l + Rows.uptoBulkAll r := by
  induction l with
  | nil => simp [Rows.uptoBulkAll]
  | cons x l ih => simp only [List.cons_append, Rows.uptoBulkAll, ih]; omega
/-- A slice that came in. R, wt: what an element reads as, and how much it weighs at most. -/
theorem read_slice {α : Type} {R : World → List Value → α → Prop} {wt : α → Nat} {t e : TypeId} {C fuel : Nat} {cs : List Value} {x : DataW H × List MemPlace} (ht : P.underlying t = some (.slice e)) (hC : P.cellsOf e = C) (hCp : 0 < C)
    (he : ∀ n cs y, DataW.trod enc P w base spare held n e cs = some y → ∃ v, R w cs v ∧ wt v ≤ Rows.uptoBulk y.1)
    (h : DataW.trod enc P w base spare held fuel t cs = some x) :
    ∃ (a : Option Addr) (L : List α) (c : Nat), cs = [.slice a L.length c] ∧ L.length ≤ c ∧ SliceOf C R w a L ∧ (L.map wt).sum + 1 ≤ Rows.uptoBulk x.1 := by
  subst hC
  rcases open_slice ht h with ⟨h1, h2⟩ | ⟨a, len, cap, m, n, D, Pl, hcs, _, hl, _, hm, hx, hi⟩
  · subst h1 h2
    exact ⟨none, [], 0, rfl, Nat.le_refl _, Or.inl rfl, by simp [Rows.uptoBulk]⟩
  · subst hx hcs
    have hlm : len ≤ m := by rw [hm]; split <;> omega
    obtain ⟨L, h1, h2⟩ := read_list (P := fun i v => ∃ cs', w.cells? base (a.add (i * P.cellsOf e)) (P.cellsOf e) = some cs' ∧ R w cs' v ∧ wt v ≤ Rows.uptoBulk (D i)) len (fun i hi' => by
      obtain ⟨cs', k1, k2⟩ := hi i (by omega)
      obtain ⟨v, k3, k4⟩ := he n cs' _ k2
      exact ⟨v, cs', k1, k3, k4⟩)
    have hsum : ∀ (k : Nat) (M : List α) (E : Nat → DataW H), M.length = k → (∀ i (hi : i < M.length), wt M[i] ≤ Rows.uptoBulk (E i)) → (M.map wt).sum ≤ Rows.uptoBulkAll ((List.range k).map E) := by
      intro k
      induction k with
      | zero => intro M E hM _; rw [List.eq_nil_of_length_eq_zero hM]; simp
      | succ k ih =>
        intro M E hM hE
        have hne : M ≠ [] := by intro e; rw [e] at hM; simp at hM
        have hlast : M.dropLast.length = k := by simp [hM]
        rw [← List.dropLast_concat_getLast hne, List.map_append, List.sum_append, List.range_succ, List.map_append, bulk_append]
        have a1 := ih M.dropLast E hlast (fun i hi => by
          have := hE i (by omega)
          simpa [List.getElem_dropLast] using this)
        have a2 := hE k (by omega)
        have e3 : M.getLast hne = M[k]'(by omega) := by rw [List.getLast_eq_getElem]; congr 1; omega
        simp only [List.map_cons, List.map_nil, List.sum_cons, List.sum_nil, Rows.uptoBulkAll, e3]
        omega
    refine ⟨some a, L, cap, by rw [h1], by omega, ?_, ?_⟩
    · by_cases hL : L = []
      · exact Or.inl hL
      · have hpos : 0 < L.length := List.length_pos_iff.2 hL
        obtain ⟨cs', k1, _, _⟩ := h2 0 hpos
        obtain ⟨_, k3, k4⟩ := World.cells?_some k1
        have hc0 := k4 0 hCp
        have e0 : (a.add (0 * P.cellsOf e)).add 0 = a := by simp [Addr.add]
        rw [e0, List.getElem?_eq_getElem (by omega)] at hc0
        obtain ⟨g, off, rfl, hlt⟩ := addr_plain hc0
        refine Or.inr ⟨g, off, rfl, hlt, fun i hi' => ?_⟩
        obtain ⟨cs', k1, k2, _⟩ := h2 i hi'
        obtain ⟨_, k3, k4⟩ := World.cells?_some k1
        refine ⟨cs', k3, fun j hj => ?_, k2⟩
        have := k4 j hj
        rwa [add_plain, add_plain] at this
    · have := hsum len L D h1 (fun i hi' => by obtain ⟨_, _, _, k⟩ := h2 i hi'; exact k)
      simp only [Rows.uptoBulk]
      omega
/-- A struct of one-cell fields: its fields' readings. -/
theorem read_struct {t : TypeId} {fs : Array Field} {fuel : Nat} {cs : List Value} {x : DataW H × List MemPlace} (ht : P.underlying t = some (.struct fs)) (hone : oneCellFields P fs = true) (hC : P.cellsOf t = fs.size)
    (h : DataW.trod enc P w base spare held fuel t cs = some x) :
    ∃ (ys : List (DataW H × List MemPlace)) (n : Nat), x.1 = .agg (ys.map (·.1)) ∧ cs.length = fs.size ∧ ys.length = fs.size ∧
      ∀ (j : Nat) (f : Field), fs[j]? = some f → ∃ v y, cs[j]? = some v ∧ ys[j]? = some y ∧ DataW.trod enc P w base spare held n f.type [v] = some y := by
  obtain ⟨ys, n, _, hx, hlen, hyl, hf⟩ := DataW.trod_struct ht h
  refine ⟨ys, n, by rw [hx], by rw [hlen, hC], hyl, fun j f hj => ?_⟩
  obtain ⟨ho, hk⟩ := hone_of hone j f hj
  have hjl : j < fs.size := (Array.getElem?_eq_some_iff.1 hj).1
  have h1 := hf j f hj
  rw [ho, hk] at h1
  have hj2 : j < cs.length := by omega
  have hone' : (cs.drop j).take 1 = [cs[j]'hj2] := by
    rw [List.drop_eq_getElem_cons hj2]; rfl
  rw [hone'] at h1
  have hys : ys[j]? = some (ys[j]'(by omega)) := List.getElem?_eq_getElem (by omega)
  exact ⟨_, _, List.getElem?_eq_getElem hj2, hys, h1.trans hys⟩
end
end Go.Proofs.YtnclibfhbngkjaaGreatDoor
namespace Go.Proofs.YtnclibfhbngkjaaGreatDoor
open Go.RowKit Go.WideShapes Go.ChangeShapes Go.Deep
section
variable {H : Type} {enc : TypeId × Value → H} {P : Program} {w : World} {base : Nat} {spare : Nat → Bool} {held : Bool}
/-- What was read lies within the reach. -/
def InReach (P : Program) (t : TypeId) (d : DataW H) : Prop := ∀ n ∈ DataW.weights P t d, n ≤ reachBytes
theorem mem_weightsAll {e : TypeId} {n : Nat} : ∀ {l : List (DataW H)} {d : DataW H}, d ∈ l → n ∈ DataW.weights P e d → n ∈ DataW.weightsAll P e l
  | x :: l, d, hd, hn => by
    rw [DataW.weightsAll, List.mem_append]
    rcases List.mem_cons.1 hd with rfl | h
    · exact Or.inl hn
    · exact Or.inr (mem_weightsAll h hn)
theorem mem_weightsEach {n : Nat} : ∀ {ts : List TypeId} {l : List (DataW H)} {j : Nat} {t : TypeId} {d : DataW H}, ts[j]? = some t → l[j]? = some d → n ∈ DataW.weights P t d → n ∈ DataW.weightsEach P ts l
  | t0 :: ts, d0 :: l, 0, t, d, h1, h2, hn => by
    simp at h1 h2
    subst h1 h2
    rw [DataW.weightsEach, List.mem_append]
    exact Or.inl hn
  | t0 :: ts, d0 :: l, j + 1, t, d, h1, h2, hn => by
    simp at h1 h2
    rw [DataW.weightsEach, List.mem_append]
    exact Or.inr (mem_weightsEach h1 h2 hn)
  | [], _, j, _, _, h1, _, _ => by simp at h1
  | _ :: _, [], j, _, _, _, h2, _ => by simp at h2
/-- A slice that came in. -/
theorem read_slice_w {α : Type} {R : World → List Value → α → Prop} {t e : TypeId} {C fuel : Nat} {cs : List Value} {x : DataW H × List MemPlace} (ht : P.underlying t = some (.slice e)) (hC : P.cellsOf e = C) (hCp : 0 < C) (hw : InReach P t x.1)
    (he : ∀ n cs y, DataW.trod enc P w base spare held n e cs = some y → InReach P e y.1 → ∃ v, R w cs v)
    (h : DataW.trod enc P w base spare held fuel t cs = some x) :
    ∃ (a : Option Addr) (L : List α) (c : Nat), cs = [.slice a L.length c] ∧ L.length ≤ c ∧ SliceOf C R w a L ∧ L.length * P.bytesOf e ≤ reachBytes := by
  subst hC
  rcases open_slice ht h with ⟨h1, h2⟩ | ⟨a, len, cap, m, n, D, Pl, hcs, _, hl, _, hm, hx, hi⟩
  · subst h1 h2
    exact ⟨none, [], 0, rfl, Nat.le_refl _, Or.inl rfl, by simp⟩
  · subst hx hcs
    have hlm : len ≤ m := by rw [hm]; split <;> omega
    have hwt : DataW.weights P t (.slice ((List.range len).map D) ((List.range (m - len)).map fun j => D (len + j))) = (((List.range len).map D).length + ((List.range (m - len)).map fun j => D (len + j)).length) * P.bytesOf e :: (DataW.weightsAll P e ((List.range len).map D) ++ DataW.weightsAll P e ((List.range (m - len)).map fun j => D (len + j))) := by
      rw [DataW.weights, ht]
    unfold InReach at hw
    simp only at hw
    rw [hwt] at hw
    have hb := hw _ List.mem_cons_self
    simp only [List.length_map, List.length_range] at hb
    obtain ⟨L, h1, h2⟩ := read_list (P := fun i v => ∃ cs', w.cells? base (a.add (i * P.cellsOf e)) (P.cellsOf e) = some cs' ∧ R w cs' v) len (fun i hi' => by
      obtain ⟨cs', k1, k2⟩ := hi i (by omega)
      obtain ⟨v, k3⟩ := he n cs' _ k2 (fun q hq => hw q (List.mem_cons_of_mem _ (List.mem_append.2 (Or.inl (mem_weightsAll (List.mem_map.2 ⟨i, List.mem_range.2 hi', rfl⟩) hq)))))
      exact ⟨v, cs', k1, k3⟩)
    refine ⟨some a, L, cap, by rw [h1], by omega, ?_, ?_⟩
    · by_cases hL : L = []
      · exact Or.inl hL
      · have hpos : 0 < L.length := List.length_pos_iff.2 hL
        obtain ⟨cs', k1, _⟩ := h2 0 hpos
        obtain ⟨_, k3, k4⟩ := World.cells?_some k1
        have hc0 := k4 0 hCp
        have e0 : (a.add (0 * P.cellsOf e)).add 0 = a := by simp [Addr.add]
        rw [e0, List.getElem?_eq_getElem (by omega)] at hc0
        obtain ⟨g, off, rfl, hlt⟩ := addr_plain hc0
        refine Or.inr ⟨g, off, rfl, hlt, fun i hi' => ?_⟩
        obtain ⟨cs', k1, k2⟩ := h2 i hi'
        obtain ⟨_, k3, k4⟩ := World.cells?_some k1
        refine ⟨cs', k3, fun j hj => ?_, k2⟩
        have := k4 j hj
        rwa [add_plain, add_plain] at this
    · rw [h1]
      exact Nat.le_trans (Nat.mul_le_mul_right _ (by omega)) hb
/-- A struct's field lies within the reach. -/
theorem reach_field {t : TypeId} {fs : Array Field} {ys : List (DataW H × List MemPlace)} {d : DataW H} (ht : P.underlying t = some (.struct fs)) (hx : d = .agg (ys.map (·.1))) (hw : InReach P t d) {j : Nat} {f : Field} {y : DataW H × List MemPlace} (hf : fs[j]? = some f) (hy : ys[j]? = some y) : InReach P f.type y.1 := by
  intro n hn
  refine hw n ?_
  rw [hx, DataW.weights, ht]
  exact mem_weightsEach (j := j) (by simp [hf]) (by simp [hy]) hn
end
end Go.Proofs.YtnclibfhbngkjaaGreatDoor
namespace Go.Proofs.YtnclibfhbngkjaaGreatDoor
open Go.RowKit Go.WideShapes Go.ChangeShapes Go.Deep
theorem reach_of_all {H : Type} {P : Program} {params : Array TypeId} {vt : List TypeId} {ds gs : List (DataW H)} (h : (DataW.weightsEach P (params.toList ++ vt) (ds ++ gs)).all (· ≤ reachBytes) = true) :
    ∀ (j : Nat) t d, params[j]? = some t → ds[j]? = some d → InReach P t d := by
  intro j t d h1 h2 n hn
  have h3 : (params.toList ++ vt)[j]? = some t := by
    rw [List.getElem?_append_left]
    · simpa using h1
    · obtain ⟨h, _⟩ := Array.getElem?_eq_some_iff.1 h1
      simpa using h
  have h4 : (ds ++ gs)[j]? = some d := by
    rw [List.getElem?_append_left]
    · exact h2
    · exact (List.getElem?_eq_some_iff.1 h2).1
  have := (List.all_eq_true.1 h) n (mem_weightsEach h3 h4 hn)
  simpa using this
end Go.Proofs.YtnclibfhbngkjaaGreatDoor
namespace Go.Proofs.YtnclibfhbngkjaaGreatDoor
open Go.RowKit
/-- An element reads as itself. -/
def selfR : Value → Option (DataW Value × List MemPlace) := fun v => some (.held v, [])
/-- A block is a map: what it has at each key (c: how keys are written); n: how many entries at most. -/
def MapF {α : Type} (c : α → Lit) (w : World) (k : TypeId) (b n : Nat) (f : α → Option Value) : Prop :=
  ∃ D : DataW Value, w.ownsMap Tryz.prog k selfR b n D ∧ Maps.IsMap D ∧ ∀ x, (∀ z : Value, D.atKey (c x) (.held z) = .held ((f x).getD z)) ∧ Maps.has D (c x) = (f x).isSome
section
variable {α : Type} {c : α → Lit} {w : World} {k : TypeId} {b n : Nat} {f : α → Option Value}
theorem MapF.lt (h : MapF c w k b n f) : b < w.heap.size := by obtain ⟨D, h1, _⟩ := h; exact h1.lt
theorem MapF.made (c : α → Lit) (w : World) (k : TypeId) : MapF c (w.alloc (.map #[] 0)) k w.heap.size 0 (fun _ => none) :=
  ⟨_, World.ownsMap_made w _ k selfR, Maps.isMap_empty, fun _ => ⟨fun _ => rfl, rfl⟩⟩
theorem MapF.keep {S : Nat → Prop} {w' : World} (h : MapF c w k b n f) (kp : Keep S w w') (hS : S b) : MapF c w' k b n f := by
  obtain ⟨D, h1, h2, h3⟩ := h
  have hb := h1.lt
  obtain ⟨es, clock, g1, g2, g3, g4⟩ := h1
  exact ⟨D, ⟨es, clock, (kp.block b hb hS).trans g1, g2, g3, g4⟩, h2, h3⟩
theorem MapF.ext {w' : World} (h : MapF c w k b n f) (kp : Ext w w') : MapF c w' k b n f := h.keep (Keep.of_ext (S := fun _ => True) kp) trivial
theorem MapF.same {g : α → Option Value} (h : MapF c w k b n f) (e : f = g) : MapF c w k b n g := e ▸ h
theorem MapF.mono {m : Nat} (h : MapF c w k b n f) (hm : n ≤ m) : MapF c w k b m f := by
  obtain ⟨D, h1, h2⟩ := h; exact ⟨D, h1.mono hm, h2⟩
/-- 'm[k]'. -/
theorem MapF.lookup {t e : TypeId} {z : Value} (h : MapF c w k b n f) (K : Maps.Keyed Tryz.prog k) (ht : Tryz.prog.underlying t = some (.map k e)) (hz : (zeroValue e).run Tryz.prog w = .ok z w) {key : Value} {kl : α} (hkey : keyOf Tryz.prog k key = some (c kl)) :
    (Instr.lookup t (.map (some b)) key false).run Tryz.prog w = .ok ((f kl).getD z) w := by
  obtain ⟨D, h1, h2, h3⟩ := h
  obtain ⟨v, ps, hr, hv⟩ := h1.lookup K ht hz (zd := .held z) (zp := []) rfl hkey
  rw [hr]
  have : DataW.held v = D.atKey (c kl) (.held z) := (Prod.mk.inj (Option.some.inj hv)).1
  rw [(h3 kl).1 z] at this
  rw [DataW.held.inj this]
/-- 'v, ok := m[k]'. -/
theorem MapF.look_ok {t e : TypeId} {z : Value} (h : MapF c w k b n f) (K : Maps.Keyed Tryz.prog k) (ht : Tryz.prog.underlying t = some (.map k e)) (hz : (zeroValue e).run Tryz.prog w = .ok z w) {key : Value} {kl : α} (hkey : keyOf Tryz.prog k key = some (c kl)) :
    (Instr.lookup t (.map (some b)) key true).run Tryz.prog w = .ok (.tuple #[(f kl).getD z, .bool (f kl).isSome]) w := by
  obtain ⟨D, h1, h2, h3⟩ := h
  obtain ⟨v, ps, hr, hv⟩ := h1.look_ok K ht hz (zd := .held z) (zp := []) rfl hkey
  rw [hr, (h3 kl).2]
  have : DataW.held v = D.atKey (c kl) (.held z) := (Prod.mk.inj (Option.some.inj hv)).1
  rw [(h3 kl).1 z] at this
  rw [DataW.held.inj this]
/-- 'm[k] = v'. -/
theorem MapF.store {t e : TypeId} (h : MapF c w k b n f) (K : Maps.Keyed Tryz.prog k) (ht : Tryz.prog.underlying t = some (.map k e)) (hn : n < maxLen) (hc : ∀ x y, c x = c y → x = y) [DecidableEq α] {key : Value} (v : Value) {kl : α} (hkey : keyOf Tryz.prog k key = some (c kl)) :
    ∃ w', (Instr.mapUpdate t (.map (some b)) key v).run Tryz.prog w = .ok () w' ∧ MapF c w' k b (n + 1) (fun x => if x = kl then some v else f x) ∧ Keep (· ≠ b) w w' := by
  obtain ⟨D, h1, h2, h3⟩ := h
  obtain ⟨w', hr, ho, hg⟩ := h1.update K ht hn hkey (val := v) (d := .held v) (ps := []) rfl
  refine ⟨w', hr, ⟨_, ho, h2.put _ _, fun x => ?_⟩, (Keep.of_grown hg).mono (fun k _ hk => by intro e; exact hk (by injection e))⟩
  by_cases hx : x = kl
  · subst hx
    simp only [if_true]
    exact ⟨fun z => Maps.atKey_put_same h2 (K.key hkey) _ _, Maps.has_put_same h2 (K.key hkey) _⟩
  · simp only [if_neg hx]
    exact ⟨fun z => by rw [Maps.atKey_put_other (fun e => hx (hc _ _ e))]; exact (h3 x).1 z, by rw [Maps.has_put_other (fun e => hx (hc _ _ e))]; exact (h3 x).2⟩
/-- 'delete(m, k)'. -/
theorem MapF.drop {t e : TypeId} (h : MapF c w k b n f) (K : Maps.Keyed Tryz.prog k) (ht : Tryz.prog.underlying t = some (.map k e)) (hc : ∀ x y, c x = c y → x = y) [DecidableEq α] {key : Value} {kl : α} (hkey : keyOf Tryz.prog k key = some (c kl)) (ty : TypeId) :
    ∃ w', (Builtin.delete_ #[t, k] ty #[.map (some b), key]).run Tryz.prog w = .ok (.tuple #[]) w' ∧ MapF c w' k b n (fun x => if x = kl then none else f x) ∧ Keep (· ≠ b) w w' := by
  obtain ⟨D, h1, h2, h3⟩ := h
  obtain ⟨w', hr, ho, hg⟩ := h1.drop K ht hkey ty
  refine ⟨w', hr, ⟨_, ho, h2.del _, fun x => ?_⟩, (Keep.of_grown hg.grown).mono (fun k _ hk => by intro e; exact hk (by injection e))⟩
  by_cases hx : x = kl
  · subst hx
    simp only [if_true]
    exact ⟨fun z => Maps.atKey_del_same _, Maps.has_del_same⟩
  · simp only [if_neg hx]
    exact ⟨fun z => by rw [Maps.atKey_del_other (fun e => hx (hc _ _ e))]; exact (h3 x).1 z, by rw [Maps.has_del_other (fun e => hx (hc _ _ e))]; exact (h3 x).2⟩
end
theorem str_keyed : Maps.Keyed Tryz.prog 9 := Maps.string_keyed Tryz.underlying9
theorem key_str (s : ByteArray) (hs : s.size ≤ maxLen) : keyOf Tryz.prog 9 (.string s) = some (.string s.data.toList) := by
  unfold keyOf
  rw [Tryz.underlying9]
  simp [mapKey, Tryz.underlying9, hs]
end Go.Proofs.YtnclibfhbngkjaaGreatDoor
namespace Go.Proofs.YtnclibfhbngkjaaGreatDoor
open Go.RowKit
theorem Keep.andThen {S T : Nat → Prop} {a b c : World} (h : Keep S a b) (k : Keep T b c) (hT : ∀ j, j < a.heap.size → S j → T j) : Keep S a c :=
  ⟨k.os.trans h.os, k.tape.trans h.tape, k.output.trans h.output, Nat.le_trans h.size k.size, fun j hj hS => (k.block j (Nat.lt_of_lt_of_le hj h.size) (hT j hj hS)).trans (h.block j hj hS)⟩
/-- A range over a map is under way. -/
def MapG {α : Type} (c : α → Lit) (w : World) (k : TypeId) (b r n : Nat) (f : α → Option Value) (left : α → Bool) (cnt : Nat) : Prop :=
  ∃ (D : DataW Value) (lf : Lit → Bool), w.ranges Tryz.prog k selfR b r n D lf cnt ∧ Maps.IsMap D ∧ (∀ x, (∀ z : Value, D.atKey (c x) (.held z) = .held ((f x).getD z)) ∧ Maps.has D (c x) = (f x).isSome) ∧ ∀ x, lf (c x) = left x ∧ (left x = true → (f x).isSome = true)
section
variable {α : Type} {c : α → Lit} {w : World} {k : TypeId} {b r n cnt : Nat} {f : α → Option Value} {left : α → Bool}
theorem MapG.map (h : MapG c w k b r n f left cnt) : MapF c w k b n f := by
  obtain ⟨D, lf, h1, h2, h3, h4⟩ := h
  exact ⟨D, h1.owns, h2, h3⟩
theorem MapG.count (h : MapG c w k b r n f left cnt) : w.rangeLeft b r = cnt := by
  obtain ⟨D, lf, h1, _⟩ := h
  exact h1.left_eq
theorem MapG.ne (h : MapG c w k b r n f left cnt) : r ≠ b := by
  obtain ⟨D, lf, h1, _⟩ := h
  exact h1.ne
theorem MapG.lt (h : MapG c w k b r n f left cnt) : r < w.heap.size := by
  obtain ⟨D, lf, h1, _⟩ := h
  exact h1.lt
theorem MapG.keep {S : Nat → Prop} {w' : World} (h : MapG c w k b r n f left cnt) (kp : Keep S w w') (hb : S b) (hr : S r) : MapG c w' k b r n f left cnt := by
  have hrl := h.lt
  have hbl := h.map.lt
  obtain ⟨D, lf, h1, h2, h3, h4⟩ := h
  refine ⟨D, lf, ?_, h2, h3, h4⟩
  obtain ⟨es, clock, since, seen, c0, g1, g2, g3, g4, g5, g6⟩ := h1
  exact ⟨es, clock, since, seen, c0, (kp.block b hbl hb).trans g1, g2, g3, g4, (kp.block r hrl hr).trans g5, g6⟩
theorem MapG.ext {w' : World} (h : MapG c w k b r n f left cnt) (kp : Ext w w') : MapG c w' k b r n f left cnt := h.keep (Keep.of_ext (S := fun _ => True) kp) trivial trivial
theorem MapG.cnt_le (h : MapG c w k b r n f left cnt) : cnt ≤ n := by
  obtain ⟨D, lf, h1, _⟩ := h
  obtain ⟨es, clock, since, seen, c0, g1, g2, g3, g4, g5, g6, g7, _⟩ := h1
  have : (leftOf es seen).size ≤ es.size := Array.size_filter_le
  omega
variable {ops : Array Oper} {rest : List Oper} {o : Oper} {a : Act} {Q : Exit → Act → World → Prop}
/-- 'range m'. -/
theorem wpList_range_F (hg : o.guard = none) (m : Operand) (t : TypeId) (hop : o.op = Op.range t m) (e : TypeId) (K : Maps.Keyed Tryz.prog k) (ht : Tryz.prog.underlying t = some (.map k e))
    (b n : Nat) (f : α → Option Value) (hm : a.eval m = .map (some b)) (h : MapF c w k b n f)
    (hK : ∀ w' cnt, MapG c w' k b w.heap.size n f (fun x => (f x).isSome) cnt → Ext w w' → w'.heap.size = w.heap.size + 1 → wpList Tryz.prog ops Q rest (a.put o.dst (.pointer (some ⟨w.heap.size, 0, none⟩))) w') :
    wpList Tryz.prog ops Q (o :: rest) a w := by
  obtain ⟨D, h1, h2, h3⟩ := h
  refine wpList_range_own _ hg m t hop k e K ht selfR b n D hm h1 ?_
  intro w' r1 r2 r3
  exact hK w' _ ⟨D, Maps.has D, r1, h2, h3, fun x => ⟨(h3 x).2, fun h => h⟩⟩ ⟨r2.os, r2.tape, r2.output, r2.size, fun j hj => r2.block j hj (by simp)⟩ r3
/-- The step. -/
theorem wpList_next_F [DecidableEq α] (hg : o.guard = none) (it : Operand) (hop : o.op = Op.next it false) (K : Maps.Keyed Tryz.prog k) (mk : α → Value) (hc : ∀ x y, c x = c y → x = y)
    (inv : ∀ key kl, keyOf Tryz.prog k key = some kl → ∃ x, key = mk x ∧ kl = c x) (b r n : Nat) (f : α → Option Value) (left : α → Bool) (cnt : Nat)
    (hit : a.eval it = .pointer (some ⟨r, 0, none⟩)) (h : MapG c w k b r n f left cnt)
    (hDone : (∀ x, left x = false) → wpList Tryz.prog ops Q rest (a.put o.dst (.tuple #[.bool false])) w)
    (hMore : ∀ (x : α) (v : Value) (w' : World) (cnt' : Nat), keyOf Tryz.prog k (mk x) = some (c x) → left x = true → f x = some v → MapG c w' k b r n f (fun z => left z && !decide (z = x)) cnt' → cnt' < cnt → Keep (· ≠ r) w w' → w'.heap.size = w.heap.size →
      (Instr.entry (.pointer (some ⟨r, 0, none⟩))).run Tryz.prog w' = .ok (.tuple #[mk x, v]) w' → wpList Tryz.prog ops Q rest (a.put o.dst (.tuple #[.bool true, mk x, v])) w') :
    wpList Tryz.prog ops Q (o :: rest) a w := by
  obtain ⟨D, lf, h1, h2, h3, h4⟩ := h
  refine wpList_next_ranges _ hg it hop k K selfR (id : Value → Value) (id : Value → Value) (fun key _ _ => ⟨key, rfl⟩) (fun v _ _ => ⟨v, rfl⟩) b r n D lf cnt hit h1 ?_ ?_
  · intro _ hl
    exact hDone fun x => by rw [← (h4 x).1]; exact hl _
  · intro key v kl y w' cnt' hkey hlk hv hat hrg hlt hgr hsz hen
    obtain ⟨x, rfl, rfl⟩ := inv key kl hkey
    have hlx : left x = true := by rw [← (h4 x).1]; exact hlk
    have hy : y = (.held v, []) := (Option.some.inj hv).symm
    have hfx : f x = some v := by
      obtain ⟨u, hu⟩ := Option.isSome_iff_exists.1 ((h4 x).2 hlx)
      have e1 := (h3 x).1 v
      rw [hat (.held v), hy, hu] at e1
      rw [hu]
      exact congrArg some (DataW.held.inj e1).symm
    have hself : (c x).sameKey (c x) = true := WideAt.sameKey_self (K.key hkey)
    refine hMore x v w' cnt' hkey hlx hfx ⟨D, _, hrg, h2, h3, fun z => ?_⟩ hlt ((Keep.of_grown hgr).mono (fun j _ hj => by intro e; exact hj (by injection e))) hsz hen
    by_cases hz : z = x
    · subst hz
      rw [hself]
      simp
    · have hne : (c z).sameKey (c x) = false := Maps.sameKey_ne (fun e => hz (hc _ _ e))
      rw [hne]
      simp only [decide_eq_false hz, Bool.not_false, Bool.and_true]
      exact h4 z
end
section
variable {α : Type} {c : α → Lit} {w : World} {k : TypeId} {b n : Nat} {f : α → Option Value} {ops : Array Oper} {rest : List Oper} {o : Oper} {a : Act} {Q : Exit → Act → World → Prop}
/-- 'm[k] = v'. -/
theorem wpList_store_F [DecidableEq α] (hg : o.guard = none) (m x v : Operand) (t : TypeId) (hop : o.op = Op.mapUpdate t m x v) (e : TypeId) (K : Maps.Keyed Tryz.prog k) (ht : Tryz.prog.underlying t = some (.map k e))
    (b n : Nat) (f : α → Option Value) (hm : a.eval m = .map (some b)) (h : MapF c w k b n f) (hn : n < maxLen) (hc : ∀ x y, c x = c y → x = y) (key val : Value) (kl : α) (hx : a.eval x = key) (hv : a.eval v = val) (hkey : keyOf Tryz.prog k key = some (c kl))
    (hK : ∀ w', MapF c w' k b (n + 1) (fun z => if z = kl then some val else f z) → Keep (· ≠ b) w w' → wpList Tryz.prog ops Q rest (a.put o.dst undef) w') :
    wpList Tryz.prog ops Q (o :: rest) a w := by
  refine wpList_plain hg fun K' hK' => ?_
  obtain ⟨w', hrun, r1, r2⟩ := h.store K ht hn hc val hkey
  unfold Oper.wp
  simp [execOp, hop, hm, hx, hv, hrun, Result.andThen]
  exact hK' _ _ (hK w' r1 r2)
/-- 'm[k]'. -/
theorem wpList_look_F (hg : o.guard = none) (m x : Operand) (t : TypeId) (hop : o.op = Op.lookup t m x false) (e : TypeId) (K : Maps.Keyed Tryz.prog k) (ht : Tryz.prog.underlying t = some (.map k e)) (z : Value) (hz : (zeroValue e).run Tryz.prog w = .ok z w)
    (b n : Nat) (f : α → Option Value) (hm : a.eval m = .map (some b)) (h : MapF c w k b n f) (key : Value) (kl : α) (hx : a.eval x = key) (hkey : keyOf Tryz.prog k key = some (c kl))
    (hK : wpList Tryz.prog ops Q rest (a.put o.dst ((f kl).getD z)) w) :
    wpList Tryz.prog ops Q (o :: rest) a w := by
  refine wpList_plain hg fun K' hK' => ?_
  have hrun := h.lookup K ht hz hkey
  unfold Oper.wp
  simp [execOp, hop, hm, hx, hrun, Result.andThen]
  exact hK' _ _ hK
/-- 'v, ok := m[k]'. -/
theorem wpList_lookOk_F (hg : o.guard = none) (m x : Operand) (t : TypeId) (hop : o.op = Op.lookup t m x true) (e : TypeId) (K : Maps.Keyed Tryz.prog k) (ht : Tryz.prog.underlying t = some (.map k e)) (z : Value) (hz : (zeroValue e).run Tryz.prog w = .ok z w)
    (b n : Nat) (f : α → Option Value) (hm : a.eval m = .map (some b)) (h : MapF c w k b n f) (key : Value) (kl : α) (hx : a.eval x = key) (hkey : keyOf Tryz.prog k key = some (c kl))
    (hK : wpList Tryz.prog ops Q rest (a.put o.dst (.tuple #[(f kl).getD z, .bool (f kl).isSome])) w) :
    wpList Tryz.prog ops Q (o :: rest) a w := by
  refine wpList_plain hg fun K' hK' => ?_
  have hrun := h.look_ok K ht hz hkey
  unfold Oper.wp
  simp [execOp, hop, hm, hx, hrun, Result.andThen]
  exact hK' _ _ hK
end
theorem inv_strP {P : Program} {k : TypeId} (hk : P.underlying k = some .string) : ∀ key kl, keyOf P k key = some kl → ∃ x : List UInt8, key = .string (bs x) ∧ kl = .string x := by
  intro key kl h
  have h' : mapKey P k key = some kl := by
    unfold keyOf at h
    rw [hk] at h
    exact h
  unfold mapKey at h'
  rw [hk] at h'
  cases key with
  | string s =>
    simp only at h'
    split at h'
    · exact ⟨s.data.toList, by rw [bs_of], (Option.some.inj h').symm⟩
    · cases h'
  | _ => simp at h'
theorem inv_str : ∀ key kl, keyOf Tryz.prog 9 key = some kl → ∃ x : List UInt8, key = .string (bs x) ∧ kl = .string x := inv_strP Tryz.underlying9
end Go.Proofs.YtnclibfhbngkjaaGreatDoor
