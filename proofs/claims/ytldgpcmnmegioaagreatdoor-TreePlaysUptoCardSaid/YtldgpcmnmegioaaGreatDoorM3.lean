/- Several texts of mine, one behind the other: Base, Env, Frame, Own, RecSpec, Keep, FrameB, EachSpec, Sign, Name, PathSpec, Shelf, PathSplit, PathMore, PathWithin, NumSpec, VerSpec. -/
import Derived.WalkKit
import Derived.Lib.Split
import Derived.Lib.SplitLaws
import Derived.Lib.Strings
import Derived.Lib.Hide
import Derived.Test.YtldgpcmnmegioaaGreatDoorProg
import Derived.ChangeAgain
import Derived.BigQuiet
import Derived.Deep.QuietTactic
import Derived.Handy
import Derived.Test.YtldgpcmnmegioaaGreatDoorCards
import Derived.Test.YtldgpcmnmegioaaGreatDoorTie
import Derived.ProofKit
import Derived.OpenShut
import Derived.Deep.DeepHandedRow
import Derived.Lib.LaidTab
import Derived.SliceStrings
import Derived.ChangeSlices
import Derived.WalkSpells
import Derived.WalkLawsBesides
import Derived.BigGuardPart
import Derived.Shelf.Strings.Builder1
import Derived.Shelf.Strings.Builder2
import Derived.Shelf.Strings.OnBuilder
import Derived.Shelf.Strings.BuilderF
import Derived.Shelf.Strings.BuilderK
import Derived.Shelf.Strconv.Itoa0
import Derived.Shelf.Strings.Search1
import Derived.Shelf.Strings.Search2
import Derived.Shelf.Strings.Search3
import Derived.Shelf.Strings.Count
import Derived.Shelf.LaysM
import Derived.Shelf.Strings.Shaped
import Derived.Shelf.Strings.Prefix
import Derived.Shelf.Strings.Split
import Derived.Shelf.Strings.SplitShaped
import Derived.Shelf.Unicode.DecodeSlow
import Derived.Ground.SlgmProg
import Derived.Shelf.SortM.Plain
import Derived.Shelf.SortM.SortNone
import Derived.Shelf.SlMaps.Clone
import Derived.Ground.SlmcProg
import Derived.Shelf.SlIter.Nil
import Derived.Ground.GgzProg
import Derived.Shelf.Slices.Cells
import Derived.Ground.SlgnProg
import Derived.Deep.RegionHeld3
import Derived.StillTailTactics
import Derived.Lib.AtoiAll
import Derived.Lib.ItoaNum
import Derived.Lib.IndexMore
namespace Go.Proofs.YtldgpcmnmegioaaGreatDoor
open Go.RowKit

/-- A text of bytes. -/
def bs (l : List UInt8) : ByteArray := ⟨l.toArray⟩
theorem bs_data (l : List UInt8) : (bs l).data.toList = l := by simp [bs]
theorem bs_of (s : ByteArray) : bs s.data.toList = s := by cases s; simp [bs]
theorem bs_size (l : List UInt8) : (bs l).size = l.length := by simp [bs, ByteArray.size]
theorem bs_toList (l : List UInt8) : (bs l).toList = l := by rw [ByteArray.toList_eq, bs_data]
theorem bs_inj {a b : List UInt8} : bs a = bs b ↔ a = b := ⟨fun h => by rw [← bs_data a, h, bs_data], fun h => by rw [h]⟩
theorem size_len (s : ByteArray) : s.data.toList.length = s.size := by simp
theorem eq_bs {s : ByteArray} {l : List UInt8} (h : s.data.toList = l) : s = bs l := by rw [← h, bs_of]
theorem extract_bs (s : ByteArray) (a b : Nat) : s.extract a b = bs ((s.data.toList.drop a).take (b - a)) := by
  apply eq_bs; rw [← ByteArray.toList_eq, Lib.extract_toList]

theorem bs_append (a b : List UInt8) : bs a ++ bs b = bs (a ++ b) := by
  apply eq_bs
  simp [bs]
theorem bs_beq_ne {a b : List UInt8} (h : a ≠ b) : ((bs a).toList == (bs b).toList) = false := by rw [bs_toList, bs_toList]; simpa using h
theorem bs_bne_ne {a b : List UInt8} (h : a ≠ b) : ((bs a).toList != (bs b).toList) = true := by rw [bs_toList, bs_toList]; simpa using h
theorem bs_beq_eq {a b : List UInt8} (h : a = b) : ((bs a).toList == (bs b).toList) = true := by rw [h]; simp
theorem bs_bne_eq {a b : List UInt8} (h : a = b) : ((bs a).toList != (bs b).toList) = false := by rw [h]; simp
theorem ret_bool {a b : Bool} (h : a = b) : Ending.returned (.bool a) = .returned (.bool b) := by rw [h]
theorem ret_int {k : IntKind} {a b : Int} (h : a = b) : Ending.returned (.int k a) = .returned (.int k b) := by rw [h]
theorem ret_str {a b : ByteArray} (h : a = b) : Ending.returned (.string a) = .returned (.string b) := by rw [h]

/-- What stands between bytes c. -/
def splitOn (c : UInt8) : List UInt8 → List (List UInt8)
  | [] => [[]]
  | x :: r => if x = c then [] :: splitOn c r else
    match splitOn c r with
    | [] => [[x]]
    | p :: q => (x :: p) :: q
theorem splitOn_ne (c : UInt8) (l : List UInt8) : splitOn c l ≠ [] := by
  cases l with
  | nil => simp [splitOn]
  | cons x r => unfold splitOn; split <;> try simp
                split <;> simp
theorem splitOn_cons_eq (c : UInt8) (r : List UInt8) : splitOn c (c :: r) = [] :: splitOn c r := by simp [splitOn]
theorem splitOn_append (c : UInt8) (a r : List UInt8) (ha : c ∉ a) : splitOn c (a ++ c :: r) = a :: splitOn c r := by
  induction a with
  | nil => simp [splitOn]
  | cons x a ih =>
    have h1 : x ≠ c := fun e => ha (by simp [e])
    have h2 : c ∉ a := fun e => ha (by simp [e])
    rw [List.cons_append, splitOn, if_neg h1, ih h2]
theorem splitOn_none (c : UInt8) (a : List UInt8) (ha : c ∉ a) : splitOn c a = [a] := by
  induction a with
  | nil => rfl
  | cons x a ih =>
    have h1 : x ≠ c := fun e => ha (by simp [e])
    have h2 : c ∉ a := fun e => ha (by simp [e])
    rw [splitOn, if_neg h1, ih h2]

/-- No piece has the byte; joined again by it they are the text. -/
theorem splitOn_mem (c : UInt8) (l : List UInt8) : ∀ p ∈ splitOn c l, c ∉ p := by
  induction l with
  | nil => intro p hp; simp [splitOn] at hp; subst hp; simp
  | cons x r ih =>
    intro p hp
    unfold splitOn at hp
    split at hp
    · rcases List.mem_cons.1 hp with rfl | hp
      · simp
      · exact ih p hp
    · rename_i hx
      split at hp
      · simp at hp; subst hp; simp; exact fun e => hx e.symm
      · rename_i q qs hq
        rcases List.mem_cons.1 hp with rfl | hp
        · intro e
          rcases List.mem_cons.1 e with e | e
          · exact hx e.symm
          · exact ih q (by rw [hq]; simp) e
        · exact ih p (by rw [hq]; simp [hp])

/-- Pieces with the byte ahead of each. -/
def glue (c : UInt8) (L : List (List UInt8)) : List UInt8 := (L.map (c :: ·)).flatten
theorem glue_cons (c : UInt8) (p : List UInt8) (L) : glue c (p :: L) = c :: p ++ glue c L := by simp [glue]
theorem glue_append (c : UInt8) (A B) : glue c (A ++ B) = glue c A ++ glue c B := by simp [glue]
theorem glue_splitOn (c : UInt8) (l : List UInt8) : glue c (splitOn c l) = c :: l := by
  induction l with
  | nil => rfl
  | cons x r ih =>
    unfold splitOn
    split
    · rename_i h; subst h; rw [glue_cons, ih]; rfl
    · split
      · rename_i h; exact absurd h (splitOn_ne c r)
      · rename_i p q h
        rw [h, glue_cons] at ih
        rw [glue_cons]
        simp at ih ⊢
        exact ih
theorem splitOn_glue (c : UInt8) (p : List UInt8) (L : List (List UInt8)) (hp : c ∉ p) (h : ∀ q ∈ L, c ∉ q) : splitOn c (p ++ glue c L) = p :: L := by
  induction L generalizing p with
  | nil => simp [glue, splitOn_none c p hp]
  | cons q L ih =>
    rw [glue_cons, List.cons_append, splitOn_append c p _ hp, ih q (h q (by simp)) (fun r hr => h r (by simp [hr]))]

theorem splitOn_length_pos (c : UInt8) (l : List UInt8) : 1 ≤ (splitOn c l).length := by
  have := splitOn_ne c l
  cases h : splitOn c l with
  | nil => exact absurd h this
  | cons => simp

theorem index_cons_ne (b c : UInt8) (l : List UInt8) (h : b ≠ c) : Lib.index (b :: l) [c] = if Lib.index l [c] == -1 then -1 else Lib.index l [c] + 1 := by
  have hp : ([c] : List UInt8).isPrefixOf (b :: l) = false := by simp [List.isPrefixOf, Ne.symm h]
  rw [Lib.index, hp]; simp
theorem index_cons_eq (c : UInt8) (l : List UInt8) : Lib.index (c :: l) [c] = 0 := by rw [Lib.index]; simp [List.isPrefixOf]
theorem index_count (c : UInt8) (l : List UInt8) : Lib.index l [c] = -1 ↔ Lib.count l [c] = 0 := by
  constructor
  · exact fun h => Lib.count_miss h
  · intro h
    have hge := Lib.index_ge l [c]
    by_cases hm : Lib.index l [c] = -1
    · exact hm
    · obtain ⟨j, hj⟩ : ∃ j : Nat, Lib.index l [c] = j := ⟨(Lib.index l [c]).toNat, by omega⟩
      rw [Lib.count_hit (by simp) hj] at h
      omega
theorem splitK_on (c : UInt8) : ∀ (l : List UInt8), Lib.splitK [c] 0 (Lib.count l [c]) l = splitOn c l
  | [] => by rw [Lib.count_one]; rfl
  | b :: l => by
    have ih := splitK_on c l
    by_cases h : b = c
    · subst h
      rw [Lib.count_cons_eq, Nat.add_comm, Lib.splitK, index_cons_eq, splitOn_cons_eq]
      simp [ih]
    · rw [Lib.count_cons_ne b c l h, splitOn, if_neg h]
      cases hk : Lib.count l [c] with
      | zero =>
        rw [hk] at ih
        rw [← ih]; rfl
      | succ k =>
        rw [hk] at ih
        have hm : Lib.index l [c] ≠ -1 := fun e => by have := (index_count c l).1 e; omega
        have hge := Lib.index_ge l [c]
        obtain ⟨j, hj⟩ : ∃ j : Nat, Lib.index l [c] = j := ⟨(Lib.index l [c]).toNat, by omega⟩
        have hix : Lib.index (b :: l) [c] = ((j + 1 : Nat) : Int) := by rw [index_cons_ne b c l h, if_neg (fun e => hm (beq_iff_eq.1 e)), hj]; omega
        rw [← ih, Lib.splitK, Lib.splitK, hix, hj]
        have e1 : (((j + 1 : Nat) : Int) == -1) = false := by rw [beq_eq_false_iff_ne]; omega
        have e2 : (((j : Nat) : Int) == -1) = false := by rw [beq_eq_false_iff_ne]; omega
        rw [e1, e2]
        simp
/-- The pieces that strings.Split gives, at a separator of one byte. -/
theorem splitB_on (c : UInt8) (s : ByteArray) : Lib.splitB (bs [c]) 0 (Lib.countB s (bs [c])) s = (splitOn c s.data.toList).map bs := by
  have h := Lib.splitB_data (bs [c]) 0 (Lib.countB s (bs [c])) s
  have hc : Lib.countB s (bs [c]) = Lib.count s.data.toList [c] := by unfold Lib.countB; rw [bs_data]
  rw [hc] at h ⊢
  rw [bs_data, splitK_on] at h
  rw [← h, List.map_map]
  conv => lhs; rw [← List.map_id (Lib.splitB (bs [c]) 0 (Lib.count s.data.toList [c]) s)]
  apply List.map_congr_left
  intro x _
  simp [bs_of]
theorem countB_on (c : UInt8) (s : ByteArray) : Lib.countB s (bs [c]) + 1 = (splitOn c s.data.toList).length := by
  have h := Lib.splitB_all (bs [c]) (by rw [bs_size]; simp) 0 (Lib.countB s (bs [c])) s rfl
  rw [splitB_on, List.length_map] at h
  exact h.symm
end Go.Proofs.YtldgpcmnmegioaaGreatDoor
namespace Go.Proofs.YtldgpcmnmegioaaGreatDoor
open Go.RowKit

/-- Behind it nothing of what was there has turned. -/
def Ext (w w' : World) : Prop := Below w.heap.size w w'
theorem Ext.refl (w : World) : Ext w w := Below.refl _ _
theorem Ext.trans {a b c : World} (h : Ext a b) (k : Ext b c) : Ext a c := Below.trans h (Below.mono k h.size)
theorem Ext.alloc (w : World) (o : Obj) : Ext w (w.alloc o) := (Below.refl _ _).alloc (Nat.le_refl _) _
theorem Ext.drew {a b : World} (h : Ext a b) : Ext a b.drew := Below.drew h
theorem Ext.drewN {a b : World} (h : Ext a b) (n : Nat) : Ext a (b.drewN n) := ⟨h.os, h.tape, h.output, h.size, h.block⟩
theorem Ext.of_below {w w' : World} {B : Nat} (h : Below B w w') (hB : w.heap.size ≤ B) : Ext w w' := h.mono hB
theorem Ext.size {w w' : World} (h : Ext w w') : w.heap.size ≤ w'.heap.size := Below.size h
theorem Ext.cell {w w' : World} (h : Ext w w') {p : Addr} {v : Value} (hc : w.cell? p = some v) : w'.cell? p = some v := by
  have hp : p.block < w.heap.size := by
    rcases Nat.lt_or_ge p.block w.heap.size with hl | hl
    · exact hl
    · have e : w.heap[p.block]? = none := Array.getElem?_eq_none hl
      simp [World.cell?, e] at hc
  rw [Below.cell h hp]; exact hc
theorem Ext.heap {w w' : World} (h : Ext w w') {b : Nat} {o : Obj} (hc : w.heap[b]? = some o) : w'.heap[b]? = some o := by
  have hp : b < w.heap.size := by
    rcases Nat.lt_or_ge b w.heap.size with hl | hl
    · exact hl
    · rw [Array.getElem?_eq_none hl] at hc; cases hc
  rw [h.block b hp]; exact hc

structure Env (w : World) : Prop where
  shaped : w.ShapedOpen Tryz.prog
theorem Env.ext {w w' : World} (h : Env w) (k : Ext w w') : Env w' :=
  ⟨h.shaped.keptBut (Below.frame k (fun _ => False)) (fun _ hp => hp.elim)⟩

/-- A slice at this address has these texts. -/
def Strs (w : World) (a : Option Addr) (L : List (List UInt8)) : Prop :=
  L = [] ∨ ∃ g off, a = some ⟨g, off, none⟩ ∧ g < w.heap.size ∧ ∀ i, i < L.length → w.cell? ⟨g, off + i, none⟩ = some (.string (bs (L.getD i [])))
theorem Strs.nil (w : World) (a : Option Addr) : Strs w a [] := Or.inl rfl
theorem Strs.ext {w w' : World} {a : Option Addr} {L : List (List UInt8)} (h : Strs w a L) (k : Ext w w') : Strs w' a L := by
  rcases h with h | ⟨g, off, ha, hg, hc⟩
  · exact Or.inl h
  · exact Or.inr ⟨g, off, ha, Nat.lt_of_lt_of_le hg k.size, fun i hi => k.cell (hc i hi)⟩
theorem Strs.at {w : World} {a : Option Addr} {L : List (List UInt8)} (h : Strs w a L) (hL : L ≠ []) :
    ∃ g off, a = some ⟨g, off, none⟩ ∧ g < w.heap.size ∧ ∀ i, i < L.length → w.cell? ⟨g, off + i, none⟩ = some (.string (bs (L.getD i []))) :=
  h.resolve_left hL
theorem Strs.at0 {w : World} {b : Nat} {L : List (List UInt8)} (h : Strs w (some ⟨b, 0, none⟩) L) :
    ∀ i, i < L.length → w.cell? ⟨b, i, none⟩ = some (.string (bs (L.getD i []))) := by
  intro i hi
  rcases h with h | ⟨g, off, ha, _, hc⟩
  · rw [h] at hi; simp at hi
  · have ha := Option.some.inj ha
    obtain ⟨rfl, rfl⟩ : g = b ∧ off = 0 := by constructor <;> (cases ha; rfl)
    have := hc i hi
    rwa [Nat.zero_add] at this
/-- A new block of texts. -/
theorem Strs.made (w : World) (L : List (List UInt8)) (t : TypeId) : Strs (w.alloc (.cells ((L.map bs).map Value.string).toArray t)) (some ⟨w.heap.size, 0, none⟩) L := by
  refine Or.inr ⟨w.heap.size, 0, rfl, by simp, fun i hi => ?_⟩
  have h : (w.alloc (.cells ((L.map bs).map Value.string).toArray t)).heap[w.heap.size]? = some (.cells ((L.map bs).map Value.string).toArray t (0, 0)) := by
    show (w.heap.push _)[w.heap.size]? = _
    simp
  unfold World.cell?
  simp only [h]
  simp [hi]
end Go.Proofs.YtldgpcmnmegioaaGreatDoor
namespace Go.Proofs.YtldgpcmnmegioaaGreatDoor
open Go.RowKit Go.WideShapes Go.ChangeShapes
section
variable {H : Type} {enc : TypeId × Value → H}
theorem trodAll_ext {P : Program} (hl : laidOutB P = true) {W W' : World} (hb : Ext W W') : ∀ (ts : List TypeId) (vs : List Value) (ds : List (DataW H)) (ps : List MemPlace),
    (ts.all fun t => P.readableRec t && decide (t < P.types.size)) = true →
    DataW.TrodAll enc P W 0 (fun _ => true) true ts vs ds ps → (∀ x ∈ ps, x.block < W.heap.size) →
    DataW.TrodAll enc P W' 0 (fun b => decide (b < W.heap.size)) true ts vs ds ps
  | [], [], [], _, _, h, _ => h
  | t :: ts, v :: vs, d :: ds, ps, hr, h, hlt => by
    obtain ⟨p, q, h1, h2, rfl⟩ := h
    simp only [List.all_cons, Bool.and_eq_true, decide_eq_true_eq] at hr
    exact ⟨p, q, Below.trod hl hr.1.1 hr.1.2 h1 hb (fun x hx => hlt x (List.mem_append_left _ hx)),
      trodAll_ext hl hb ts vs ds q hr.2 h2 (fun x hx => hlt x (List.mem_append_right _ hx)), rfl⟩
  | [], _ :: _, _, _, _, h, _ => h.elim
  | [], [], _ :: _, _, _, h, _ => h.elim
  | _ :: _, [], _, _, _, h, _ => h.elim
  | _ :: _, _ :: _, [], _, _, h, _ => h.elim
theorem law_post {P : Program} {f : Func} {s : ChangeSpec} {tb : TypeId} {W W' : World} {args : Array Value} {ds gs : List (DataW H)} {before : List MemPlace}
    (hl : laidOutB P = true) (hr : (f.params.toList.all fun t => P.readableRec t && decide (t < P.types.size)) = true)
    (hv : s.vars = []) (hres : f.resultTypes = #[tb]) (htb : P.underlying tb = some .bool)
    (hW : DataW.Whole enc P f.params.toList s.vars false W args.toList ds gs before)
    (hfn : s.fn H (ds ++ gs) = { results := [.lit (.bool true)], args := ds }) (hb : Ext W W') :
    s.post enc P f false true false false W args (.bool true) W' := by
  have hW' := hW
  have hlt := hW.lt
  obtain ⟨p, q, hA, hV, rfl, _, _⟩ := hW
  rw [hv] at hV
  have hq : gs = [] ∧ q = [] := by
    cases gs with
    | nil => exact ⟨rfl, hV⟩
    | cons _ _ => exact hV.elim
  obtain ⟨rfl, rfl⟩ := hq
  refine ⟨ds, [], p ++ [], [], p, [], hW', ?_, ?_, ?_, ?_, fun h => by cases h⟩
  · rw [hfn, hres]
    exact trodAll_cons_mk (shut_bool htb true) trodAll_mk0
  · rw [hfn]
    exact trodAll_ext hl hb _ _ _ _ hr hA (fun x hx => hlt x (List.mem_append_left _ hx))
  · rw [hfn, hv]; rfl
  · exact Below.frame hb _
end
theorem cells_string : Tryz.prog.cellsOf 9 = 1 := by kernel_rfl
set_option maxRecDepth 100000 in
/-- A []string that came in. -/
theorem open_texts {H : Type} {enc : TypeId × Value → H} {W : World} {base b0 : Nat} {v : Value} {d : DataW H} {ps : List MemPlace} {held : Bool}
    (hval : Value.okWide Tryz.prog W .any b0 62 v) (hd : DataW.Trod enc Tryz.prog W base (fun _ => true) held 62 v d ps) :
    ∃ (a : Option Addr) (L : List (List UInt8)) (c : Nat), v = .slice a L.length c ∧ L.length ≤ c ∧ Strs W a L := by
  obtain ⟨a0, len, cap, rfl⟩ := okWide_slice Tryz.underlying62 hval
  obtain ⟨fuel, hf⟩ := hd
  rcases open_strings Tryz.underlying62 Tryz.underlying9 cells_string hf with ⟨hcs, hx⟩ | ⟨a, len', cap', ss, hcs, _, hl, hm, hz, hx, hcell, hws⟩
  · simp [Value.cells] at hcs
    obtain ⟨rfl, rfl, rfl⟩ := hcs
    exact ⟨none, [], 0, rfl, Nat.le_refl _, Strs.nil _ _⟩
  · simp [Value.cells] at hcs
    obtain ⟨rfl, rfl, rfl⟩ := hcs
    have hz' : ss.length = cap := by simpa using hz
    have hLl : ((ss.take len).map (·.data.toList)).length = len := by simp; omega
    refine ⟨some a, (ss.take len).map (·.data.toList), cap, by rw [hLl], by rw [hLl]; exact hl, ?_⟩
    by_cases h0 : (ss.take len).map (·.data.toList) = []
    · exact Or.inl h0
    · have hlen : 0 < len := by
        rcases Nat.eq_zero_or_pos len with h | h
        · subst h; simp at h0
        · exact h
      have hc0 := hcell 0 (by omega)
      have e0 : a.add 0 = a := by simp [Addr.add]
      rw [e0] at hc0
      have hspot : a.spot = none := by
        cases hs : a.spot with
        | none => rfl
        | some x =>
          simp only [World.cell?] at hc0
          split at hc0
          · rw [hs] at hc0; simp at hc0
          · cases hc0
      have hblk : a.block < W.heap.size := by
        rcases Nat.lt_or_ge a.block W.heap.size with h | h
        · exact h
        · have e : W.heap[a.block]? = none := Array.getElem?_eq_none h
          simp [World.cell?, e] at hc0
      refine Or.inr ⟨a.block, a.off, by cases a; simp at hspot; subst hspot; rfl, hblk, fun i hi => ?_⟩
      have hi' : i < len := by rw [hLl] at hi; exact hi
      have hc := hcell i (by omega)
      have ea : a.add i = ⟨a.block, a.off + i, none⟩ := by
        cases a; simp at hspot; subst hspot
        unfold Addr.add; split
        · rename_i h; subst h; rfl
        · rfl
      rw [ea] at hc
      rw [hc]
      have hi2 : i < ss.length := by omega
      simp [hi', hi2, bs_of]
theorem stand_ins {P : Program} {ps : Array TypeId} (h : (ps.toList.all fun t => !P.wantsStandIn t) = true) : ∀ (j : Nat) t, ps[j]? = some t → P.wantsStandIn t = false := by
  intro j t ht
  have hm : t ∈ ps.toList := by
    have := Array.mem_of_getElem? ht
    simpa using this
  have := List.all_eq_true.1 h t hm
  simpa using this
/-- A world with some blocks' cells laid anew. -/
def layCells (w : World) (b : Nat) (cs : Array Value) : World :=
  { w with heap := w.heap.modify b fun
      | .cells _ t frozen => .cells cs t frozen
      | o => o }
theorem own : ownKnob Tryz.prog.godebug = none := by kernel_rfl
theorem laidOutP : laidOutB Tryz.prog = true := by kernel_rfl
def cellsFirst : Array Value := (Go.Pinned.utf8FirstZ.map fun (n : Nat) => Value.int .u8 (n : Int)).toArray
def cellsRanges : Array Value := ([128, 191, 160, 191, 128, 159, 144, 191, 128, 143, 0, 0, 0, 0, 0, 0, 0, 0, 0, 0, 0, 0, 0, 0, 0, 0, 0, 0, 0, 0, 0, 0].map fun (n : Int) => Value.int .u8 n).toArray
/-- A world in which the two tables of unicode/utf8 are laid. -/
noncomputable def laidUtf8 (os : Os) : World :=
  layCells (layCells (World.holding Tryz.prog os ⟨#[], #[], []⟩) 1 cellsFirst) 2 cellsRanges
end Go.Proofs.YtldgpcmnmegioaaGreatDoor
namespace Go.Proofs.YtldgpcmnmegioaaGreatDoor
open Go.RowKit
/-- 'out = append(out, u)', out nil or the call's own. -/
theorem append_one {P : Program} {w : World} {ops : Array Oper} {rest : List Oper} {o : Oper} {a : Act} {Q : Exit → Act → World → Prop} (hgd : o.guard = none) (s x : Operand) (T : TypeId)
    (ho : o.op = .call { callee := .builtin .append, args := #[s, x], argTypes := #[T, T] })
    (E : TypeId) (z : Value) (bytes : Nat) (hT : P.underlying T = some (.slice E)) (hi : (P.info? E).map (fun i => (i.zero, i.size, i.bytes)) = some (some z, 1, bytes)) (hz1 : z.cells.size = 1)
    (base : Nat) (ad : Option Addr) (n cap : Nat) (xs : List Value) (hs : a.eval s = .slice ad n cap) (hown : w.ownsRow base E 1 (.slice ad n cap) n xs)
    (u : Value) (hu : u.oneCell' = true) (hx : a.eval x = .slice (some ⟨w.heap.size, 0, none⟩) 1 1)
    (h63 : n + 1 ≤ 1099511627776) (hbytes : bytes ≤ 128) (hbase : base ≤ w.heap.size)
    (h : ∀ g cap' w', w'.ownsRow base E 1 (.slice (some ⟨g, 0, none⟩) (n + 1) cap') (n + 1) (xs ++ [u]) → n + 1 ≤ cap' → Below base w w' → (w.alloc (.cells #[u] E)).grownBy w' (Value.slice ad n cap).ownBlock →
      wpList P ops Q rest (a.put o.dst (.slice (some ⟨g, 0, none⟩) (n + 1) cap')) w') :
    wpList P ops Q (o :: rest) a (w.alloc (.cells #[u] E)) := by
  obtain ⟨i, hi0, hz, hsz, hby⟩ := info_parts hi
  refine wpList_append_own _ hgd s x T ho base E i z 1 bytes hT hi0 hz hsz hby hz1 (by decide) _ n xs hs (hown.alloc _) ⟨w.heap.size, 0, none⟩ 1 1 [u] hx rfl ?_ ?_ ?_ ?_ ?_ ?_
  · intro j v hj
    match j, hj with
    | 0, hj => simp at hj; subst hj; simp [Addr.add]
  · intro v hv; simp at hv; subst hv; exact hu
  · unfold maxLen; omega
  · have : (n + 1) * bytes ≤ 1099511627776 * 128 := Nat.mul_le_mul h63 hbytes
    omega
  · simp; omega
  · intro v' w' hown' hg hnil
    rcases hown'.2 with ⟨h1, h2⟩ | ⟨g, cap', cur, rfl, hg1, hg2, hg3, _⟩
    · omega
    · refine h g cap' w' hown' hg3 ?_ hg
      exact ((Below.refl _ _).alloc hbase _).grown hg (by simp; omega) (fun k hk => ((hown.alloc (.cells #[u] E)).lt k hk).1)

/-- Texts that the call has gathered so far. -/
def OwnS (w : World) (base : Nat) (a : Option Addr) (cap : Nat) (D : List (List UInt8)) : Prop := w.ownsRow base 9 1 (.slice a D.length cap) D.length (D.map fun p => .string (bs p))
theorem OwnS.strs {w : World} {base : Nat} {a : Option Addr} {cap : Nat} {D : List (List UInt8)} (h : OwnS w base a cap D) : Strs w a D ∧ D.length ≤ cap := by
  rcases h.2 with ⟨h1, h2⟩ | ⟨g, c, cur, h1, _, hg, hn, _⟩
  · have : D = [] := List.eq_nil_of_length_eq_zero h2
    subst this; exact ⟨Strs.nil _ _, Nat.zero_le _⟩
  · simp only [Value.slice.injEq] at h1
    obtain ⟨rfl, _, rfl⟩ := h1
    refine ⟨Or.inr ⟨g, 0, rfl, (Array.getElem?_eq_some_iff.1 hg).1, fun i hi => ?_⟩, hn⟩
    rw [Nat.zero_add, World.ownsRow.cellAt h i (by omega)]
    simp [hi]
theorem OwnS.nil (w : World) (base : Nat) : OwnS w base none 0 [] := World.ownsRow_nil _ _ _ _
theorem OwnS.ext {w w' : World} {base : Nat} {a : Option Addr} {cap : Nat} {D : List (List UInt8)} (h : OwnS w base a cap D) (k : Ext w w') : OwnS w' base a cap D := by
  refine ⟨h.1, ?_⟩
  rcases h.2 with h1 | ⟨g, c, cur, h1, hb, hg, r⟩
  · exact Or.inl h1
  · exact Or.inr ⟨g, c, cur, h1, hb, k.heap hg, r⟩
theorem info_string : (Tryz.prog.info? 9).map (fun i => (i.zero, i.size, i.bytes)) = some (some (.string ⟨#[]⟩), 1, 16) := by kernel_rfl
/-- 'out = append(out, text)'. -/
theorem append_text {w : World} {ops : Array Oper} {rest : List Oper} {o : Oper} {a : Act} {Q : Exit → Act → World → Prop} (hgd : o.guard = none) (s x : Operand)
    (ho : o.op = .call { callee := .builtin .append, args := #[s, x], argTypes := #[62, 62] })
    (base : Nat) (ad : Option Addr) (cap : Nat) (D : List (List UInt8)) (p : List UInt8) (hs : a.eval s = .slice ad D.length cap) (hown : OwnS w base ad cap D)
    (hx : a.eval x = .slice (some ⟨w.heap.size, 0, none⟩) 1 1)
    (h63 : D.length + 1 ≤ 1099511627776) (hbase : base ≤ w.heap.size)
    (h : ∀ g cap' w', OwnS w' base (some ⟨g, 0, none⟩) cap' (D ++ [p]) → Below base w w' →
      wpList Tryz.prog ops Q rest (a.put o.dst (.slice (some ⟨g, 0, none⟩) (D.length + 1) cap')) w') :
    wpList Tryz.prog ops Q (o :: rest) a (w.alloc (.cells #[.string (bs p)] 9)) := by
  refine append_one hgd s x _ ho 9 (.string ⟨#[]⟩) 16 Tryz.underlying62 info_string rfl base ad D.length cap _ hs hown (.string (bs p)) rfl hx h63 (by decide) hbase ?_
  intro g cap' w' hown' hcap hb _
  refine h g cap' w' ?_ hb
  unfold OwnS
  simp only [List.length_append, List.length_cons, List.length_nil, List.map_append, List.map_cons, List.map_nil]
  exact hown'
end Go.Proofs.YtldgpcmnmegioaaGreatDoor
namespace Go.Proofs.YtldgpcmnmegioaaGreatDoor
/-- What a reader has left, and whether something was bad. -/
abbrev RSt := List UInt8 × Bool
def byteAt (l : List UInt8) (i : Nat) : Nat := (l.getD i 0).toNat
def le32 (l : List UInt8) : Nat := byteAt l 0 + 256 * byteAt l 1 + 65536 * byteAt l 2 + 16777216 * byteAt l 3
def num4 (n : Nat) : List UInt8 := [UInt8.ofNat n, UInt8.ofNat (n / 256), UInt8.ofNat (n / 65536), UInt8.ofNat (n / 16777216)]
theorem num4_len (n : Nat) : (num4 n).length = 4 := rfl
theorem le32_lt (l : List UInt8) : le32 l < 4294967296 := by
  unfold le32 byteAt
  have h0 := (l.getD 0 0).toNat_lt
  have h1 := (l.getD 1 0).toNat_lt
  have h2 := (l.getD 2 0).toNat_lt
  have h3 := (l.getD 3 0).toNat_lt
  omega
theorem u8_ofNat_eq {n : Nat} {b : UInt8} (h : n % 256 = b.toNat) : UInt8.ofNat n = b := by
  apply UInt8.toNat_inj.1
  rw [UInt8.toNat_ofNat']
  exact h
theorem num4_le32 {l : List UInt8} (h : 4 ≤ l.length) : num4 (le32 l) ++ l.drop 4 = l := by
  match l, h with
  | a :: b :: c :: d :: r, _ =>
    have ha := a.toNat_lt
    have hb := b.toNat_lt
    have hc := c.toNat_lt
    have hd := d.toNat_lt
    have e : le32 (a :: b :: c :: d :: r) = a.toNat + 256 * b.toNat + 65536 * c.toNat + 16777216 * d.toNat := rfl
    have e0 : UInt8.ofNat (le32 (a :: b :: c :: d :: r)) = a := u8_ofNat_eq (by rw [e]; omega)
    have e1 : UInt8.ofNat (le32 (a :: b :: c :: d :: r) / 256) = b := u8_ofNat_eq (by rw [e]; omega)
    have e2 : UInt8.ofNat (le32 (a :: b :: c :: d :: r) / 65536) = c := u8_ofNat_eq (by rw [e]; omega)
    have e3 : UInt8.ofNat (le32 (a :: b :: c :: d :: r) / 16777216) = d := u8_ofNat_eq (by rw [e]; omega)
    unfold num4
    rw [e0, e1, e2, e3]
    rfl
/-- A number up to a bound. -/
def rNum (most : Nat) (s : RSt) : Nat × RSt :=
  if s.1.length < 4 then (0, ([], true)) else
  if most < le32 s.1 then (0, ([], true)) else (le32 s.1, (s.1.drop 4, s.2))
/-- Bytes up to a bound. -/
def rRaw (most : Nat) (s : RSt) : List UInt8 × RSt :=
  if (rNum most s).2.1.length < (rNum most s).1 then ([], ([], true))
  else ((rNum most s).2.1.take (rNum most s).1, ((rNum most s).2.1.drop (rNum most s).1, (rNum most s).2.2))
/-- A list: its own reader, and what is left. -/
def rList (s : RSt) : RSt × RSt := (((rRaw 16777216 s).1, (rRaw 16777216 s).2.2), (rRaw 16777216 s).2)
def raw4 (l : List UInt8) : List UInt8 := num4 l.length ++ l
theorem rNum_good {most : Nat} {s : RSt} {n : Nat} {l : List UInt8} (h : rNum most s = (n, (l, false))) : s.2 = false ∧ s.1 = num4 n ++ l ∧ n ≤ most ∧ n < 4294967296 := by
  unfold rNum at h
  split at h
  · simp at h
  · split at h
    · simp at h
    · simp only [Prod.mk.injEq] at h
      obtain ⟨h1, h2, h3⟩ := h
      subst h1 h2
      exact ⟨h3, (num4_le32 (by omega)).symm, by omega, le32_lt _⟩
theorem rRaw_good {most : Nat} {s : RSt} {p l : List UInt8} (h : rRaw most s = (p, (l, false))) : s.2 = false ∧ s.1 = raw4 p ++ l ∧ p.length ≤ most := by
  unfold rRaw at h
  split at h
  · simp at h
  · rename_i hlt
    simp only [Prod.mk.injEq] at h
    obtain ⟨h1, h2, h3⟩ := h
    have hn : rNum most s = ((rNum most s).1, ((rNum most s).2.1, false)) := by rw [← h3]
    obtain ⟨g1, g2, g3, _⟩ := rNum_good hn
    have hl : p.length = (rNum most s).1 := by rw [← h1, List.length_take]; omega
    refine ⟨g1, ?_, by omega⟩
    rw [g2, raw4, hl, List.append_assoc, ← h1, ← h2, List.take_append_drop]
theorem rList_good {s a b : RSt} (h : rList s = (a, b)) (ha : a.2 = false) : s.2 = false ∧ s.1 = raw4 a.1 ++ b.1 ∧ b.2 = false := by
  obtain ⟨m, e⟩ := a
  simp only at ha
  subst ha
  unfold rList at h
  simp only [Prod.mk.injEq] at h
  obtain ⟨h1, h2⟩ := h
  have hr : rRaw 16777216 s = (m, (b.1, false)) := by rw [← h1.1, ← h2, ← h1.2]
  obtain ⟨g1, g2, _⟩ := rRaw_good hr
  exact ⟨g1, g2, by rw [← h2, h1.2]⟩
theorem rNum_len (most : Nat) (s : RSt) : (rNum most s).2.1.length ≤ s.1.length := by
  unfold rNum; split
  · simp
  · split <;> simp
theorem rNum_less {most : Nat} {s : RSt} (h : 0 < s.1.length) : (rNum most s).2.1.length < s.1.length := by
  unfold rNum; split
  · simpa using h
  · split
    · simpa using h
    · simp; omega
theorem rRaw_len (most : Nat) (s : RSt) : (rRaw most s).2.1.length ≤ s.1.length ∧ (rRaw most s).1.length ≤ s.1.length := by
  have := rNum_len most s
  unfold rRaw; split
  · simp
  · simp; omega
theorem rRaw_less {most : Nat} {s : RSt} (h : 0 < s.1.length) : (rRaw most s).2.1.length < s.1.length := by
  have := rNum_less (most := most) h
  unfold rRaw; split
  · simpa using h
  · simp; omega
theorem rNum_le (most : Nat) (s : RSt) : (rNum most s).1 ≤ most := by
  unfold rNum; split
  · simp
  · split
    · simp
    · simp; omega
/-- Nothing is left, and nothing was bad. -/
def rDone (s : RSt) : Bool := !s.2 && decide (s.1.length = 0)
theorem rDone_of {s : RSt} (h : rDone s = true) : s = ([], false) := by
  obtain ⟨l, b⟩ := s
  unfold rDone at h
  simp only [Bool.and_eq_true, Bool.not_eq_true', decide_eq_true_eq] at h
  obtain ⟨rfl, h⟩ := h
  rw [List.eq_nil_of_length_eq_zero h]
end Go.Proofs.YtldgpcmnmegioaaGreatDoor
namespace Go.Proofs.YtldgpcmnmegioaaGreatDoor
open Go.RowKit
/-- A slice at this address has these bytes. -/
def Bytes (w : World) (a : Option Addr) (l : List UInt8) : Prop :=
  l = [] ∨ ∃ g off, a = some ⟨g, off, none⟩ ∧ g < w.heap.size ∧ ∀ i, i < l.length → w.cell? ⟨g, off + i, none⟩ = some (.int .u8 (byteAt l i : Nat))
theorem Bytes.ext {w w' : World} {a : Option Addr} {l : List UInt8} (h : Bytes w a l) (k : Ext w w') : Bytes w' a l := by
  rcases h with h | ⟨g, off, ha, hg, hc⟩
  · exact Or.inl h
  · exact Or.inr ⟨g, off, ha, Nat.lt_of_lt_of_le hg k.size, fun i hi => k.cell (hc i hi)⟩
theorem Bytes.at {w : World} {a : Option Addr} {l : List UInt8} (h : Bytes w a l) (hL : l ≠ []) :
    ∃ g off, a = some ⟨g, off, none⟩ ∧ g < w.heap.size ∧ ∀ i, i < l.length → w.cell? ⟨g, off + i, none⟩ = some (.int .u8 (byteAt l i : Nat)) :=
  h.resolve_left hL
/-- But for one block all that was there is as it was. -/
structure But (R : Nat) (w w' : World) : Prop where
  os : w'.os = w.os
  tape : w'.tape = w.tape
  output : w'.output = w.output
  size : w.heap.size ≤ w'.heap.size
  block : ∀ k, k < w.heap.size → k ≠ R → w'.heap[k]? = w.heap[k]?
theorem But.refl (R : Nat) (w : World) : But R w w := ⟨rfl, rfl, rfl, Nat.le_refl _, fun _ _ _ => rfl⟩
theorem But.trans {R : Nat} {a b c : World} (h : But R a b) (k : But R b c) : But R a c :=
  ⟨k.os.trans h.os, k.tape.trans h.tape, k.output.trans h.output, Nat.le_trans h.size k.size, fun i hi hn => (k.block i (Nat.lt_of_lt_of_le hi h.size) hn).trans (h.block i hi hn)⟩
theorem But.of_ext {R : Nat} {a b : World} (h : Ext a b) : But R a b := ⟨h.os, h.tape, h.output, h.size, fun k hk _ => h.block k hk⟩
theorem But.drewN {R : Nat} {a b : World} (h : But R a b) (n : Nat) : But R a (b.drewN n) := ⟨h.os, h.tape, h.output, h.size, h.block⟩
theorem But.alloc {R : Nat} {a b : World} (h : But R a b) (o : Obj) : But R a (b.alloc o) := h.trans (But.of_ext (Ext.alloc _ _))
theorem But.setCell {R : Nat} {a b : World} (h : But R a b) (i : Nat) (v : Value) : But R a (b.setCell ⟨R, i, none⟩ v) :=
  h.trans ⟨rfl, rfl, rfl, by simp [World.setCell], fun k _ hk => Below.heap_setCell _ _ _ _ hk⟩
/-- From before the block was made. -/
theorem But.ext {R : Nat} {w a b : World} (h : Ext w a) (k : But R a b) (hR : w.heap.size ≤ R) : Ext w b :=
  ⟨k.os.trans h.os, k.tape.trans h.tape, k.output.trans h.output, Nat.le_trans h.size k.size, fun i hi => (k.block i (Nat.lt_of_lt_of_le hi h.size) (by omega)).trans (h.block i hi)⟩
theorem But.cell {R : Nat} {w w' : World} (k : But R w w') {g o : Nat} {v : Value} (hg : g ≠ R) (hv : w.cell? ⟨g, o, none⟩ = some v) : w'.cell? ⟨g, o, none⟩ = some v := by
  have hlt : g < w.heap.size := by
    rcases Nat.lt_or_ge g w.heap.size with hl | hl
    · exact hl
    · have e : w.heap[g]? = none := Array.getElem?_eq_none hl
      simp [World.cell?, e] at hv
  rw [World.cell?_of_block (w := w) (w' := w') (a := ⟨g, o, none⟩) (k.block g hlt hg)]; exact hv
/-- The reader's block with another row. -/
theorem setCell_row {w : World} {R i : Nat} {cs : Array Value} {t : TypeId} {fr : Nat × Nat} (hg : w.heap[R]? = some (.cells cs t fr)) (v : Value) :
    (w.setCell ⟨R, i, none⟩ v).heap[R]? = some (.cells (cs.setIfInBounds i v) t fr) := by
  simp only [World.setCell, Array.getElem?_modify, hg]
  simp
/-- w' is w in all blocks of a kind. -/
structure Keep (S : Nat → Prop) (w w' : World) : Prop where
  os : w'.os = w.os
  tape : w'.tape = w.tape
  output : w'.output = w.output
  size : w.heap.size ≤ w'.heap.size
  block : ∀ k, k < w.heap.size → S k → w'.heap[k]? = w.heap[k]?
theorem Keep.refl (S : Nat → Prop) (w : World) : Keep S w w := ⟨rfl, rfl, rfl, Nat.le_refl _, fun _ _ _ => rfl⟩
theorem Keep.trans {S : Nat → Prop} {a b c : World} (h : Keep S a b) (k : Keep S b c) : Keep S a c :=
  ⟨k.os.trans h.os, k.tape.trans h.tape, k.output.trans h.output, Nat.le_trans h.size k.size, fun i hi hn => (k.block i (Nat.lt_of_lt_of_le hi h.size) hn).trans (h.block i hi hn)⟩
theorem Keep.mono {S T : Nat → Prop} {a b : World} (h : Keep S a b) (hT : ∀ k, k < a.heap.size → T k → S k) : Keep T a b := ⟨h.os, h.tape, h.output, h.size, fun k hk hS => h.block k hk (hT k hk hS)⟩
theorem Keep.of_ext {S : Nat → Prop} {a b : World} (h : Ext a b) : Keep S a b := ⟨h.os, h.tape, h.output, h.size, fun k hk _ => h.block k hk⟩
theorem Keep.of_below {B : Nat} {a b : World} (h : Below B a b) : Keep (· < B) a b := ⟨h.os, h.tape, h.output, h.size, fun k _ hS => h.block k hS⟩
theorem Keep.of_but {R : Nat} {a b : World} (h : But R a b) : Keep (· ≠ R) a b := ⟨h.os, h.tape, h.output, h.size, fun k hk hS => h.block k hk hS⟩
theorem Keep.of_grown {row : Option Nat} {a b : World} (h : a.grownBy b row) : Keep (fun k => some k ≠ row) a b := ⟨h.os, h.tape, h.output, h.size, fun k hk hS => h.block k hk hS⟩
theorem Keep.ext {a b : World} (h : Keep (fun _ => True) a b) : Ext a b := ⟨h.os, h.tape, h.output, h.size, fun k hk => h.block k hk trivial⟩
theorem Keep.drewN {S : Nat → Prop} {a b : World} (h : Keep S a b) (n : Nat) : Keep S a (b.drewN n) := ⟨h.os, h.tape, h.output, h.size, h.block⟩
theorem Keep.heap {S : Nat → Prop} {w w' : World} (h : Keep S w w') {g : Nat} {o : Obj} (hS : S g) (hg : w.heap[g]? = some o) : w'.heap[g]? = some o :=
  (h.block g (Array.getElem?_eq_some_iff.1 hg).1 hS).trans hg
theorem lt_of_cell {w : World} {g o : Nat} {v : Value} (hv : w.cell? ⟨g, o, none⟩ = some v) : g < w.heap.size := by
  rcases Nat.lt_or_ge g w.heap.size with hl | hl
  · exact hl
  · have e : w.heap[g]? = none := Array.getElem?_eq_none hl
    simp [World.cell?, e] at hv
theorem Keep.cell {S : Nat → Prop} {w w' : World} (k : Keep S w w') {g o : Nat} {v : Value} (hg : S g) (hv : w.cell? ⟨g, o, none⟩ = some v) : w'.cell? ⟨g, o, none⟩ = some v := by
  rw [World.cell?_of_block (w := w) (w' := w') (a := ⟨g, o, none⟩) (k.block g (lt_of_cell hv) hg)]; exact hv
/-- A slice at this address has these cells, in a block of a kind. -/
def Row (S : Nat → Prop) (w : World) (a : Option Addr) (cs : List Value) : Prop :=
  cs = [] ∨ ∃ g off, a = some ⟨g, off, none⟩ ∧ g < w.heap.size ∧ S g ∧ ∀ i, i < cs.length → w.cell? ⟨g, off + i, none⟩ = cs[i]?
theorem Row.keep {S : Nat → Prop} {w w' : World} {a : Option Addr} {cs : List Value} (h : Row S w a cs) (k : Keep S w w') : Row S w' a cs := by
  rcases h with h | ⟨g, off, ha, hg, hS, hc⟩
  · exact Or.inl h
  · refine Or.inr ⟨g, off, ha, Nat.lt_of_lt_of_le hg k.size, hS, fun i hi => ?_⟩
    have := hc i hi
    rw [List.getElem?_eq_getElem hi] at this ⊢
    exact k.cell hS this
theorem Row.mono {S T : Nat → Prop} {w : World} {a : Option Addr} {cs : List Value} (h : Row S w a cs) (hT : ∀ k, k < w.heap.size → S k → T k) : Row T w a cs := by
  rcases h with h | ⟨g, off, ha, hg, hS, hc⟩
  · exact Or.inl h
  · exact Or.inr ⟨g, off, ha, hg, hT g hg hS, hc⟩
theorem Row.at {S : Nat → Prop} {w : World} {a : Option Addr} {cs : List Value} (h : Row S w a cs) (hL : cs ≠ []) :
    ∃ g off, a = some ⟨g, off, none⟩ ∧ g < w.heap.size ∧ S g ∧ ∀ i, i < cs.length → w.cell? ⟨g, off + i, none⟩ = cs[i]? := h.resolve_left hL
/-- Bytes in a block of a kind. -/
def byteV (l : List UInt8) : List Value := l.map fun b => .int .u8 (b.toNat : Int)
def BytesS (S : Nat → Prop) (w : World) (a : Option Addr) (l : List UInt8) : Prop := Row S w a (byteV l)
theorem byteV_at {l : List UInt8} {i : Nat} (hi : i < l.length) : (byteV l)[i]? = some (.int .u8 (byteAt l i : Nat)) := by
  simp [byteV, byteAt, hi]
theorem BytesS.bytes {S : Nat → Prop} {w : World} {a : Option Addr} {l : List UInt8} (h : BytesS S w a l) : Bytes w a l := by
  rcases h with h | ⟨g, off, ha, hg, hS, hc⟩
  · left; simpa [byteV] using h
  · refine Or.inr ⟨g, off, ha, hg, fun i hi => ?_⟩
    rw [hc i (by simpa [byteV] using hi), byteV_at hi]
theorem Bytes.row {w : World} {a : Option Addr} {l : List UInt8} (h : Bytes w a l) : BytesS (fun _ => True) w a l := by
  rcases h with h | ⟨g, off, ha, hg, hc⟩
  · left; simp [byteV, h]
  · refine Or.inr ⟨g, off, ha, hg, trivial, fun i hi => ?_⟩
    have hi' : i < l.length := by simpa [byteV] using hi
    rw [hc i hi', byteV_at hi']
theorem cell_new (w : World) (cs : Array Value) (t : TypeId) (i : Nat) (v : Value) (h : cs[i]? = some v) : (w.alloc (.cells cs t)).cell? ⟨w.heap.size, i, none⟩ = some v := by
  rw [cell_of_row _ _ _ _ _ _ (heap_alloc_new w _)]; exact h
theorem ext_below {a b c d : World} {B : Nat} (hB : a.heap.size = B) (h : Ext a b) (h2 : Ext b c) (h3 : Below B c d) : Ext a d := by
  subst hB
  exact Below.trans (h.trans h2) h3
theorem blk_cell {w : World} {R : Nat} {cs : Array Value} {t : TypeId} (hg : w.heap[R]? = some (.cells cs t (0, 0))) (i : Nat) (v : Value) (hi : cs[i]? = some v) : w.cell? ⟨R, i, none⟩ = some v := by
  rw [cell_of_row _ _ _ _ _ _ hg]; exact hi
theorem blk_free {w : World} {R : Nat} {cs : Array Value} {t : TypeId} (hg : w.heap[R]? = some (.cells cs t (0, 0))) (i : Nat) : w.frozen? ⟨R, i, none⟩ = false := by
  unfold World.frozen?; simp only [hg]; simp
theorem Keep.setCell {S : Nat → Prop} {a b : World} (h : Keep S a b) {R : Nat} (hR : ∀ k, S k → k ≠ R) (i : Nat) (v : Value) : Keep S a (b.setCell ⟨R, i, none⟩ v) :=
  h.trans ⟨rfl, rfl, rfl, by simp [World.setCell], fun k _ hS => Below.heap_setCell _ _ _ _ (hR k hS)⟩
theorem Keep.ext_trans {S : Nat → Prop} {a b c : World} (h : Keep S a b) (k : Ext b c) : Keep S a c := h.trans (Keep.of_ext k)
theorem ownsRow_keep {S : Nat → Prop} {w w' : World} {base e size n : Nat} {v : Value} {xs : List Value} (h : w.ownsRow base e size v n xs) (k : Keep S w w') (hS : ∀ g cur, v.ownBlock = some g → base ≤ g → w.heap[g]? = some (.cells cur e (0, 0)) → S g) : w'.ownsRow base e size v n xs := by
  refine ⟨h.1, ?_⟩
  rcases h.2 with h1 | ⟨g, c, cur, h1, hb, hg, r⟩
  · exact Or.inl h1
  · exact Or.inr ⟨g, c, cur, h1, hb, k.heap (hS g cur (by rw [h1]; rfl) hb hg) hg, r⟩
theorem Keep.ext_lt {a b : World} (h : Keep (· < a.heap.size) a b) : Ext a b := ⟨h.os, h.tape, h.output, h.size, fun k hk => h.block k hk hk⟩
theorem Keep.of_alloc {S : Nat → Prop} {w w' : World} {o : Obj} (h : Keep S (w.alloc o) w') : Keep S w w' := (Keep.of_ext (Ext.alloc w o)).trans h
end Go.Proofs.YtldgpcmnmegioaaGreatDoor
namespace Go.Proofs.YtldgpcmnmegioaaGreatDoor
open Go.RowKit Go.WideShapes Go.ChangeShapes
theorem cells_u8 : Tryz.prog.cellsOf 5 = 1 := by kernel_rfl
/-- An address at which a cell is read is a plain one. -/
theorem addr_plain {W : World} {a : Addr} {v : Value} (h : W.cell? a = some v) : ∃ g off, a = ⟨g, off, none⟩ ∧ g < W.heap.size := by
  have hspot : a.spot = none := by
    cases hs : a.spot with
    | none => rfl
    | some x =>
      simp only [World.cell?] at h
      split at h
      · rw [hs] at h; simp at h
      · cases h
  have hblk : a.block < W.heap.size := by
    rcases Nat.lt_or_ge a.block W.heap.size with h1 | h1
    · exact h1
    · have e : W.heap[a.block]? = none := Array.getElem?_eq_none h1
      simp [World.cell?, e] at h
  obtain ⟨g, off, sp⟩ := a
  simp only at hspot hblk
  subst hspot
  exact ⟨g, off, rfl, hblk⟩
theorem add_plain (g off n : Nat) : (⟨g, off, none⟩ : Addr).add n = ⟨g, off + n, none⟩ := by
  unfold Addr.add; split
  · rename_i h0; subst h0; rfl
  · rfl
set_option maxRecDepth 100000 in
/-- A []byte that came in. -/
theorem open_bytes {H : Type} {enc : TypeId × Value → H} {W : World} {base b0 : Nat} {v : Value} {d : DataW H} {ps : List MemPlace} {held : Bool}
    (hval : Value.okWide Tryz.prog W .any b0 36 v) (hd : DataW.Trod enc Tryz.prog W base (fun _ => true) held 36 v d ps) :
    ∃ (a : Option Addr) (l : List UInt8) (c : Nat), v = .slice a l.length c ∧ l.length ≤ c ∧ Bytes W a l := by
  obtain ⟨a0, len, cap, rfl⟩ := okWide_slice Tryz.underlying36 hval
  obtain ⟨fuel, hf⟩ := hd
  rcases open_ints Tryz.underlying36 Tryz.underlying5 cells_u8 hf with ⟨hcs, hx⟩ | ⟨a, len', cap', zs, hcs, _, hl, hm, hz, hx, hcell, hwf⟩
  · simp [Value.cells] at hcs
    obtain ⟨rfl, rfl, rfl⟩ := hcs
    exact ⟨none, [], 0, rfl, Nat.le_refl _, Or.inl rfl⟩
  · simp [Value.cells] at hcs
    obtain ⟨rfl, rfl, rfl⟩ := hcs
    have hz' : zs.length = cap := by simpa using hz
    have hLl : ((zs.take len).map fun n => UInt8.ofNat n.toNat).length = len := by simp; omega
    refine ⟨some a, (zs.take len).map fun n => UInt8.ofNat n.toNat, cap, by rw [hLl], by rw [hLl]; exact hl, ?_⟩
    rcases Nat.eq_zero_or_pos len with h0 | h0
    · left; subst h0; simp
    · have hc0 := hcell 0 (by omega)
      have e0 : a.add 0 = a := by simp [Addr.add]
      rw [e0] at hc0
      obtain ⟨g, off, rfl, hlt⟩ := addr_plain hc0
      refine Or.inr ⟨_, _, rfl, hlt, fun i hi => ?_⟩
      have hi' : i < len := by rw [hLl] at hi; exact hi
      have hc := hcell i (by omega)
      rw [add_plain] at hc
      rw [hc]
      have hi2 : i < zs.length := by omega
      have hw := hwf (zs.getD i 0) (by rw [List.getD_eq_getElem?_getD, List.getElem?_eq_getElem hi2]; simp)
      have hb : 0 ≤ zs.getD i 0 ∧ zs.getD i 0 < 256 := by
        simp only [Lit.wf, Bool.and_eq_true, decide_eq_true_eq] at hw
        have h1 : IntKind.u8.min = 0 := by decide
        have h2 : IntKind.u8.max = 255 := by decide
        rw [h1, h2] at hw
        omega
      simp [byteAt, hi', hi2] at hb ⊢
      omega
end Go.Proofs.YtldgpcmnmegioaaGreatDoor
namespace Go.Proofs.YtldgpcmnmegioaaGreatDoor
variable {α : Type}
def rAll (one : RSt → α × RSt) : Nat → RSt → List α × RSt
  | 0, s => ([], s)
  | f + 1, s => if s.1.length = 0 then ([], s) else ((one s).1 :: (rAll one f (one s).2).1, (rAll one f (one s).2).2)
/-- A reader of a part takes something. -/
def Takes (one : RSt → α × RSt) : Prop := ∀ s, 0 < s.1.length → (one s).2.1.length < s.1.length
theorem rAll_fuel {one : RSt → α × RSt} (less : Takes one) : ∀ (f g : Nat) (s : RSt), s.1.length ≤ f → s.1.length ≤ g → rAll one f s = rAll one g s
  | 0, 0, s, _, _ => rfl
  | 0, g + 1, s, h, _ => by have : s.1.length = 0 := by omega
                            simp only [rAll, if_pos this]
  | f + 1, 0, s, _, h => by have : s.1.length = 0 := by omega
                            simp only [rAll, if_pos this]
  | f + 1, g + 1, s, hf, hg => by
    by_cases h0 : s.1.length = 0
    · simp only [rAll, if_pos h0]
    · have hl := less s (by omega)
      simp only [rAll, if_neg h0, rAll_fuel less f g (one s).2 (by omega) (by omega)]
/-- All parts of a list, and what is left of it. -/
def rEach (one : RSt → α × RSt) (s : RSt) : List α × RSt := rAll one s.1.length s
theorem rEach_nil (one : RSt → α × RSt) {s : RSt} (h : s.1.length = 0) : rEach one s = ([], s) := by
  unfold rEach; rw [h]; rfl
theorem rEach_cons {one : RSt → α × RSt} (less : Takes one) {s : RSt} (h : 0 < s.1.length) :
    rEach one s = ((one s).1 :: (rEach one (one s).2).1, (rEach one (one s).2).2) := by
  have hl := less s h
  unfold rEach
  obtain ⟨n, hn⟩ : ∃ n, s.1.length = n + 1 := ⟨s.1.length - 1, by omega⟩
  rw [hn]
  simp only [rAll, if_neg (show ¬ s.1.length = 0 by omega), rAll_fuel less n _ (one s).2 (by omega) (Nat.le_refl _)]
/-- What was read goes back to the same bytes. -/
theorem rEach_good {one : RSt → α × RSt} {enc : α → List UInt8} (less : Takes one) (hone : ∀ s x l, one s = (x, (l, false)) → s.2 = false ∧ s.1 = enc x ++ l) :
    ∀ (n : Nat) (s : RSt) (L : List α) (l : List UInt8), s.1.length ≤ n → rEach one s = (L, (l, false)) → s.2 = false ∧ s.1 = L.flatMap enc ++ l ∧ L.length + l.length ≤ s.1.length := by
  intro n
  induction n with
  | zero =>
    intro s L l hs h
    rw [rEach_nil one (by omega)] at h
    simp only [Prod.mk.injEq] at h
    obtain ⟨rfl, h⟩ := h
    subst h
    simp
  | succ n ih =>
    intro s L l hs h
    by_cases h0 : s.1.length = 0
    · rw [rEach_nil one h0] at h
      simp only [Prod.mk.injEq] at h
      obtain ⟨rfl, h⟩ := h
      subst h
      simp
    · have hl := less s (by omega)
      rw [rEach_cons less (by omega)] at h
      simp only [Prod.mk.injEq] at h
      obtain ⟨rfl, h⟩ := h
      obtain ⟨h1, h2, h3⟩ := ih (one s).2 (rEach one (one s).2).1 l (by omega) (by rw [← h])
      have e : one s = ((one s).1, ((one s).2.1, false)) := by rw [← h1]
      obtain ⟨g1, g2⟩ := hone s _ _ e
      refine ⟨g1, ?_, ?_⟩
      · rw [List.flatMap_cons, List.append_assoc, ← h2]; exact g2
      · simp only [List.length_cons]; omega
/-- A text of a list. -/
def oneText (most : Nat) (s : RSt) : List UInt8 × RSt := rRaw most s
theorem oneText_takes (most : Nat) : Takes (oneText most) := fun _ h => rRaw_less h
theorem oneText_good {most : Nat} {s : RSt} {x l : List UInt8} (h : oneText most s = (x, (l, false))) : s.2 = false ∧ s.1 = raw4 x ++ l := by
  have := rRaw_good h; exact ⟨this.1, this.2.1⟩
/-- A number from four bytes' range or not. -/
def u32 (n : Int) : Nat := (n % 4294967296).toNat
theorem u32_lt (n : Int) : u32 n < 4294967296 := by unfold u32; omega
theorem u32_of {n : Nat} (h : n < 4294967296) : u32 (n : Int) = n := by unfold u32; omega
def numI (n : Int) : List UInt8 := num4 (u32 n)
theorem numI_len (n : Int) : (numI n).length = 4 := rfl
theorem raw4_len (l : List UInt8) : (raw4 l).length = 4 + l.length := by simp [raw4, num4_len]
end Go.Proofs.YtldgpcmnmegioaaGreatDoor
namespace Go.Proofs.YtldgpcmnmegioaaGreatDoor
open Go.RowKit
def signB (c : Int) : Bool := decide ((97 ≤ c ∧ c ≤ 122) ∨ (48 ≤ c ∧ c ≤ 57) ∨ c = 45 ∨ c = 46 ∨ c = 95)
theorem signB_t {c : Int} (h : (97 ≤ c ∧ c ≤ 122) ∨ (48 ≤ c ∧ c ≤ 57) ∨ c = 45 ∨ c = 46 ∨ c = 95) : signB c = true := decide_eq_true h
theorem signB_f {c : Int} (h : ¬((97 ≤ c ∧ c ≤ 122) ∨ (48 ≤ c ∧ c ≤ 57) ∨ c = 45 ∨ c = 46 ∨ c = 95)) : signB c = false := decide_eq_false h
theorem sign_any (c : Int) (w : World) :
    Calls Tryz.prog 90 #[.int .i32 c] w fun e w' => e = .returned (.bool (signB c)) ∧ w = w' := by
  go_enter Tryz.func90, Tryz.ntmps90
  go_wp2
  all_goals go_ret
  all_goals refine ⟨ret_bool ?_, rfl⟩
  all_goals first
    | exact (signB_t (by omega)).symm
    | (show (c == 95) = signB c; by_cases h : c = 95
       · rw [signB_t (by omega)]; simpa using h
       · rw [signB_f (by omega)]; simpa using h)
end Go.Proofs.YtldgpcmnmegioaaGreatDoor
namespace Go.Proofs.YtldgpcmnmegioaaGreatDoor
open Go.RowKit
def signs (l : List UInt8) : Bool := l.all fun b => signB (b.toNat : Int)
def nameL (l : List UInt8) : Bool := decide (1 ≤ l.length ∧ l.length ≤ 12 ∧ l ≠ [46] ∧ l ≠ [46, 46]) && signs l
theorem width_pos (s : ByteArray) (pos : Nat) (h : pos < s.size) : 1 ≤ (Utf8.decode s pos).2 := by
  by_cases ha : (s[pos]'h).toNat < 128
  · rw [decode_ascii s pos h ha]
    exact Nat.le_refl _
  · exact (decode_high s pos h (by omega)).2
theorem signB_lt {c : Int} (h : signB c = true) : c < 128 := by
  have := of_decide_eq_true h; omega
def okTo (s : ByteArray) (pos : Nat) : Prop := pos ≤ s.size ∧ signs (s.data.toList.take pos) = true
theorem okTo_zero (s : ByteArray) : okTo s 0 := ⟨Nat.zero_le _, by simp [signs]⟩
theorem signs_append (a b : List UInt8) : signs (a ++ b) = (signs a && signs b) := by simp [signs]
theorem signs_cons (a : UInt8) (b : List UInt8) : signs (a :: b) = (signB (a.toNat : Int) && signs b) := by simp [signs]
theorem split_at (s : ByteArray) (pos : Nat) (h : pos < s.size) : s.data.toList = s.data.toList.take pos ++ s[pos] :: s.data.toList.drop (pos + 1) := by
  have h' : pos < s.data.toList.length := by simpa using h
  conv => lhs; rw [← List.take_append_drop pos s.data.toList]
  rw [List.drop_eq_getElem_cons h']; rfl
theorem take_snoc (s : ByteArray) (k : Nat) (h : k < s.size) : s.data.toList.take (k + 1) = s.data.toList.take k ++ [s[k]] := by
  rw [List.take_succ_eq_append_getElem (by simpa using h)]; rfl
theorem decode_sign (s : ByteArray) (pos : Nat) (h : pos < s.size) (hs : signB ((Utf8.decode s pos).1 : Int) = true) : Utf8.decode s pos = ((s[pos]'h).toNat, 1) := by
  by_cases ha : (s[pos]'h).toNat < 128
  · exact decode_ascii s pos h ha
  · have := (decode_high s pos h (by omega)).1
    have := signB_lt hs
    omega
theorem okTo_step (s : ByteArray) (pos : Nat) (h : pos < s.size) (ho : okTo s pos) (hs : signB ((Utf8.decode s pos).1 : Int) = true) : okTo s (pos + (Utf8.decode s pos).2) := by
  have e := decode_sign s pos h hs
  rw [e] at hs ⊢
  refine ⟨by simp; omega, ?_⟩
  show signs (List.take (pos + 1) _) = true
  rw [take_snoc s pos h, signs_append, ho.2, signs_cons, hs]; simp [signs]
theorem nameL_bad (s : ByteArray) (pos : Nat) (h : pos < s.size) (hs : signB ((Utf8.decode s pos).1 : Int) = false) : nameL s.data.toList = false := by
  have : signs s.data.toList = false := by
    rw [split_at s pos h, signs_append, signs_cons]
    have : signB ((s[pos]'h).toNat : Int) = false := by
      by_cases ha : (s[pos]'h).toNat < 128
      · rw [decode_ascii s pos h ha] at hs; exact hs
      · exact signB_f (by omega)
    rw [this]; simp
  simp [nameL, this]
theorem nameL_good (s : ByteArray) (pos : Nat) (h : ¬ pos < s.size) (ho : okTo s pos) (h1 : 1 ≤ s.size) (h2 : s.size ≤ 12) (h3 : s.toList ≠ [46]) (h4 : s.toList ≠ [46, 46]) : nameL s.data.toList = true := by
  have : s.data.toList.take pos = s.data.toList := List.take_of_length_le (by simp; omega)
  have h5 := ho.2
  rw [this] at h5
  rw [ByteArray.toList_eq] at h3 h4
  simp [nameL, h5, h3, h4, h1, h2]
theorem nameL_empty (s : ByteArray) (h : s.toList.isEmpty = true) : nameL s.data.toList = false := by
  rw [ByteArray.toList_eq] at h; simp at h; simp [nameL, h]
theorem nameL_long (s : ByteArray) (h : 12 < s.size) : nameL s.data.toList = false := by
  have : ¬ s.size ≤ 12 := by omega
  simp [nameL, this]
theorem nameL_dot (s : ByteArray) (h : s.toList = [46]) : nameL s.data.toList = false := by
  rw [ByteArray.toList_eq] at h; simp [nameL, h]
theorem nameL_dots (s : ByteArray) (h : (s.toList == [46, 46]) = true) : nameL s.data.toList = false := by
  have h := beq_iff_eq.1 h
  rw [ByteArray.toList_eq] at h; simp [nameL, h]
theorem size_pos_of (s : ByteArray) (h : s.toList.isEmpty = false) : 1 ≤ s.size := by
  rw [ByteArray.toList_eq] at h; 
  rcases Nat.eq_zero_or_pos s.size with h0 | h0
  · have : s.data.toList = [] := by apply List.eq_nil_of_length_eq_zero; simpa using h0
    rw [this] at h; simp at h
  · exact h0
theorem name_any (s : ByteArray) (w : World) :
    Calls Tryz.prog 73 #[.string s] w fun e w' => e = .returned (.bool (nameL s.data.toList)) ∧ Below w.heap.size w w' := by
  go_enter Tryz.func73, Tryz.ntmps73
  go_wp2_with fail
  · go_ret; exact ⟨ret_bool (nameL_empty s ‹_›).symm, Below.refl _ _⟩
  · go_ret; exact ⟨ret_bool (nameL_long s (by omega)).symm, Below.refl _ _⟩
  · go_ret; exact ⟨ret_bool (nameL_dot s ‹_›).symm, Below.refl _ _⟩
  · go_ret; exact ⟨ret_bool (nameL_dots s ‹_›).symm, Below.refl _ _⟩
  · have h1 := size_pos_of s ‹_›
    go_loopw [] (fun w' => ∃ (pos : Nat), w' = w.iter s pos ∧ okTo s pos) (fun w' => s.size - w'.iterPos w.heap.size)
    case atStart => exact ⟨0, rfl, okTo_zero s⟩
    case round =>
      obtain ⟨pos, rfl, ho⟩ := hrel
      by_cases hp : pos < s.size
      · have hnx : ∀ ty, (Instr.next (.pointer (some ⟨w.heap.size, 0, none⟩)) true ty).run Tryz.prog (w.iter s pos) = _ := fun ty => run_next_any w s pos ty hp
        have hwd := width_pos s pos hp
        cases hs : signB ((Utf8.decode s pos).1 : Int)
        · go_wp2_with (go_at_call 90; refine (sign_any _ _).mono ?_; rintro e w' ⟨rfl, rfl⟩)
          go_ret
          exact ⟨ret_bool (nameL_bad s pos hp hs).symm, (Below.refl _ _).alloc (Nat.le_refl _) _⟩
        · go_wp2_with (go_at_call 90; refine (sign_any _ _).mono ?_; rintro e w' ⟨rfl, rfl⟩)
          go_roundw
          case rel => exact ⟨_, rfl, okTo_step s pos hp ho hs⟩
          case measure => simp; omega
      · have hnx : ∀ ty, (Instr.next (.pointer (some ⟨w.heap.size, 0, none⟩)) true ty).run Tryz.prog (w.iter s pos) = _ := fun ty => run_next_end w s pos ty hp
        go_wp2
        go_ret
        exact ⟨ret_bool (nameL_good s pos hp ho h1 (by omega) ‹_› (by simpa using ‹(s.toList == [46, 46]) = false›)).symm, (Below.refl _ _).alloc (Nat.le_refl _) _⟩
end Go.Proofs.YtldgpcmnmegioaaGreatDoor
namespace Go.Proofs.YtldgpcmnmegioaaGreatDoor
/-- A path's names. -/
def pathL (l : List UInt8) : Option (List (List UInt8)) :=
  if l = [47] then some []
  else if 40 < l.length ∨ l.head? ≠ some 47 then none
  else if 5 < (splitOn 47 l.tail).length then none
  else if (splitOn 47 l.tail).all nameL then some (splitOn 47 l.tail) else none
theorem pathL_root : pathL [47] = some [] := by simp [pathL]
theorem pathL_long {l : List UInt8} (h : 40 < l.length) : pathL l = none := by
  have h1 : l ≠ [47] := fun e => by rw [e] at h; simp at h
  simp [pathL, h1, h]
theorem pathL_head {l : List UInt8} (h1 : l ≠ [47]) (h : l.head? ≠ some 47) : pathL l = none := by
  simp [pathL, h1, h]
theorem pathL_many {l : List UInt8} (h1 : l ≠ [47]) (h : 5 < (splitOn 47 l.tail).length) : pathL l = none := by
  simp only [pathL, if_neg h1, if_pos h]; split <;> rfl
theorem pathL_bad {l : List UInt8} (h1 : l ≠ [47]) (h : (splitOn 47 l.tail).all nameL = false) : pathL l = none := by
  simp only [pathL, if_neg h1, h]; split
  · rfl
  · split <;> rfl
theorem pathL_good {l : List UInt8} (h1 : l ≠ [47]) (h2 : l.length ≤ 40) (h3 : l.head? = some 47) (h4 : (splitOn 47 l.tail).length ≤ 5) (h5 : (splitOn 47 l.tail).all nameL = true) :
    pathL l = some (splitOn 47 l.tail) := by
  unfold pathL; rw [if_neg h1, if_neg (by simp [h3]; omega), if_neg (by omega), if_pos h5]
theorem all_getD {L : List (List UInt8)} {k : Nat} (hk : k < L.length) (h : nameL (L.getD k []) = false) : L.all nameL = false := by
  rw [List.all_eq_false]
  exact ⟨L.getD k [], by simp [hk], by rw [h]; simp⟩
theorem all_take_step {L : List (List UInt8)} {k : Nat} (hk : k < L.length) (h0 : (L.take k).all nameL = true) (h : nameL (L.getD k []) = true) : (L.take (k + 1)).all nameL = true := by
  rw [List.take_succ_eq_append_getElem hk, List.all_append, h0]
  simp at h ⊢
  simpa [hk] using h

theorem signs_no47 {l : List UInt8} (h : signs l = true) : (47 : UInt8) ∉ l := by
  intro hm
  have := (List.all_eq_true.1 h) 47 hm
  exact absurd this (by decide)
theorem nameL_no47 {l : List UInt8} (h : nameL l = true) : (47 : UInt8) ∉ l := by
  unfold nameL at h; simp only [Bool.and_eq_true] at h; exact signs_no47 h.2
/-- What is known of a path's names. -/
theorem pathL_facts {l : List UInt8} {L : List (List UInt8)} (h : pathL l = some L) :
    L.length ≤ 5 ∧ L.all nameL = true ∧ l.length ≤ 40 ∧ (l = [47] ∧ L = [] ∨ l ≠ [47] ∧ L ≠ [] ∧ glue 47 L = l ∧ L = splitOn 47 l.tail) := by
  unfold pathL at h
  split at h
  · rename_i h1; cases h; subst h1; exact ⟨by simp, by simp, by simp, Or.inl ⟨rfl, rfl⟩⟩
  · rename_i h1
    split at h
    · cases h
    · rename_i h2
      split at h
      · cases h
      · rename_i h3
        split at h
        · rename_i h4
          have h := Option.some.inj h
          subst h
          have h2' := not_or.1 h2
          refine ⟨by omega, h4, by omega, Or.inr ⟨h1, splitOn_ne _ _, ?_, rfl⟩⟩
          rw [glue_splitOn]
          have h5 : l.head? = some 47 := by simpa using h2'.2
          cases l with
          | nil => cases h5
          | cons x r => simp at h5; subst h5; rfl
        · cases h
theorem glue_take_len (c : UInt8) (L : List (List UInt8)) (k : Nat) : (glue c (L.take k)).length ≤ (glue c L).length := by
  conv => rhs; rw [← List.take_append_drop k L]
  rw [glue_append, List.length_append]; omega
/-- The path of names. -/
def joinP (L : List (List UInt8)) : List UInt8 := if L = [] then [47] else glue 47 L
theorem joinP_nil : joinP [] = [47] := rfl
theorem joinP_cons (p : List UInt8) (L) : joinP (p :: L) = glue 47 (p :: L) := by simp [joinP]
theorem joinP_len (L : List (List UInt8)) : (joinP L).length ≤ (glue 47 L).length + 1 := by
  unfold joinP; split
  · simp
  · omega
theorem joinP_pathL {l : List UInt8} {L : List (List UInt8)} (h : pathL l = some L) : joinP L = l := by
  rcases (pathL_facts h).2.2.2 with ⟨h1, h2⟩ | ⟨_, h2, h3, _⟩
  · rw [h1, h2]; rfl
  · unfold joinP; rw [if_neg h2]; exact h3
end Go.Proofs.YtldgpcmnmegioaaGreatDoor
namespace Go.Proofs
open Go.Shelf
def Tryz.lays156_ren : Go.Shelf.Ren := ⟨fun | 156 => 106 | 165 => 115 | 166 => 116 | 169 => 117 | 240 => 123 | 241 => 124 | 276 => 130 | 277 => 131 | n => n, fun | 31 => 62 | 9 => 9 | 3 => 3 | 4 => 4 | 0 => 0 | 20 => 20 | 72 => 163 | 76 => 167 | 70 => 161 | 37 => 36 | 75 => 166 | 127 => 174 | 164 => 175 | 5 => 5 | 80 => 169 | n => n, fun | n => n⟩
theorem Tryz.lays156 : Go.Proofs.Lays.n156 Tryz.prog Tryz.lays156_ren := {
  mixed := by kernel_rfl
  f156 := Tryz.func106.trans (congrArg some (by kernel_rfl))
  f165 := Tryz.func115.trans (congrArg some (by kernel_rfl))
  f166 := Tryz.func116.trans (congrArg some (by kernel_rfl))
  f169 := Tryz.func117.trans (congrArg some (by kernel_rfl))
  f240 := Tryz.func123.trans (congrArg some (by kernel_rfl))
  f241 := Tryz.func124.trans (congrArg some (by kernel_rfl))
  f276 := Tryz.func130.trans (congrArg some (by kernel_rfl))
  f277 := Tryz.func131.trans (congrArg some (by kernel_rfl))
  t0 := Tryz.underlying0
  a0 := Tryz.isAgg0
  z0 := Tryz.sizeOf0
  v0 := Tryz.zeroValue0
  t3 := Tryz.underlying3
  a3 := Tryz.isAgg3
  z3 := Tryz.sizeOf3
  v3 := Tryz.zeroValue3
  t4 := Tryz.underlying4
  a4 := Tryz.isAgg4
  z4 := Tryz.sizeOf4
  v4 := Tryz.zeroValue4
  t9 := Tryz.underlying9
  a9 := Tryz.isAgg9
  z9 := Tryz.sizeOf9
  v9 := Tryz.zeroValue9
  t20 := Tryz.underlying20
  a20 := Tryz.isAgg20
  z20 := Tryz.sizeOf20
  v20 := Tryz.zeroValue20
  t31 := Tryz.underlying62
  a31 := Tryz.isAgg62
  z31 := Tryz.sizeOf62
  v31 := Tryz.zeroValue62
  t37 := Tryz.underlying36
  a37 := Tryz.isAgg36
  z37 := Tryz.sizeOf36
  v37 := Tryz.zeroValue36
  t70 := Tryz.underlying161
  a70 := Tryz.isAgg161
  z70 := Tryz.sizeOf161
  v70 := Tryz.zeroValue161
  t72 := Tryz.underlying163
  a72 := Tryz.isAgg163
  z72 := Tryz.sizeOf163
  v72 := Tryz.zeroValue163
  t75 := Tryz.underlying166
  a75 := Tryz.isAgg166
  z75 := Tryz.sizeOf166
  v75 := Tryz.zeroValue166
  t76 := Tryz.underlying167
  a76 := Tryz.isAgg167
  z76 := Tryz.sizeOf167
  v76 := Tryz.zeroValue167
  t127 := Tryz.underlying174
  a127 := Tryz.isAgg174
  z127 := Tryz.sizeOf174
  v127 := Tryz.zeroValue174
  t164 := Tryz.underlying175
  a164 := Tryz.isAgg175
  z164 := Tryz.sizeOf175
  v164 := Tryz.zeroValue175 }
theorem Tryz.Builder_Extra_156 : Builder.Extra Tryz.prog Tryz.lays156_ren := {
  sizeBuilder := by kernel_rfl
  liesBuilder := by kernel_rfl
  t5 := Tryz.underlying5
  a5 := Tryz.isAgg5
  z5 := Tryz.sizeOf5
  v5 := Tryz.zeroValue5
  infoByte := by kernel_rfl
  cellsByte := by kernel_rfl
  sizeByte := by kernel_rfl
  neB5 := by decide }
open Go.RowKit in
theorem Tryz.strings_Join_none (a : Option Addr) (c : Nat) (sep : ByteArray) (w : World) :
    Calls Tryz.prog 106 #[.slice a 0 c, .string sep] w fun e w' => e = .returned (.string ⟨#[]⟩) ∧ w' = w := Any.strings_Join_none Tryz.lays156 Tryz.Builder_Extra_156 a c sep w
open Go.RowKit in
theorem Tryz.strings_Join (bk o c : Nat) (xs : List ByteArray) (sep : ByteArray) (w : World) (hcells : ∀ (j : Nat) x, xs[j]? = some x → w.cell? ⟨bk, o + j, none⟩ = some (.string x)) (hbk : bk < w.heap.size) (hN : xs.length ≤ 140737488355328) (hcap : xs.length ≤ c) (hlen : (Lib.join (xs.map (·.data.toList)) sep.data.toList).length ≤ 140737488355328) :
    Calls Tryz.prog 106 #[.slice (some ⟨bk, o, none⟩) xs.length c, .string sep] w fun e w' => e = .returned (.string ⟨(Lib.join (xs.map (·.data.toList)) sep.data.toList).toArray⟩) ∧ Below w.heap.size w w' := Any.strings_Join Tryz.lays156 Tryz.Builder_Extra_156 bk o c xs sep w hcells hbk hN hcap hlen
def Tryz.lays99_ren : Go.Shelf.Ren := ⟨fun | 99 => 71 | 206 => 88 | n => n, fun | 9 => 9 | 4 => 4 | 3 => 3 | n => n, fun | n => n⟩
theorem Tryz.lays99 : Go.Proofs.Lays.n99 Tryz.prog Tryz.lays99_ren := {
  mixed := by kernel_rfl
  f99 := Tryz.func71.trans (congrArg some (by kernel_rfl))
  f206 := Tryz.func88.trans (congrArg some (by kernel_rfl))
  t3 := Tryz.underlying3
  a3 := Tryz.isAgg3
  z3 := Tryz.sizeOf3
  v3 := Tryz.zeroValue3
  t4 := Tryz.underlying4
  a4 := Tryz.isAgg4
  z4 := Tryz.sizeOf4
  v4 := Tryz.zeroValue4
  t9 := Tryz.underlying9
  a9 := Tryz.isAgg9
  z9 := Tryz.sizeOf9
  v9 := Tryz.zeroValue9 }
open Go.RowKit Go.Lib in
theorem Tryz.strings_HasPrefix (s p : ByteArray) (w : World) :
    Calls Tryz.prog 71 #[.string s, .string p] w fun e w' => e = .returned (.bool (Lib.hasPrefix s.data.toList p.data.toList)) ∧ w' = w := Any.strings_HasPrefix Tryz.lays99 s p w
def Tryz.laysM146_ren : Go.Shelf.Ren := ⟨fun | 146 => 72 | 221 => 89 | 268 => 107 | 138 => 108 | 143 => 109 | 195 => 118 | 197 => 119 | 218 => 120 | 219 => 121 | 260 => 125 | 217 => 126 | 225 => 127 | 224 => 128 | 267 => 129 | 266 => 132 | 314 => 133 | n => n, fun | 9 => 9 | 31 => 62 | 3 => 3 | 4 => 4 | 0 => 0 | 105 => 170 | 21 => 21 | 5 => 5 | 46 => 115 | 119 => 177 | 139 => 180 | 138 => 179 | 146 => 181 | 51 => 114 | n => n, fun | 1 => 0 | 3 => 1 | 4 => 2 | n => n⟩
theorem Tryz.laysM146 : Go.Proofs.LaysM.n146 Tryz.prog Tryz.laysM146_ren := {
  mixed := by kernel_rfl
  f138 := Tryz.func108.trans (congrArg some (by kernel_rfl))
  f143 := Tryz.func109.trans (congrArg some (by kernel_rfl))
  f146 := Tryz.func72.trans (congrArg some (by kernel_rfl))
  f195 := Tryz.func118.trans (congrArg some (by kernel_rfl))
  f197 := Tryz.func119.trans (congrArg some (by kernel_rfl))
  f217 := Tryz.func126.trans (congrArg some (by kernel_rfl))
  f218 := Tryz.func120.trans (congrArg some (by kernel_rfl))
  f219 := Tryz.func121.trans (congrArg some (by kernel_rfl))
  f221 := Tryz.func89.trans (congrArg some (by kernel_rfl))
  f224 := Tryz.func128.trans (congrArg some (by kernel_rfl))
  f225 := Tryz.func127.trans (congrArg some (by kernel_rfl))
  f260 := Tryz.func125.trans (congrArg some (by kernel_rfl))
  f266 := Tryz.func132.trans (congrArg some (by kernel_rfl))
  f267 := Tryz.func129.trans (congrArg some (by kernel_rfl))
  f268 := Tryz.func107.trans (congrArg some (by kernel_rfl))
  f314 := Tryz.func133.trans (congrArg some (by kernel_rfl))
  t0 := Tryz.underlying0
  a0 := Tryz.isAgg0
  z0 := Tryz.sizeOf0
  v0 := Tryz.zeroValue0
  t3 := Tryz.underlying3
  a3 := Tryz.isAgg3
  z3 := Tryz.sizeOf3
  v3 := Tryz.zeroValue3
  t4 := Tryz.underlying4
  a4 := Tryz.isAgg4
  z4 := Tryz.sizeOf4
  v4 := Tryz.zeroValue4
  t5 := Tryz.underlying5
  a5 := Tryz.isAgg5
  z5 := Tryz.sizeOf5
  v5 := Tryz.zeroValue5
  t9 := Tryz.underlying9
  a9 := Tryz.isAgg9
  z9 := Tryz.sizeOf9
  v9 := Tryz.zeroValue9
  t21 := Tryz.underlying21
  a21 := Tryz.isAgg21
  z21 := Tryz.sizeOf21
  v21 := Tryz.zeroValue21
  t31 := Tryz.underlying62
  a31 := Tryz.isAgg62
  z31 := Tryz.sizeOf62
  v31 := Tryz.zeroValue62
  t46 := Tryz.underlying115
  a46 := Tryz.isAgg115
  z46 := Tryz.sizeOf115
  v46 := Tryz.zeroValue115
  t51 := Tryz.underlying114
  a51 := Tryz.isAgg114
  z51 := Tryz.sizeOf114
  v51 := Tryz.zeroValue114
  t105 := Tryz.underlying170
  a105 := Tryz.isAgg170
  z105 := Tryz.sizeOf170
  v105 := Tryz.zeroValue170
  t119 := Tryz.underlying177
  a119 := Tryz.isAgg177
  z119 := Tryz.sizeOf177
  t138 := Tryz.underlying179
  a138 := Tryz.isAgg179
  z138 := Tryz.sizeOf179
  v138 := Tryz.zeroValue179
  t139 := Tryz.underlying180
  a139 := Tryz.isAgg180
  z139 := Tryz.sizeOf180
  v139 := Tryz.zeroValue180
  t146 := Tryz.underlying181
  a146 := Tryz.isAgg181
  z146 := Tryz.sizeOf181
  v146 := Tryz.zeroValue181
  g1 := by kernel_rfl
  g3 := by kernel_rfl
  g4 := by kernel_rfl
  i0 := by kernel_rfl
  i3 := by kernel_rfl
  i4 := by kernel_rfl
  i5 := by kernel_rfl
  i9 := by kernel_rfl
  i21 := by kernel_rfl
  i31 := by kernel_rfl
  i46 := by kernel_rfl
  i51 := by kernel_rfl
  i105 := by kernel_rfl
  i138 := by kernel_rfl
  i139 := by kernel_rfl
  i146 := by kernel_rfl
  m1 := by kernel_rfl
  s1_3 := fun w h => Go.Proofs.cell_of_shapedOpen_int (zero := #[.int .i64 0]) (t := 3) h (of_decide_eq_true (by kernel_rfl)) (by kernel_rfl) rfl (by kernel_rfl) (by kernel_rfl) Tryz.underlying3
  m3 := by kernel_rfl
  m4 := by kernel_rfl }
open Go.RowKit Go.Lib in
theorem Tryz.strings_Split_shaped (s sep : ByteArray) (w : World) (h : w.ShapedOpen Tryz.prog) (hs : s.size < 4294967281) (h1 : 1 ≤ sep.size) :
    Calls Tryz.prog 72 #[.string s, .string sep] w fun e w' =>
      e = .returned (.slice (some ⟨w.heap.size, 0, none⟩) (Lib.countB s sep + 1) (Lib.countB s sep + 1)) ∧ w' = w.alloc (.cells ((Lib.splitB sep 0 (Lib.countB s sep) s).map Value.string).toArray 9) := Any.strings_Split_shaped Tryz.laysM146 s sep w h hs h1
def Tryz.mclone_string_int_ren : Go.Shelf.Ren := ⟨fun | 5 => 57 | 7 => 69 | n => n, fun | 23 => 69 | 25 => 9 | 3 => 3 | 4 => 4 | 20 => 20 | n => n, fun | n => n⟩
theorem Tryz.mclone_string_int : Go.Proofs.SlLaysW.n5 Tryz.prog Tryz.mclone_string_int_ren := {
  mixed := by kernel_rfl
  f5 := ⟨Tryz.f57.name, by decide, Tryz.func57.trans (congrArg some (by kernel_rfl))⟩
  f7 := Tryz.func69.trans (congrArg some (by kernel_rfl))
  t4 := Tryz.underlying4
  a4 := Tryz.isAgg4
  z4 := Tryz.sizeOf4
  v4 := Tryz.zeroValue4
  t20 := Tryz.underlying20
  a20 := Tryz.isAgg20
  z20 := Tryz.sizeOf20
  v20 := Tryz.zeroValue20
  t23 := Tryz.underlying69
  a23 := Tryz.isAgg69
  z23 := Tryz.sizeOf69
  v23 := Tryz.zeroValue69 }
def Tryz.keys_int_ren : Go.Shelf.Ren := ⟨fun | 7 => 53 | 10 => 65 | n => n, fun | 23 => 69 | 26 => 9 | 3 => 3 | 28 => 101 | 0 => 0 | 27 => 100 | 33 => 67 | 4 => 4 | n => n, fun | n => n⟩
theorem Tryz.keys_int : Go.Proofs.SlLaysZ.n7 Tryz.prog Tryz.keys_int_ren := {
  mixed := by kernel_rfl
  f7 := ⟨Tryz.f53.name, by decide, Tryz.func53.trans (congrArg some (by kernel_rfl))⟩
  f10 := ⟨Tryz.f65.name, by decide, Tryz.func65.trans (congrArg some (by kernel_rfl))⟩
  t0 := Tryz.underlying0
  a0 := Tryz.isAgg0
  z0 := Tryz.sizeOf0
  v0 := Tryz.zeroValue0
  t4 := Tryz.underlying4
  a4 := Tryz.isAgg4
  z4 := Tryz.sizeOf4
  v4 := Tryz.zeroValue4
  t23 := Tryz.underlying69
  a23 := Tryz.isAgg69
  z23 := Tryz.sizeOf69
  v23 := Tryz.zeroValue69
  t26 := Tryz.underlying9
  a26 := Tryz.isAgg9
  z26 := Tryz.sizeOf9
  v26 := Tryz.zeroValue9
  t27 := Tryz.underlying100
  a27 := Tryz.isAgg100
  z27 := Tryz.sizeOf100
  v27 := Tryz.zeroValue100
  t28 := Tryz.underlying101
  a28 := Tryz.isAgg101
  z28 := Tryz.sizeOf101
  v28 := Tryz.zeroValue101
  t33 := Tryz.underlying67
  a33 := Tryz.isAgg67
  z33 := Tryz.sizeOf67
  v33 := Tryz.zeroValue67 }
def Tryz.sort_int_ren : Go.Shelf.Ren := ⟨fun | 5 => 54 | 8 => 67 | 7 => 66 | 19 => 85 | 20 => 86 | 10 => 76 | 11 => 77 | 12 => 78 | 13 => 79 | 14 => 80 | 15 => 81 | 16 => 82 | 17 => 83 | 18 => 84 | 30 => 100 | 31 => 101 | 32 => 102 | 33 => 103 | 34 => 104 | 35 => 105 | 40 => 114 | n => n, fun | 23 => 33 | 25 => 3 | 3 => 3 | 32 => 115 | 22 => 33 | 0 => 0 | 44 => 114 | 46 => 137 | 4 => 4 | 36 => 129 | 35 => 128 | 41 => 44 | 5 => 5 | 9 => 9 | 53 => 146 | 57 => 150 | 63 => 158 | 64 => 159 | n => n, fun | n => n⟩
theorem Tryz.sort_int : Go.Proofs.SlLaysM.n5 Tryz.prog Tryz.sort_int_ren := {
  mixed := by kernel_rfl
  f5 := ⟨Tryz.f54.name, by decide, Tryz.func54.trans (congrArg some (by kernel_rfl))⟩
  f7 := ⟨Tryz.f66.name, by decide, Tryz.func66.trans (congrArg some (by kernel_rfl))⟩
  f8 := Tryz.func67.trans (congrArg some (by kernel_rfl))
  f10 := ⟨Tryz.f76.name, by decide, Tryz.func76.trans (congrArg some (by kernel_rfl))⟩
  f11 := ⟨Tryz.f77.name, by decide, Tryz.func77.trans (congrArg some (by kernel_rfl))⟩
  f12 := ⟨Tryz.f78.name, by decide, Tryz.func78.trans (congrArg some (by kernel_rfl))⟩
  f13 := ⟨Tryz.f79.name, by decide, Tryz.func79.trans (congrArg some (by kernel_rfl))⟩
  f14 := ⟨Tryz.f80.name, by decide, Tryz.func80.trans (congrArg some (by kernel_rfl))⟩
  f15 := ⟨Tryz.f81.name, by decide, Tryz.func81.trans (congrArg some (by kernel_rfl))⟩
  f16 := ⟨Tryz.f82.name, by decide, Tryz.func82.trans (congrArg some (by kernel_rfl))⟩
  f17 := ⟨Tryz.f83.name, by decide, Tryz.func83.trans (congrArg some (by kernel_rfl))⟩
  f18 := ⟨Tryz.f84.name, by decide, Tryz.func84.trans (congrArg some (by kernel_rfl))⟩
  f19 := Tryz.func85.trans (congrArg some (by kernel_rfl))
  f20 := Tryz.func86.trans (congrArg some (by kernel_rfl))
  f30 := ⟨Tryz.f100.name, by decide, Tryz.func100.trans (congrArg some (by kernel_rfl))⟩
  f31 := Tryz.func101.trans (congrArg some (by kernel_rfl))
  f32 := Tryz.func102.trans (congrArg some (by kernel_rfl))
  f33 := ⟨Tryz.f103.name, by decide, Tryz.func103.trans (congrArg some (by kernel_rfl))⟩
  f34 := ⟨Tryz.f104.name, by decide, Tryz.func104.trans (congrArg some (by kernel_rfl))⟩
  f35 := ⟨Tryz.f105.name, by decide, Tryz.func105.trans (congrArg some (by kernel_rfl))⟩
  f40 := ⟨Tryz.f114.name, by decide, Tryz.func114.trans (congrArg some (by kernel_rfl))⟩
  t0 := Tryz.underlying0
  a0 := Tryz.isAgg0
  z0 := Tryz.sizeOf0
  v0 := Tryz.zeroValue0
  t3 := Tryz.underlying3
  a3 := Tryz.isAgg3
  z3 := Tryz.sizeOf3
  v3 := Tryz.zeroValue3
  t4 := Tryz.underlying4
  a4 := Tryz.isAgg4
  z4 := Tryz.sizeOf4
  v4 := Tryz.zeroValue4
  t5 := Tryz.underlying5
  a5 := Tryz.isAgg5
  z5 := Tryz.sizeOf5
  v5 := Tryz.zeroValue5
  t9 := Tryz.underlying9
  a9 := Tryz.isAgg9
  z9 := Tryz.sizeOf9
  v9 := Tryz.zeroValue9
  t22 := Tryz.underlying33
  a22 := Tryz.isAgg33
  z22 := Tryz.sizeOf33
  v22 := Tryz.zeroValue33
  t23 := Tryz.underlying33
  a23 := Tryz.isAgg33
  z23 := Tryz.sizeOf33
  v23 := Tryz.zeroValue33
  t25 := Tryz.underlying3
  a25 := Tryz.isAgg3
  z25 := Tryz.sizeOf3
  v25 := Tryz.zeroValue3
  t32 := Tryz.underlying115
  a32 := Tryz.isAgg115
  z32 := Tryz.sizeOf115
  v32 := Tryz.zeroValue115
  t35 := Tryz.underlying128
  a35 := Tryz.isAgg128
  z35 := Tryz.sizeOf128
  v35 := Tryz.zeroValue128
  t36 := Tryz.underlying129
  a36 := Tryz.isAgg129
  z36 := Tryz.sizeOf129
  v36 := Tryz.zeroValue129
  t41 := Tryz.underlying44
  a41 := Tryz.isAgg44
  z41 := Tryz.sizeOf44
  v41 := Tryz.zeroValue44
  t44 := Tryz.underlying114
  a44 := Tryz.isAgg114
  z44 := Tryz.sizeOf114
  v44 := Tryz.zeroValue114
  t46 := Tryz.underlying137
  a46 := Tryz.isAgg137
  z46 := Tryz.sizeOf137
  v46 := Tryz.zeroValue137
  t53 := Tryz.underlying146
  a53 := Tryz.isAgg146
  z53 := Tryz.sizeOf146
  v53 := Tryz.zeroValue146
  t57 := Tryz.underlying150
  a57 := Tryz.isAgg150
  z57 := Tryz.sizeOf150
  v57 := Tryz.zeroValue150
  t63 := Tryz.underlying158
  a63 := Tryz.isAgg158
  z63 := Tryz.sizeOf158
  v63 := Tryz.zeroValue158
  t64 := Tryz.underlying159
  a64 := Tryz.isAgg159
  z64 := Tryz.sizeOf159
  v64 := Tryz.zeroValue159 }
def Tryz.sort_string_ren : Go.Shelf.Ren := ⟨fun | 6 => 64 | 8 => 67 | 9 => 75 | 19 => 85 | 20 => 86 | 21 => 91 | 22 => 92 | 23 => 93 | 24 => 94 | 25 => 95 | 26 => 96 | 27 => 97 | 28 => 98 | 29 => 99 | 36 => 110 | 31 => 101 | 32 => 102 | 37 => 111 | 38 => 112 | 39 => 113 | 41 => 122 | n => n, fun | 27 => 62 | 29 => 9 | 3 => 3 | 32 => 115 | 26 => 62 | 0 => 0 | 44 => 114 | 46 => 137 | 4 => 4 | 36 => 129 | 35 => 128 | 41 => 44 | 5 => 5 | 9 => 9 | 53 => 146 | 57 => 150 | 63 => 158 | 64 => 159 | n => n, fun | n => n⟩
theorem Tryz.sort_string : Go.Proofs.SlLaysM.n6 Tryz.prog Tryz.sort_string_ren := {
  mixed := by kernel_rfl
  f6 := ⟨Tryz.f64.name, by decide, Tryz.func64.trans (congrArg some (by kernel_rfl))⟩
  f8 := Tryz.func67.trans (congrArg some (by kernel_rfl))
  f9 := ⟨Tryz.f75.name, by decide, Tryz.func75.trans (congrArg some (by kernel_rfl))⟩
  f19 := Tryz.func85.trans (congrArg some (by kernel_rfl))
  f20 := Tryz.func86.trans (congrArg some (by kernel_rfl))
  f21 := ⟨Tryz.f91.name, by decide, Tryz.func91.trans (congrArg some (by kernel_rfl))⟩
  f22 := ⟨Tryz.f92.name, by decide, Tryz.func92.trans (congrArg some (by kernel_rfl))⟩
  f23 := ⟨Tryz.f93.name, by decide, Tryz.func93.trans (congrArg some (by kernel_rfl))⟩
  f24 := ⟨Tryz.f94.name, by decide, Tryz.func94.trans (congrArg some (by kernel_rfl))⟩
  f25 := ⟨Tryz.f95.name, by decide, Tryz.func95.trans (congrArg some (by kernel_rfl))⟩
  f26 := ⟨Tryz.f96.name, by decide, Tryz.func96.trans (congrArg some (by kernel_rfl))⟩
  f27 := ⟨Tryz.f97.name, by decide, Tryz.func97.trans (congrArg some (by kernel_rfl))⟩
  f28 := ⟨Tryz.f98.name, by decide, Tryz.func98.trans (congrArg some (by kernel_rfl))⟩
  f29 := ⟨Tryz.f99.name, by decide, Tryz.func99.trans (congrArg some (by kernel_rfl))⟩
  f31 := Tryz.func101.trans (congrArg some (by kernel_rfl))
  f32 := Tryz.func102.trans (congrArg some (by kernel_rfl))
  f36 := ⟨Tryz.f110.name, by decide, Tryz.func110.trans (congrArg some (by kernel_rfl))⟩
  f37 := ⟨Tryz.f111.name, by decide, Tryz.func111.trans (congrArg some (by kernel_rfl))⟩
  f38 := ⟨Tryz.f112.name, by decide, Tryz.func112.trans (congrArg some (by kernel_rfl))⟩
  f39 := ⟨Tryz.f113.name, by decide, Tryz.func113.trans (congrArg some (by kernel_rfl))⟩
  f41 := ⟨Tryz.f122.name, by decide, Tryz.func122.trans (congrArg some (by kernel_rfl))⟩
  t0 := Tryz.underlying0
  a0 := Tryz.isAgg0
  z0 := Tryz.sizeOf0
  v0 := Tryz.zeroValue0
  t3 := Tryz.underlying3
  a3 := Tryz.isAgg3
  z3 := Tryz.sizeOf3
  v3 := Tryz.zeroValue3
  t4 := Tryz.underlying4
  a4 := Tryz.isAgg4
  z4 := Tryz.sizeOf4
  v4 := Tryz.zeroValue4
  t5 := Tryz.underlying5
  a5 := Tryz.isAgg5
  z5 := Tryz.sizeOf5
  v5 := Tryz.zeroValue5
  t9 := Tryz.underlying9
  a9 := Tryz.isAgg9
  z9 := Tryz.sizeOf9
  v9 := Tryz.zeroValue9
  t26 := Tryz.underlying62
  a26 := Tryz.isAgg62
  z26 := Tryz.sizeOf62
  v26 := Tryz.zeroValue62
  t27 := Tryz.underlying62
  a27 := Tryz.isAgg62
  z27 := Tryz.sizeOf62
  v27 := Tryz.zeroValue62
  t29 := Tryz.underlying9
  a29 := Tryz.isAgg9
  z29 := Tryz.sizeOf9
  v29 := Tryz.zeroValue9
  t32 := Tryz.underlying115
  a32 := Tryz.isAgg115
  z32 := Tryz.sizeOf115
  v32 := Tryz.zeroValue115
  t35 := Tryz.underlying128
  a35 := Tryz.isAgg128
  z35 := Tryz.sizeOf128
  v35 := Tryz.zeroValue128
  t36 := Tryz.underlying129
  a36 := Tryz.isAgg129
  z36 := Tryz.sizeOf129
  v36 := Tryz.zeroValue129
  t41 := Tryz.underlying44
  a41 := Tryz.isAgg44
  z41 := Tryz.sizeOf44
  v41 := Tryz.zeroValue44
  t44 := Tryz.underlying114
  a44 := Tryz.isAgg114
  z44 := Tryz.sizeOf114
  v44 := Tryz.zeroValue114
  t46 := Tryz.underlying137
  a46 := Tryz.isAgg137
  z46 := Tryz.sizeOf137
  v46 := Tryz.zeroValue137
  t53 := Tryz.underlying146
  a53 := Tryz.isAgg146
  z53 := Tryz.sizeOf146
  v53 := Tryz.zeroValue146
  t57 := Tryz.underlying150
  a57 := Tryz.isAgg150
  z57 := Tryz.sizeOf150
  v57 := Tryz.zeroValue150
  t63 := Tryz.underlying158
  a63 := Tryz.isAgg158
  z63 := Tryz.sizeOf158
  v63 := Tryz.zeroValue158
  t64 := Tryz.underlying159
  a64 := Tryz.isAgg159
  z64 := Tryz.sizeOf159
  v64 := Tryz.zeroValue159 }
def Tryz.sorted_string_ren : Go.Shelf.Ren := ⟨fun | 6 => 52 | 8 => 63 | 9 => 64 | 11 => 74 | 13 => 67 | 12 => 75 | 23 => 85 | 24 => 86 | 14 => 91 | 15 => 92 | 16 => 93 | 17 => 94 | 18 => 95 | 19 => 96 | 20 => 97 | 21 => 98 | 22 => 99 | 25 => 110 | 26 => 101 | 27 => 102 | 28 => 111 | 29 => 112 | 30 => 113 | 31 => 122 | n => n, fun | 26 => 9 | 28 => 101 | 24 => 62 | 0 => 0 | 3 => 3 | 37 => 115 | 48 => 114 | 50 => 137 | 4 => 4 | 40 => 129 | 39 => 128 | 45 => 44 | 5 => 5 | 9 => 9 | 51 => 146 | 55 => 150 | 57 => 158 | 58 => 159 | 33 => 67 | n => n, fun | n => n⟩
theorem Tryz.sorted_string : Go.Proofs.SlLaysZ.n6 Tryz.prog Tryz.sorted_string_ren := {
  mixed := by kernel_rfl
  f6 := ⟨Tryz.f52.name, by decide, Tryz.func52.trans (congrArg some (by kernel_rfl))⟩
  f8 := ⟨Tryz.f63.name, by decide, Tryz.func63.trans (congrArg some (by kernel_rfl))⟩
  f11 := ⟨Tryz.f74.name, by decide, Tryz.func74.trans (congrArg some (by kernel_rfl))⟩
  t0 := Tryz.underlying0
  a0 := Tryz.isAgg0
  z0 := Tryz.sizeOf0
  v0 := Tryz.zeroValue0
  t24 := Tryz.underlying62
  a24 := Tryz.isAgg62
  z24 := Tryz.sizeOf62
  v24 := Tryz.zeroValue62
  t26 := Tryz.underlying9
  a26 := Tryz.isAgg9
  z26 := Tryz.sizeOf9
  v26 := Tryz.zeroValue9
  t28 := Tryz.underlying101
  a28 := Tryz.isAgg101
  z28 := Tryz.sizeOf101
  v28 := Tryz.zeroValue101
  i26 := by kernel_rfl }
end Go.Proofs
namespace Go.Proofs.YtldgpcmnmegioaaGreatDoor
open Go.RowKit
theorem hasPrefix_head (l : List UInt8) (c : UInt8) : Lib.hasPrefix l [c] = decide (l.head? = some c) := by
  cases l with
  | nil => simp [Lib.hasPrefix]
  | cons x r =>
    rw [Bool.eq_iff_iff]; simp [Lib.hasPrefix, List.isPrefixOf]; exact eq_comm
theorem split_tail (s : ByteArray) (w : World) (hE : Env w) (h1 : 1 ≤ s.size) (hs : s.size ≤ 40) :
    Calls Tryz.prog 72 #[.string (s.extract 1 s.size), .string ⟨#[47]⟩] w fun e w' =>
      e = .returned (.slice (some ⟨w.heap.size, 0, none⟩) (splitOn 47 s.data.toList.tail).length (splitOn 47 s.data.toList.tail).length) ∧
        w.alloc (.cells (((splitOn 47 s.data.toList.tail).map bs).map Value.string).toArray 9) = w' := by
  have e1 : s.extract 1 s.size = bs s.data.toList.tail := by
    rw [extract_bs]; congr 1
    rw [List.take_of_length_le (by simp)]; simp
  have h := Tryz.strings_Split_shaped (bs s.data.toList.tail) (bs [47]) w hE.shaped (by rw [bs_size]; simp; omega) (by rw [bs_size]; simp)
  rw [splitB_on, countB_on, bs_data] at h
  rw [e1]
  exact h.mono fun e w' ⟨he, hw⟩ => ⟨he, hw.symm⟩

def SplitR (o : Option (List (List UInt8))) (w : World) (e : Ending) (w' : World) : Prop :=
  match o with
  | none => e = .returned (.tuple #[.slice none 0 0, .bool false]) ∧ Ext w w'
  | some L => ∃ a cap, e = .returned (.tuple #[.slice a L.length cap, .bool true]) ∧ L.length ≤ cap ∧ Strs w' a L ∧ Ext w w'
theorem toList_root {s : ByteArray} (h : (s.toList == [47]) = true) : s.data.toList = [47] := by
  have h := beq_iff_eq.1 h; rwa [ByteArray.toList_eq] at h
theorem toList_not {s : ByteArray} {l : List UInt8} (h : (s.toList == l) = false) : s.data.toList ≠ l := by
  have h := beq_eq_false_iff_ne.1 h; rwa [ByteArray.toList_eq] at h
theorem head_size {s : ByteArray} {c : UInt8} (h : s.data.toList.head? = some c) : 1 ≤ s.size := by
  cases hs : s.data.toList with
  | nil => rw [hs] at h; cases h
  | cons x r => rw [← size_len, hs]; simp
set_option maxHeartbeats 400000 in
theorem path_split (s : ByteArray) (w : World) (hE : Env w) :
    Calls Tryz.prog 61 #[.string s] w (SplitR (pathL s.data.toList) w) := by
  go_enter Tryz.func61, Tryz.ntmps61
  go_wp2_with fail
  · go_ret2; rw [toList_root ‹_›, pathL_root]; exact ⟨none, 0, rfl, Nat.le_refl _, Strs.nil _ _, Ext.refl _⟩
  · go_ret2; rw [pathL_long (by rw [size_len]; omega)]; exact ⟨rfl, Ext.refl _⟩
  · have hn := Lib.hid (toList_not (s := s) (l := [47]) ‹_›)
    refine (Tryz.strings_HasPrefix _ _ _).mono ?_
    rintro e w' ⟨rfl, rfl⟩
    rw [show (({ data := #[47] } : ByteArray).data.toList) = [47] from rfl, hasPrefix_head]
    cases hh : decide (s.data.toList.head? = some 47) with
    | false =>
      have HH := Lib.hid (of_decide_eq_false hh); clear hh
      go_wp2_with fail
      go_ret2; rw [pathL_head hn.out HH.out]; exact ⟨rfl, Ext.refl _⟩
    | true =>
      have HH := Lib.hid (of_decide_eq_true hh); clear hh
      have h1 := head_size HH.out
      go_wp2_with fail
      refine (split_tail s _ hE h1 (by omega)).mono ?_
      rintro e w1 ⟨rfl, hw1⟩
      have hx : Ext w' w1 := by rw [← hw1]; exact Ext.alloc _ _
      have hS : Strs w1 (some ⟨w'.heap.size, 0, none⟩) (splitOn 47 s.data.toList.tail) := by rw [← hw1]; exact Strs.made _ _ _
      have hL1 := splitOn_length_pos 47 s.data.toList.tail
      clear hw1
      generalize hL : splitOn 47 s.data.toList.tail = L at *
      have HL := Lib.hid hL; clear hL
      have HS := Lib.hid hS; clear hS
      by_cases h5 : 5 < L.length
      · go_wp2_with fail
        go_ret2; rw [pathL_many hn.out (by rw [HL.out]; exact h5)]; exact ⟨rfl, hx⟩
      · go_wp2_with fail
        go_loopw [25] (fun i wr => ∃ k : Nat, k ≤ L.length ∧ i = .int .i64 k ∧ Hid ((L.take k).all nameL = true) ∧ Ext w1 wr) (fun i _ => L.length - (intOf i).toNat)
        case atStart => exact ⟨0, Nat.zero_le _, rfl, Lib.hid (by simp), Ext.refl _⟩
        case round =>
          obtain ⟨k, hk, rfl, hall, hext⟩ := hrel
          by_cases hlt : k < L.length
          · have hcell := hext.cell (HS.out.at0 k hlt)
            obtain ⟨p, hp⟩ : ∃ p, p = L.getD k [] := ⟨_, rfl⟩
            rw [← hp] at hcell
            have HP := Lib.hid hp; clear hp
            cases hname : nameL p with
            | false =>
              have HN := Lib.hid hname; clear hname
              go_wp2_with (go_at_call 73; refine (name_any _ _).mono ?_; rintro e w2 ⟨rfl, hb2⟩; rw [bs_data, HN.out])
              go_ret2
              rw [pathL_bad hn.out (by rw [HL.out]; exact all_getD hlt (by rw [← HP.out]; exact HN.out))]; exact ⟨rfl, hx.trans (hext.trans hb2)⟩
            | true =>
              have HN := Lib.hid hname; clear hname
              go_wp2_with (go_at_call 73; refine (name_any _ _).mono ?_; rintro e w2 ⟨rfl, hb2⟩; rw [bs_data, HN.out])
              go_roundw
              case rel => exact ⟨k + 1, by omega, by go_num, Lib.hid (all_take_step hlt hall.out (by rw [← HP.out]; exact HN.out)), hext.trans hb2⟩
              case measure => simp [intOf]; omega
          · have hkk : k = L.length := by omega
            go_wp2
            go_ret2
            subst hkk
            have hall := hall.out
            rw [List.take_length] at hall
            rw [pathL_good hn.out (by rw [size_len]; omega) HH.out (by rw [HL.out]; omega) (by rw [HL.out]; exact hall), HL.out]
            exact ⟨_, _, rfl, Nat.le_refl _, HS.out.ext hext, hx.trans hext⟩
end Go.Proofs.YtldgpcmnmegioaaGreatDoor
namespace Go.Proofs.YtldgpcmnmegioaaGreatDoor
open Go.RowKit
theorem split_none {s : ByteArray} (w : World) (hE : Env w) (h : pathL s.data.toList = none) :
    Calls Tryz.prog 61 #[.string s] w fun e w' => e = .returned (.tuple #[.slice none 0 0, .bool false]) ∧ Ext w w' := by
  have := path_split s w hE; rw [h] at this; exact this
theorem split_some {s : ByteArray} {L : List (List UInt8)} (w : World) (hE : Env w) (h : pathL s.data.toList = some L) :
    Calls Tryz.prog 61 #[.string s] w fun e w' => ∃ a cap, e = .returned (.tuple #[.slice a L.length cap, .bool true]) ∧ L.length ≤ cap ∧ Strs w' a L ∧ Ext w w' := by
  have := path_split s w hE; rw [h] at this; exact this

/-- A path of something below the root? -/
def rightL (l : List UInt8) : Bool := match pathL l with
  | some L => decide (0 < L.length)
  | none => false
theorem rightL_none {l} (h : pathL l = none) : rightL l = false := by simp [rightL, h]
theorem rightL_some {l L} (h : pathL l = some L) : rightL l = decide (0 < L.length) := by simp [rightL, h]


















theorem joinTail_glue (L : List (List UInt8)) : Lib.joinTail [47] L = glue 47 L := by simp [Lib.joinTail, glue] -- 106
theorem join_joinP (L : List (List UInt8)) : 47 :: Lib.join L [47] = joinP L := by -- 106
  cases L with
  | nil => rfl
  | cons p r => rw [Lib.join_cons, joinTail_glue, joinP_cons, glue_cons]; rfl
theorem path_join (a : Option Addr) (L : List (List UInt8)) (c : Nat) (w : World) (hS : Strs w a L) (hc : L.length ≤ c) (hN : L.length ≤ 140737488355328) (hlen : (joinP L).length ≤ 140737488355328) :
    Calls Tryz.prog 87 #[.slice a L.length c] w fun e w' => e = .returned (.string (bs (joinP L))) ∧ Ext w w' := by
  have HJ := Lib.hid (join_joinP L)
  have hjl : (Lib.join L [47]).length + 1 = (joinP L).length := by rw [← join_joinP]; simp
  have HJL := Lib.hid hjl; clear hjl
  have key : Calls Tryz.prog 106 #[.slice a L.length c, .string ⟨#[47]⟩] w fun e w' => e = .returned (.string (bs (Lib.join L [47]))) ∧ Ext w w' := by
    rcases hS with hS | ⟨g, off, rfl, hg, hcell⟩
    · subst hS
      refine (Tryz.strings_Join_none _ _ _ _).mono ?_
      rintro e w' ⟨rfl, rfl⟩
      exact ⟨ret_str rfl, Ext.refl _⟩
    · have h := Tryz.strings_Join g off c (L.map bs) ⟨#[47]⟩ w (by
        intro j x hj
        have hj' : j < L.length := by
          have := (List.getElem?_eq_some_iff.1 hj).1; simpa using this
        rw [hcell j hj']
        simp [hj'] at hj
        simp [hj', hj]) hg (by simpa using hN) (by simpa using hc) (by
          have e1 : ((L.map bs).map (·.data.toList)) = L := by simp [bs_data, Function.comp_def]
          rw [e1]; show (Lib.join L [47]).length ≤ _; have := HJL.out; omega)
      have e1 : ((L.map bs).map (·.data.toList)) = L := by simp [bs_data, Function.comp_def]
      rw [e1, List.length_map] at h
      exact h
  go_enter Tryz.func87, Tryz.ntmps87
  go_wp2_with fail
  refine key.mono ?_
  rintro e w1 ⟨rfl, hx⟩
  have hlt := bs_size (Lib.join L [47])
  have hz : (bs (Lib.join L [47])).size ≤ 140737488355328 := by rw [hlt]; have := HJL.out; omega
  clear hlt
  go_wp2_with fail
  go_ret
  exact ⟨ret_str (by rw [← HJ.out]; exact bs_append [47] _), hx⟩

theorem keepS {a b : World} {p : Addr} {v : Value} (h : Ext a b) (hc : a.cell? p = some v) : Ext a b ∧ b.cell? p = some v := ⟨h, h.cell hc⟩
/-- The directory of a path, and its last name. -/
def parentL (l : List UInt8) : Option (List UInt8 × List UInt8) := match pathL l with
  | some (p :: q) => some (joinP ((p :: q).take q.length), (p :: q).getD q.length [])
  | _ => none
def ParentR (o : Option (List UInt8 × List UInt8)) (w : World) (e : Ending) (w' : World) : Prop :=
  match o with
  | none => e = .returned (.tuple #[.string (bs []), .string (bs []), .bool false]) ∧ Ext w w'
  | some (d, n) => e = .returned (.tuple #[.string (bs d), .string (bs n), .bool true]) ∧ Ext w w'
theorem path_parent (s : ByteArray) (w : World) (hE : Env w) :
    Calls Tryz.prog 70 #[.string s] w (ParentR (parentL s.data.toList) w) := by
  go_enter Tryz.func70, Tryz.ntmps70
  go_wp2_with fail
  cases hp : pathL s.data.toList with
  | none =>
    have HP := Lib.hid hp; clear hp
    refine (split_none _ hE HP.out).mono ?_
    rintro e w1 ⟨rfl, hx⟩
    go_wp2_with fail
    go_ret3
    have e1 : parentL s.data.toList = none := by simp [parentL, HP.out]
    rw [e1]; exact ⟨rfl, hx⟩
  | some L =>
    have HP := Lib.hid hp; clear hp
    refine (split_some _ hE HP.out).mono ?_
    rintro e w1 ⟨a, cap, rfl, hcap, hS, hx⟩
    cases L with
    | nil =>
      go_wp2_with fail
      go_ret3
      have e1 : parentL s.data.toList = none := by simp [parentL, HP.out]
      rw [e1]; exact ⟨rfl, hx⟩
    | cons p q =>
      have HF := Lib.hid (pathL_facts HP.out)
      have hq : q.length ≤ 4 := by have := HF.out.1; simp at this; omega
      have hcap' : q.length + 1 ≤ cap := hcap
      obtain ⟨g, off, rfl, hg, hcell⟩ := hS.at (by simp)
      have hc : w1.cell? ⟨g, off + q.length, none⟩ = some (.string (bs ((p :: q).getD q.length []))) := hcell q.length (by simp)
      obtain ⟨nm, hnm⟩ : ∃ nm, nm = (p :: q).getD q.length [] := ⟨_, rfl⟩
      rw [← hnm] at hc
      have HNM := Lib.hid hnm; clear hnm
      have hT : Strs w1 (some ⟨g, off, none⟩) ((p :: q).take q.length) := by
        refine Or.inr ⟨g, off, rfl, hg, fun i hi => ?_⟩
        have hi' : i < q.length := by simpa using hi
        rw [hcell i (by simp; omega)]
        congr 3
        simp only [List.getD, List.getElem?_take, if_pos hi']
      have hTl : ((p :: q).take q.length).length = q.length := by simp
      have hJl : (joinP ((p :: q).take q.length)).length ≤ 140737488355328 := by
        have h1 := joinP_len ((p :: q).take q.length)
        have h2 := glue_take_len 47 (p :: q) q.length
        have h3 := HF.out.2.2.1
        rcases HF.out.2.2.2 with ⟨_, h4⟩ | ⟨_, _, h4, _⟩
        · cases h4
        · rw [h4] at h2; omega
      have hj := fun w' (hx : Ext w1 w') => path_join (some ⟨g, off, none⟩) ((p :: q).take q.length) cap w' (hT.ext hx) (by omega) (by omega) hJl
      rw [hTl] at hj
      generalize hTT : (p :: q).take q.length = T at *
      have HTT := Lib.hid hTT; clear hTT
      have HT := Lib.hid hTl; clear hTl hcell hS
      have HJ := Lib.hid hj; clear hj
      clear hJl hT HF
      have b1 : (0 : Int) ≤ (q.length : Int) := by omega
      have b2 : (q.length : Int) ≤ (cap : Int) := by omega
      have b3 : (q.length : Int) < (q.length : Int) + 1 := by omega
      have b4 : q.length < q.length + 1 := by omega
      go_wp2_with fail
      go_region_held3 (fun w' => Ext w1 w' ∧ w'.cell? ⟨g, off + q.length, none⟩ = some (.string (bs nm))) (first | exact keepS (Ext.refl _).drew hc | assumption | go_keep)
        ((go_at_call 87; have hS0 := ‹Ext w1 _ ∧ World.cell? _ ⟨g, off + q.length, none⟩ = some (Value.string (bs nm))›; refine (HJ.out _ hS0.1).mono ?_; rintro e w2 ⟨rfl, hx2⟩; have hS2 := keepS (hS0.1.trans hx2) hc))
      go_wp2
      go_ret3
      have e1 : parentL s.data.toList = some (joinP T, nm) := by simp [parentL, HP.out, HNM.out, HTT.out]
      rw [e1]; exact ⟨rfl, hx.trans (by assumption : Ext w1 w2 ∧ _).1⟩
end Go.Proofs.YtldgpcmnmegioaaGreatDoor
namespace Go.Proofs.YtldgpcmnmegioaaGreatDoor
open Go.RowKit
/-- Does a path stand within another one? -/
def withinL (s d : List UInt8) : Bool := match pathL s, pathL d with
  | some L, some U => decide (U.length < L.length) && decide (L.take U.length = U)
  | _, _ => false
theorem take_step_eq {A B : List (List UInt8)} {k : Nat} (ha : k < A.length) (hb : k < B.length) (h : A.take k = B.take k) (he : A.getD k [] = B.getD k []) : A.take (k + 1) = B.take (k + 1) := by
  rw [List.take_succ_eq_append_getElem ha, List.take_succ_eq_append_getElem hb, h]
  simp [ha, hb] at he
  rw [he]
theorem take_ne {A B : List (List UInt8)} {k : Nat} (_ha : k < A.length) (hb : k < B.length) (he : A.getD k [] ≠ B.getD k []) : A.take B.length ≠ B := by
  intro h
  apply he
  have h1 : (A.take B.length).getD k [] = B.getD k [] := by rw [h]
  rw [← h1]
  simp [List.getD, hb]























































































end Go.Proofs.YtldgpcmnmegioaaGreatDoor
namespace Go.Proofs.YtldgpcmnmegioaaGreatDoor
/-- Digits alone? -/
def digs (l : List UInt8) : Bool := l.all fun b => decide (48 ≤ b.toNat ∧ b.toNat ≤ 57)
/-- The number of digits. -/
def valD (l : List UInt8) : Nat := l.foldl (fun acc b => acc * 10 + (b.toNat - 48)) 0
/-- The number that is written just so; none: no number is. -/
def canon (l : List UInt8) : Option Nat :=
  if l ≠ [] ∧ digs l = true ∧ (l.length = 1 ∨ l.head? ≠ some 48) then some (valD l) else none
theorem valD_snoc (l : List UInt8) (b : UInt8) : valD (l ++ [b]) = valD l * 10 + (b.toNat - 48) := by simp [valD]
theorem digs_snoc (l : List UInt8) (b : UInt8) : digs (l ++ [b]) = (digs l && decide (48 ≤ b.toNat ∧ b.toNat ≤ 57)) := by simp [digs]
theorem digit_byte {b : UInt8} (h : 48 ≤ b.toNat ∧ b.toNat ≤ 57) : UInt8.ofNat (48 + (b.toNat - 48)) = b := by
  apply UInt8.toNat_inj.1
  rw [UInt8.toNat_ofNat']
  omega
theorem list_snoc_ind {p : List UInt8 → Prop} (h0 : p []) (h1 : ∀ l b, p l → p (l ++ [b])) (l : List UInt8) : p l := by
  have : ∀ n (l : List UInt8), l.length = n → p l := by
    intro n
    induction n with
    | zero => intro l hl; have := List.eq_nil_of_length_eq_zero hl; subst this; exact h0
    | succ n ih =>
      intro l hl
      have hne : l ≠ [] := by intro e; subst e; simp at hl
      rw [← List.dropLast_concat_getLast hne]
      exact h1 _ _ (ih _ (by simp [hl]))
  exact this _ l rfl
theorem valD_pos {l : List UInt8} (hd : digs l = true) (hne : l ≠ []) (hh : l.head? ≠ some 48) : 1 ≤ valD l := by
  induction l using list_snoc_ind with
  | h0 => exact absurd rfl hne
  | h1 l b ih =>
    rw [digs_snoc, Bool.and_eq_true, decide_eq_true_eq] at hd
    rw [valD_snoc]
    by_cases hl : l = []
    · subst hl
      simp at hh
      have : b.toNat ≠ 48 := fun e => hh (UInt8.toNat_inj.1 (by rw [e]; rfl))
      omega
    · have := ih hd.1 hl (by
        intro e; apply hh
        cases l with
        | nil => exact absurd rfl hl
        | cons x r => simpa using e)
      omega
theorem decDigits_val {l : List UInt8} (hd : digs l = true) (hne : l ≠ []) (hh : l.length = 1 ∨ l.head? ≠ some 48) : Lib.decDigits (valD l) = l := by
  induction l using list_snoc_ind with
  | h0 => exact absurd rfl hne
  | h1 l b ih =>
    rw [digs_snoc, Bool.and_eq_true, decide_eq_true_eq] at hd
    rw [valD_snoc]
    by_cases hl : l = []
    · subst hl
      have : valD [] = 0 := rfl
      rw [this, Lib.decDigits_one (by omega)]
      simp [digit_byte hd.2]
    · have h1 : 2 ≤ (l ++ [b]).length := by
        cases l with
        | nil => exact absurd rfl hl
        | cons x r => simp
      have h2 : l.head? ≠ some 48 := by
        rcases hh with h | h
        · omega
        · intro e; apply h
          cases l with
          | nil => exact absurd rfl hl
          | cons x r => simpa using e
      have h3 := valD_pos hd.1 hl h2
      rw [Lib.decDigits, dif_neg (by omega)]
      rw [show (valD l * 10 + (b.toNat - 48)) / 10 = valD l by omega, ih hd.1 hl (Or.inr h2)]
      congr 2
      have : (valD l * 10 + (b.toNat - 48)) % 10 = b.toNat - 48 := by omega
      rw [this, digit_byte hd.2]
theorem decDigits_canon : ∀ (n : Nat), canon (Lib.decDigits n) = some n := by
  intro n
  have key : ∀ k n, n < k → (Lib.decDigits n ≠ [] ∧ digs (Lib.decDigits n) = true ∧ (n < 10 ∧ (Lib.decDigits n).length = 1 ∨ 10 ≤ n ∧ (Lib.decDigits n).head? ≠ some 48) ∧ valD (Lib.decDigits n) = n ∧ (1 ≤ n → (Lib.decDigits n).head? ≠ some 48)) := by
    intro k
    induction k with
    | zero => intro n h; omega
    | succ k ih =>
      intro n hn
      by_cases h10 : n < 10
      · rw [Lib.decDigits_one h10]
        have e : (UInt8.ofNat (48 + n)).toNat = 48 + n := by rw [UInt8.toNat_ofNat']; omega
        refine ⟨by simp, by simp only [digs, List.all_cons, List.all_nil, Bool.and_true, decide_eq_true_eq, e]; omega, Or.inl ⟨h10, rfl⟩, ?_, ?_⟩
        · simp only [valD, List.foldl_cons, List.foldl_nil, e]; omega
        · intro h1
          simp only [List.head?_cons, ne_eq, Option.some.injEq]
          intro h
          have := congrArg UInt8.toNat h
          rw [e] at this
          have e48 : (48 : UInt8).toNat = 48 := rfl
          omega
      · have h := ih (n / 10) (by omega)
        have e : (UInt8.ofNat (48 + n % 10)).toNat = 48 + n % 10 := by rw [UInt8.toNat_ofNat']; omega
        have hh := h.2.2.2.2 (by omega)
        have hr : Lib.decDigits n = Lib.decDigits (n / 10) ++ [UInt8.ofNat (48 + n % 10)] := by rw [Lib.decDigits, dif_neg h10]
        have hhead : (Lib.decDigits n).head? ≠ some 48 := by
          rw [hr]
          intro e2; apply hh
          cases hd : Lib.decDigits (n / 10) with
          | nil => exact absurd hd h.1
          | cons x r => rw [hd] at e2; simpa using e2
        refine ⟨by rw [hr]; simp, ?_, Or.inr ⟨by omega, hhead⟩, ?_, fun _ => hhead⟩
        · rw [hr, digs_snoc, h.2.1, Bool.true_and, decide_eq_true_eq, e]; omega
        · rw [hr, valD_snoc, h.2.2.2.1, e]; omega
  have h := key (n + 1) n (by omega)
  unfold canon
  rw [if_pos ⟨h.1, h.2.1, by
    rcases h.2.2.1 with h1 | h1
    · exact Or.inl h1.2
    · exact Or.inr h1.2⟩, h.2.2.2.1]
theorem canon_iff (l : List UInt8) (n : Nat) : canon l = some n ↔ Lib.decDigits n = l := by
  constructor
  · intro h
    unfold canon at h
    split at h
    · rename_i hc
      have h := Option.some.inj h
      rw [← h]; exact decDigits_val hc.2.1 hc.1 hc.2.2
    · cases h
  · intro h; rw [← h]; exact decDigits_canon n
theorem itoa_nat (n : Nat) : Lib.itoa (n : Int) = Lib.decDigits n := by
  unfold Lib.itoa; rw [if_neg (by omega)]; rfl
theorem fold_ge (l : List UInt8) : ∀ acc : Nat, acc ≤ l.foldl (fun acc b => acc * 10 + (b.toNat - 48)) acc := by
  induction l with
  | nil => intro acc; exact Nat.le_refl _
  | cons b r ih => intro acc; have := ih (acc * 10 + (b.toNat - 48)); simp only [List.foldl_cons]; omega
theorem parse_digs (l : List UInt8) : ∀ acc : Nat, digs l = true → l.foldl (fun acc b => acc * 10 + (b.toNat - 48)) acc ≤ 1000000000000000000 →
    Lib.parseUint10 acc l = .ok (l.foldl (fun acc b => acc * 10 + (b.toNat - 48)) acc) := by
  induction l with
  | nil => intro acc _ _; rfl
  | cons b r ih =>
    intro acc hd hb
    simp only [digs, List.all_cons, Bool.and_eq_true, decide_eq_true_eq] at hd
    have hg := fold_ge r (acc * 10 + (b.toNat - 48))
    simp only [List.foldl_cons] at hb ⊢
    rw [Lib.parseUint10, if_pos hd.1, if_neg (by omega), if_neg (by omega)]
    exact ih _ hd.2 hb
theorem atoi_canon {l : List UInt8} {n : Nat} (h : canon l = some n) (hn : n ≤ 1000000000000000000) : Lib.atoiAll l = .ok (n : Int) := by
  unfold canon at h
  split at h
  · rename_i hc
    have h := Option.some.inj h
    cases l with
    | nil => exact absurd rfl hc.1
    | cons b r =>
      have hd := hc.2.1
      simp only [digs, List.all_cons, Bool.and_eq_true, decide_eq_true_eq] at hd
      have e1 : ¬ (b.toNat = 43 ∨ b.toNat = 45) := by omega
      have e2 : ¬ b.toNat = 45 := by omega
      have hp : Lib.parseMag (b :: r) = .ok n := by
        unfold Lib.parseMag
        rw [if_neg (by simp), parse_digs (b :: r) 0 hc.2.1 (by show valD (b :: r) ≤ _; rw [h]; exact hn)]
        show Lib.NumEnd.ok (valD (b :: r)) = _
        rw [h]
      unfold Lib.atoiAll
      have e3 : ¬ b.toNat = 43 := by omega
      simp only [e3, e2, or_self, if_false]
      rw [hp]
      show (if _ then _ else _) = _
      rw [if_neg (by omega)]
      simp only [false_and, if_false]
  · cases h
theorem canon_len {l : List UInt8} {n : Nat} (h : canon l = some n) : 1 ≤ l.length := by
  unfold canon at h
  split at h
  · rename_i hc
    cases l with
    | nil => exact absurd rfl hc.1
    | cons => simp
  · cases h
end Go.Proofs.YtldgpcmnmegioaaGreatDoor
namespace Go.Proofs.YtldgpcmnmegioaaGreatDoor
/-- The number that a text of a version's number tells. -/
def numV (l : List UInt8) : Option Nat := (canon l).bind fun n => if n ≤ 9999 then some n else none
theorem numV_some {l : List UInt8} {n : Nat} (h : numV l = some n) : canon l = some n ∧ n ≤ 9999 := by
  unfold numV at h
  cases hc : canon l with
  | none => rw [hc] at h; cases h
  | some m =>
    rw [hc] at h
    simp only [Option.bind_some] at h
    split at h
    · have h := Option.some.inj h
      subst h
      exact ⟨rfl, by assumption⟩
    · cases h
theorem numV_of {l : List UInt8} {n : Nat} (h : canon l = some n) (hn : n ≤ 9999) : numV l = some n := by simp [numV, h, hn]
theorem numV_inj {a b : List UInt8} {n : Nat} (ha : numV a = some n) (hb : numV b = some n) : a = b := by
  rw [← (canon_iff a n).1 (numV_some ha).1, ← (canon_iff b n).1 (numV_some hb).1]
theorem numV_nil : numV [] = none := rfl

theorem index_miss {c : UInt8} {l : List UInt8} (h : c ∉ l) : Lib.index l [c] = -1 := by
  induction l with
  | nil => rfl
  | cons x r ih =>
    have h1 : x ≠ c := fun e => h (by simp [e])
    have h2 : c ∉ r := fun e => h (by simp [e])
    rw [index_cons_ne x c r h1, ih h2]; rfl
theorem index_hit {c : UInt8} {a : List UInt8} (r : List UInt8) (h : c ∉ a) : Lib.index (a ++ c :: r) [c] = a.length := by
  induction a with
  | nil => exact index_cons_eq c r
  | cons x a ih =>
    have h1 : x ≠ c := fun e => h (by simp [e])
    have h2 : c ∉ a := fun e => h (by simp [e])
    have e : ((a.length : Int) == -1) = false := by rw [beq_eq_false_iff_ne]; omega
    rw [List.cons_append, index_cons_ne x c _ h1, ih h2, e]; simp
theorem cut_none {c : UInt8} {l : List UInt8} (h : c ∉ l) : Lib.cut l [c] = (l, [], false) := by
  unfold Lib.cut; rw [index_miss h]; rfl
theorem cut_some {c : UInt8} {a : List UInt8} (r : List UInt8) (h : c ∉ a) : Lib.cut (a ++ c :: r) [c] = (a, r, true) := by
  unfold Lib.cut; rw [index_hit r h, if_pos (by omega)]
  have e : ((a.length : Int)).toNat = a.length := by omega
  rw [e]
  simp
theorem split_mem {c : UInt8} {l : List UInt8} (h : c ∈ l) : ∃ a r, l = a ++ c :: r ∧ c ∉ a := by
  induction l with
  | nil => cases h
  | cons x l ih =>
    by_cases hx : x = c
    · exact ⟨[], l, by simp [hx], by simp⟩
    · have h : c ∈ l := by
        rcases List.mem_cons.1 h with h | h
        · exact absurd h.symm hx
        · exact h
      obtain ⟨a, r, rfl, ha⟩ := ih h
      exact ⟨x :: a, r, rfl, by simp [ha]; exact fun e => hx e.symm⟩

/-- The numbers of these texts. -/
def numsV : List (List UInt8) → Option (List Nat)
  | [] => some []
  | p :: r => match numV p, numsV r with
    | some n, some m => some (n :: m)
    | _, _ => none
theorem numsV_cons {p : List UInt8} {r : List (List UInt8)} {n : Nat} {m : List Nat} (h : numV p = some n) (k : numsV r = some m) : numsV (p :: r) = some (n :: m) := by simp [numsV, h, k]
theorem numsV_snoc {L : List (List UInt8)} {X : List Nat} {p : List UInt8} {n : Nat} (h : numsV L = some X) (k : numV p = some n) : numsV (L ++ [p]) = some (X ++ [n]) := by
  induction L generalizing X with
  | nil =>
    have h := Option.some.inj h
    subst h
    exact numsV_cons k rfl
  | cons q L ih =>
    unfold numsV at h
    cases hq : numV q with
    | none => rw [hq] at h; cases h
    | some a =>
      cases hL : numsV L with
      | none => rw [hq, hL] at h; cases h
      | some Y =>
        rw [hq, hL] at h
        have h := Option.some.inj h
        subst h
        exact numsV_cons hq (ih hL)
theorem numsV_bad {L : List (List UInt8)} {p : List UInt8} (hp : p ∈ L) (k : numV p = none) : numsV L = none := by
  induction L with
  | nil => cases hp
  | cons q L ih =>
    unfold numsV
    rcases List.mem_cons.1 hp with rfl | hp
    · rw [k]
    · rw [ih hp]; cases numV q <;> rfl
theorem numsV_len {L : List (List UInt8)} {X : List Nat} (h : numsV L = some X) : X.length = L.length := by
  induction L generalizing X with
  | nil => have h := Option.some.inj h; subst h; rfl
  | cons q L ih =>
    unfold numsV at h
    cases hq : numV q with
    | none => rw [hq] at h; cases h
    | some a =>
      cases hL : numsV L with
      | none => rw [hq, hL] at h; cases h
      | some Y =>
        rw [hq, hL] at h
        have h := Option.some.inj h
        subst h
        simp [ih hL]
theorem numsV_inj {A B : List (List UInt8)} {X : List Nat} (ha : numsV A = some X) (hb : numsV B = some X) : A = B := by
  induction A generalizing B X with
  | nil =>
    have ha := Option.some.inj ha; subst ha
    have := numsV_len hb
    exact (List.eq_nil_of_length_eq_zero this.symm).symm
  | cons p A ih =>
    cases B with
    | nil =>
      have hb := Option.some.inj hb; subst hb
      exact absurd (numsV_len ha) (by simp)
    | cons q B =>
      unfold numsV at ha hb
      cases hp : numV p with
      | none => rw [hp] at ha; cases ha
      | some a =>
        cases hq : numV q with
        | none => rw [hq] at hb; cases hb
        | some b =>
          cases hA : numsV A with
          | none => rw [hp, hA] at ha; cases ha
          | some U =>
            cases hB : numsV B with
            | none => rw [hq, hB] at hb; cases hb
            | some V =>
              rw [hp, hA] at ha
              rw [hq, hB] at hb
              have ha := Option.some.inj ha
              have hb := Option.some.inj hb
              rw [← hb] at ha
              have e1 := (List.cons.inj ha).1
              have e2 := (List.cons.inj ha).2
              subst e1 e2
              rw [numV_inj hp hq, ih hA hB]

/-- The revision behind the first sign 45. -/
def revV (more : Bool) (t : List UInt8) : Option Nat :=
  if more then (numV t).bind fun n => if 1 ≤ n then some n else none else some 0
theorem revV_no (t : List UInt8) : revV false t = some 0 := rfl
theorem revV_bad {t : List UInt8} (h : numV t = none) : revV true t = none := by simp [revV, h]
theorem revV_zero {t : List UInt8} (h : numV t = some 0) : revV true t = none := by simp [revV, h]
theorem revV_ok {t : List UInt8} {n : Nat} (h : numV t = some n) (hn : 1 ≤ n) : revV true t = some n := by
  have : ¬ n = 0 := by omega
  simp [revV, h]; omega
/-- A version's numbers, and its revision. -/
def verL (l : List UInt8) : Option (List Nat × Nat) :=
  match revV (Lib.cut l [45]).2.2 (Lib.cut l [45]).2.1, numsV (splitOn 46 (Lib.cut l [45]).1) with
  | some r, some X => if X.length ≤ 4 then some (X, r) else none
  | _, _ => none
theorem verL_rev {l h t : List UInt8} {m : Bool} (hc : Lib.cut l [45] = (h, t, m)) (hr : revV m t = none) : verL l = none := by simp [verL, hc, hr]
theorem verL_nums {l h t : List UInt8} {m : Bool} (hc : Lib.cut l [45] = (h, t, m)) (hr : numsV (splitOn 46 h) = none) : verL l = none := by
  simp only [verL, hc, hr]
  split
  · rename_i h; cases h
  · rfl
theorem verL_many {l h t : List UInt8} {m : Bool} {X : List Nat} (hc : Lib.cut l [45] = (h, t, m)) (hr : numsV (splitOn 46 h) = some X) (hX : 4 < X.length) : verL l = none := by
  simp only [verL, hc, hr]
  split
  · rw [if_neg]
    rename_i h1
    have h1 := Option.some.inj h1
    subst h1; omega
  · rfl
theorem verL_good {l h t : List UInt8} {m : Bool} {X : List Nat} {r : Nat} (hc : Lib.cut l [45] = (h, t, m)) (hr : revV m t = some r) (hn : numsV (splitOn 46 h) = some X) (hX : X.length ≤ 4) : verL l = some (X, r) := by
  simp [verL, hc, hr, hn, hX]

theorem split_inj {c : UInt8} {a b : List UInt8} (h : splitOn c a = splitOn c b) : a = b := by
  have := congrArg (glue c) h
  rw [glue_splitOn, glue_splitOn] at this
  exact (List.cons.inj this).2
theorem verL_inj {a b : List UInt8} {v : List Nat × Nat} (ha : verL a = some v) (hb : verL b = some v) : a = b := by
  have key : ∀ {l : List UInt8}, verL l = some v → ∃ h t m, Lib.cut l [45] = (h, t, m) ∧ revV m t = some v.2 ∧ numsV (splitOn 46 h) = some v.1 := by
    intro l hl
    refine ⟨(Lib.cut l [45]).1, (Lib.cut l [45]).2.1, (Lib.cut l [45]).2.2, rfl, ?_⟩
    unfold verL at hl
    split at hl
    · rename_i r X h1 h2
      split at hl
      · have hl := Option.some.inj hl
        subst hl
        exact ⟨h1, h2⟩
      · cases hl
    · cases hl
  have rev : ∀ {m t r}, revV m t = some r → m = true ∧ 1 ≤ r ∧ numV t = some r ∨ m = false ∧ r = 0 := by
    intro m t r h
    cases m with
    | false => exact Or.inr ⟨rfl, (Option.some.inj h).symm⟩
    | true =>
      simp only [revV, if_true] at h
      cases hn : numV t with
      | none => rw [hn] at h; cases h
      | some n =>
        rw [hn] at h
        simp only [Option.bind_some] at h
        split at h
        · have h := Option.some.inj h
          subst h
          exact Or.inl ⟨rfl, by assumption, rfl⟩
        · cases h
  obtain ⟨h1, t1, m1, c1, r1, n1⟩ := key ha
  obtain ⟨h2, t2, m2, c2, r2, n2⟩ := key hb
  have eh : h1 = h2 := split_inj (numsV_inj n1 n2)
  have sh : ∀ {l h t m}, Lib.cut l [45] = (h, t, m) → l = if m = true then h ++ 45 :: t else h := by
    intro l h t m hc
    by_cases hm : 45 ∈ l
    · obtain ⟨x, y, rfl, hx⟩ := split_mem hm
      rw [cut_some y hx] at hc
      simp only [Prod.mk.injEq] at hc
      obtain ⟨rfl, rfl, rfl⟩ := hc
      simp
    · rw [cut_none hm] at hc
      simp only [Prod.mk.injEq] at hc
      obtain ⟨rfl, rfl, rfl⟩ := hc
      simp
  rw [sh c1, sh c2, eh]
  rcases rev r1 with ⟨rfl, p1, q1⟩ | ⟨rfl, p1⟩ <;> rcases rev r2 with ⟨rfl, p2, q2⟩ | ⟨rfl, p2⟩
  · rw [numV_inj q1 q2]
  · omega
  · omega
  · rfl

/-- Which one of two lists of numbers is the greater one. -/
def cmpN (a b : Nat) : Int := if a < b then -1 else if b < a then 1 else 0
def cmpL : List Nat → List Nat → Int
  | [], [] => 0
  | [], _ :: _ => -1
  | _ :: _, [] => 1
  | a :: x, b :: y => if a < b then -1 else if b < a then 1 else cmpL x y
def cmpP (v u : List Nat × Nat) : Int := if cmpL v.1 u.1 = 0 then cmpN v.2 u.2 else cmpL v.1 u.1
def cmpV : Option (List Nat × Nat) → Option (List Nat × Nat) → Int
  | some v, some u => cmpP v u
  | some _, none => 1
  | none, some _ => -1
  | none, none => 0
theorem cmpN_neg (a b : Nat) : cmpN a b = - cmpN b a := by unfold cmpN; repeat' split
                                                           all_goals omega
theorem cmpL_neg : ∀ (x y : List Nat), cmpL x y = - cmpL y x
  | [], [] => rfl
  | [], _ :: _ => rfl
  | _ :: _, [] => rfl
  | a :: x, b :: y => by
    have := cmpL_neg x y
    unfold cmpL
    repeat' split
    all_goals omega
theorem cmpV_neg (a b : Option (List Nat × Nat)) : cmpV a b = - cmpV b a := by
  cases a <;> cases b <;> try rfl
  rename_i v u
  show cmpP v u = - cmpP u v
  unfold cmpP
  have h1 := cmpL_neg v.1 u.1
  have h2 := cmpN_neg v.2 u.2
  repeat' split
  all_goals omega
theorem cmpL_eq : ∀ (x y : List Nat), cmpL x y = 0 ↔ x = y
  | [], [] => by simp [cmpL]
  | [], _ :: _ => by simp [cmpL]
  | _ :: _, [] => by simp [cmpL]
  | a :: x, b :: y => by
    have := cmpL_eq x y
    unfold cmpL
    rw [List.cons.injEq]
    repeat' split
    · constructor
      · intro h; omega
      · rintro ⟨h, _⟩; omega
    · constructor
      · intro h; omega
      · rintro ⟨h, _⟩; omega
    · rw [this]
      constructor
      · intro h; exact ⟨by omega, h⟩
      · exact fun h => h.2
theorem cmpN_eq (a b : Nat) : cmpN a b = 0 ↔ a = b := by
  unfold cmpN
  repeat' split
  all_goals omega
theorem cmpP_eq (v u : List Nat × Nat) : cmpP v u = 0 ↔ v = u := by
  have h1 := cmpL_eq v.1 u.1
  have h2 := cmpN_eq v.2 u.2
  unfold cmpP
  split
  · rename_i h
    rw [h2]
    constructor
    · intro k; exact Prod.ext (h1.1 h) k
    · intro k; rw [k]
  · rename_i h
    constructor
    · intro k; exact absurd k h
    · intro k; subst k; exact absurd (h1.2 rfl) h
theorem cmpN_trans {a b c : Nat} (h : 0 ≤ cmpN a b) (k : 0 ≤ cmpN b c) : 0 ≤ cmpN a c ∧ (cmpN a c = 0 → cmpN a b = 0 ∧ cmpN b c = 0) := by
  unfold cmpN at *
  repeat' split at h
  all_goals repeat' split at k
  all_goals repeat' split
  all_goals omega
theorem cmpL_trans : ∀ {x y z : List Nat}, 0 ≤ cmpL x y → 0 ≤ cmpL y z → 0 ≤ cmpL x z ∧ (cmpL x z = 0 → cmpL x y = 0 ∧ cmpL y z = 0)
  | [], [], _ => fun _ k => ⟨k, fun h => ⟨rfl, h⟩⟩
  | [], _ :: _, _ => fun h _ => by simp [cmpL] at h
  | _ :: _, [], [] => fun _ _ => by simp [cmpL]
  | _ :: _, [], _ :: _ => fun _ k => by simp [cmpL] at k
  | _ :: _, _ :: _, [] => fun _ _ => by simp [cmpL]
  | a :: x, b :: y, c :: z => fun h k => by
    have ih : 0 ≤ cmpL x y → 0 ≤ cmpL y z → 0 ≤ cmpL x z ∧ (cmpL x z = 0 → cmpL x y = 0 ∧ cmpL y z = 0) := fun h k => cmpL_trans h k
    have e1 : cmpL (a :: x) (b :: y) = if a < b then -1 else if b < a then 1 else cmpL x y := rfl
    have e2 : cmpL (b :: y) (c :: z) = if b < c then -1 else if c < b then 1 else cmpL y z := rfl
    have e3 : cmpL (a :: x) (c :: z) = if a < c then -1 else if c < a then 1 else cmpL x z := rfl
    rw [e1] at h
    rw [e2] at k
    rw [e1, e2, e3]
    generalize cmpL x y = p at *
    generalize cmpL y z = q at *
    generalize cmpL x z = r at *
    repeat' split at h
    all_goals repeat' split at k
    all_goals repeat' split
    all_goals omega
theorem cmpP_trans {u v w : List Nat × Nat} (h : 0 ≤ cmpP u v) (k : 0 ≤ cmpP v w) : 0 ≤ cmpP u w := by
  have t1 := @cmpL_trans u.1 v.1 w.1
  have t2 := @cmpN_trans u.2 v.2 w.2
  unfold cmpP at *
  split at h <;> split at k <;> rename_i a b
  · have := t1 (by omega) (by omega)
    have := t2 h k
    split <;> omega
  · have := t1 (by omega) (by omega)
    split
    · rename_i e; have := this.2 e; omega
    · omega
  · have := t1 (by omega) (by omega)
    split
    · rename_i e; have := this.2 e; omega
    · omega
  · have := t1 (by omega) (by omega)
    split
    · rename_i e; have := this.2 e; omega
    · omega
theorem cmpV_trans {a b c : Option (List Nat × Nat)} (h : 0 ≤ cmpV a b) (k : 0 ≤ cmpV b c) : 0 ≤ cmpV a c := by
  cases a <;> cases b <;> cases c <;> simp only [cmpV] at * <;> first | omega | exact cmpP_trans h k
theorem cmpV_same {a b : List UInt8} {v : List Nat × Nat} (ha : verL a = some v) : cmpV (verL a) (verL b) = 0 ↔ a = b := by
  rw [ha]
  cases hb : verL b with
  | none =>
    constructor
    · intro h; simp [cmpV] at h
    · intro h; subst h; rw [ha] at hb; cases hb
  | some u =>
    show cmpP v u = 0 ↔ _
    rw [cmpP_eq]
    constructor
    · intro h; subst h; exact verL_inj ha hb
    · intro h; subst h; rw [ha] at hb; exact Option.some.inj hb
/-- Is a version as it is asked for? -/
def fitsV (v than : Option (List Nat × Nat)) (way : Int) : Bool :=
  v.isSome && (decide (way = 0) || decide (way = 1) && decide (0 ≤ cmpV v than) || decide (way = 2) && decide (cmpV v than = 0) || decide (way = 3) && decide (cmpV v than < 0))
end Go.Proofs.YtldgpcmnmegioaaGreatDoor
