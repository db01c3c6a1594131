/- Several texts of mine, one behind the other: Base, Env, Frame, Own, RecSpec, Keep, FrameB, Runs, Maps, MapRange, EachSpec, Sign, Name, PathSpec, Shelf. -/
import Derived.WalkKit
import Derived.Lib.Split
import Derived.Lib.SplitLaws
import Derived.Lib.Strings
import Derived.Lib.Hide
import Derived.Test.YtefpllpichhojaaGreatDoorProg
import Derived.ChangeAgain
import Derived.BigQuiet
import Derived.Deep.QuietTactic
import Derived.Handy
import Derived.Shelf.Vars
import Derived.Test.YtefpllpichhojaaGreatDoorCards
import Derived.Test.YtefpllpichhojaaGreatDoorTie
import Derived.ProofKit
import Derived.OpenShut
import Derived.Deep.DeepHandedRow
import Derived.Lib.LaidTab
import Derived.SliceStrings
import Derived.ChangeSlices
import Derived.Maps.OwnSet
import Derived.Maps.Keyed
import Derived.Maps.RangeWalk
import Derived.Maps.OwnOps
import Derived.WalkSpells
import Derived.WalkLawsBesides
import Derived.BigGuardPart
import Derived.Shelf.Strings.Builder1
import Derived.Shelf.Strings.Builder2
import Derived.Shelf.Strings.OnBuilder
import Derived.Shelf.Small.Bits
import Derived.Shelf.Strings.BuilderF
import Derived.Shelf.Strings.BuilderK
import Derived.Shelf.Strconv.Itoa0
import Derived.Shelf.Strings.Search1
import Derived.Shelf.Strings.Search2
import Derived.Shelf.Strings.Search3
import Derived.Shelf.Strings.Count
import Derived.Shelf.LaysM
import Derived.Shelf.Strings.Shaped
import Derived.Shelf.Strings.Prefix
import Derived.Shelf.Strings.Split
import Derived.Shelf.Strings.SplitShaped
import Derived.Shelf.Unicode.DecodeSlow
import Derived.Shelf.Slices.Turned
import Derived.Ground.Names2Prog
import Derived.Shelf.Slices.Delete
import Derived.Shelf.Slices.Cells
import Derived.Ground.SlgnProg
import Derived.Shelf.SlicesE.Index
import Derived.Shelf.SlicesE.Delete
import Derived.Shelf.SlicesE.Clone
import Derived.Ground.SlgfProg
import Derived.Shelf.SlicesE.IndexFunc
import Derived.Shelf.SlicesE.DeleteFunc
import Derived.Ground.SlgmProg
import Derived.Shelf.SortM.Plain
import Derived.Shelf.SortM.SortNone
import Derived.Shelf.SlMaps.Clone
import Derived.Ground.SlmcProg
import Derived.Shelf.SlIterI.Nil
import Derived.Shelf.SlIterI.Sorted
import Derived.Ground.GgzProg
import Derived.Shelf.SlIter.Nil
namespace Go.Proofs.YtefpllpichhojaaGreatDoor
open Go.RowKit
def bs (l : List UInt8) : ByteArray := ⟨l.toArray⟩
theorem bs_data (l : List UInt8) : (bs l).data.toList = l := by simp [bs]
theorem bs_of (s : ByteArray) : bs s.data.toList = s := by cases s; simp [bs]
theorem bs_size (l : List UInt8) : (bs l).size = l.length := by simp [bs, ByteArray.size]
theorem bs_toList (l : List UInt8) : (bs l).toList = l := by rw [ByteArray.toList_eq, bs_data]
theorem size_len (s : ByteArray) : s.data.toList.length = s.size := by simp
theorem eq_bs {s : ByteArray} {l : List UInt8} (h : s.data.toList = l) : s = bs l := by rw [← h, bs_of]
theorem extract_bs (s : ByteArray) (a b : Nat) : s.extract a b = bs ((s.data.toList.drop a).take (b - a)) := by
 apply eq_bs; rw [← ByteArray.toList_eq, Lib.extract_toList]
theorem bs_append (a b : List UInt8) : bs a ++ bs b = bs (a ++ b) := by
 apply eq_bs
 simp [bs]
theorem ret_bool {a b : Bool} (h : a = b) : Ending.returned (.bool a) = .returned (.bool b) := by rw [h]
theorem ret_str {a b : ByteArray} (h : a = b) : Ending.returned (.string a) = .returned (.string b) := by rw [h]
def splitOn (c : UInt8) : List UInt8 → List (List UInt8)
 | [] => [[]]
 | x :: r => if x = c then [] :: splitOn c r else
   match splitOn c r with
   | [] => [[x]]
   | p :: q => (x :: p) :: q
theorem splitOn_ne (c : UInt8) (l : List UInt8) : splitOn c l ≠ [] := by
 cases l with
 | nil => simp [splitOn]
 | cons x r => unfold splitOn; split <;> try simp
               split <;> simp
theorem splitOn_cons_eq (c : UInt8) (r : List UInt8) : splitOn c (c :: r) = [] :: splitOn c r := by simp [splitOn]
theorem splitOn_append (c : UInt8) (a r : List UInt8) (ha : c ∉ a) : splitOn c (a ++ c :: r) = a :: splitOn c r := by
 induction a with
 | nil => simp [splitOn]
 | cons x a ih =>
   have h1 : x ≠ c := fun e => ha (by simp [e])
   have h2 : c ∉ a := fun e => ha (by simp [e])
   rw [List.cons_append, splitOn, if_neg h1, ih h2]
theorem splitOn_none (c : UInt8) (a : List UInt8) (ha : c ∉ a) : splitOn c a = [a] := by
 induction a with
 | nil => rfl
 | cons x a ih =>
   have h1 : x ≠ c := fun e => ha (by simp [e])
   have h2 : c ∉ a := fun e => ha (by simp [e])
   rw [splitOn, if_neg h1, ih h2]
theorem splitOn_mem (c : UInt8) (l : List UInt8) : ∀ p ∈ splitOn c l, c ∉ p := by
 induction l with
 | nil => intro p hp; simp [splitOn] at hp; subst hp; simp
 | cons x r ih =>
   intro p hp
   unfold splitOn at hp
   split at hp
   · rcases List.mem_cons.1 hp with rfl | hp
     · simp
     · exact ih p hp
   · rename_i hx
     split at hp
     · simp at hp; subst hp; simp; exact fun e => hx e.symm
     · rename_i q qs hq
       rcases List.mem_cons.1 hp with rfl | hp
       · intro e
         rcases List.mem_cons.1 e with e | e
         · exact hx e.symm
         · exact ih q (by rw [hq]; simp) e
       · exact ih p (by rw [hq]; simp [hp])
def glue (c : UInt8) (L : List (List UInt8)) : List UInt8 := (L.map (c :: ·)).flatten
theorem glue_cons (c : UInt8) (p : List UInt8) (L) : glue c (p :: L) = c :: p ++ glue c L := by simp [glue]
theorem glue_append (c : UInt8) (A B) : glue c (A ++ B) = glue c A ++ glue c B := by simp [glue]
theorem glue_splitOn (c : UInt8) (l : List UInt8) : glue c (splitOn c l) = c :: l := by
 induction l with
 | nil => rfl
 | cons x r ih =>
   unfold splitOn
   split
   · rename_i h; subst h; rw [glue_cons, ih]; rfl
   · split
     · rename_i h; exact absurd h (splitOn_ne c r)
     · rename_i p q h
       rw [h, glue_cons] at ih
       rw [glue_cons]
       simp at ih ⊢
       exact ih
theorem splitOn_glue (c : UInt8) (p : List UInt8) (L : List (List UInt8)) (hp : c ∉ p) (h : ∀ q ∈ L, c ∉ q) : splitOn c (p ++ glue c L) = p :: L := by
 induction L generalizing p with
 | nil => simp [glue, splitOn_none c p hp]
 | cons q L ih =>
   rw [glue_cons, List.cons_append, splitOn_append c p _ hp, ih q (h q (by simp)) (fun r hr => h r (by simp [hr]))]
theorem splitOn_length_pos (c : UInt8) (l : List UInt8) : 1 ≤ (splitOn c l).length := by
 have := splitOn_ne c l
 cases h : splitOn c l with
 | nil => exact absurd h this
 | cons => simp
theorem index_cons_ne (b c : UInt8) (l : List UInt8) (h : b ≠ c) : Lib.index (b :: l) [c] = if Lib.index l [c] == -1 then -1 else Lib.index l [c] + 1 := by
 have hp : ([c] : List UInt8).isPrefixOf (b :: l) = false := by simp [List.isPrefixOf, Ne.symm h]
 rw [Lib.index, hp]; simp
theorem index_cons_eq (c : UInt8) (l : List UInt8) : Lib.index (c :: l) [c] = 0 := by rw [Lib.index]; simp [List.isPrefixOf]
theorem index_count (c : UInt8) (l : List UInt8) : Lib.index l [c] = -1 ↔ Lib.count l [c] = 0 := by
 constructor
 · exact fun h => Lib.count_miss h
 · intro h
   have hge := Lib.index_ge l [c]
   by_cases hm : Lib.index l [c] = -1
   · exact hm
   · obtain ⟨j, hj⟩ : ∃ j : Nat, Lib.index l [c] = j := ⟨(Lib.index l [c]).toNat, by omega⟩
     rw [Lib.count_hit (by simp) hj] at h
     omega
theorem splitK_on (c : UInt8) : ∀ (l : List UInt8), Lib.splitK [c] 0 (Lib.count l [c]) l = splitOn c l
 | [] => by rw [Lib.count_one]; rfl
 | b :: l => by
   have ih := splitK_on c l
   by_cases h : b = c
   · subst h
     rw [Lib.count_cons_eq, Nat.add_comm, Lib.splitK, index_cons_eq, splitOn_cons_eq]
     simp [ih]
   · rw [Lib.count_cons_ne b c l h, splitOn, if_neg h]
     cases hk : Lib.count l [c] with
     | zero =>
       rw [hk] at ih
       rw [← ih]; rfl
     | succ k =>
       rw [hk] at ih
       have hm : Lib.index l [c] ≠ -1 := fun e => by have := (index_count c l).1 e; omega
       have hge := Lib.index_ge l [c]
       obtain ⟨j, hj⟩ : ∃ j : Nat, Lib.index l [c] = j := ⟨(Lib.index l [c]).toNat, by omega⟩
       have hix : Lib.index (b :: l) [c] = ((j + 1 : Nat) : Int) := by rw [index_cons_ne b c l h, if_neg (fun e => hm (beq_iff_eq.1 e)), hj]; omega
       rw [← ih, Lib.splitK, Lib.splitK, hix, hj]
       have e1 : (((j + 1 : Nat) : Int) == -1) = false := by rw [beq_eq_false_iff_ne]; omega
       have e2 : (((j : Nat) : Int) == -1) = false := by rw [beq_eq_false_iff_ne]; omega
       rw [e1, e2]
       simp
theorem splitB_on (c : UInt8) (s : ByteArray) : Lib.splitB (bs [c]) 0 (Lib.countB s (bs [c])) s = (splitOn c s.data.toList).map bs := by
 have h := Lib.splitB_data (bs [c]) 0 (Lib.countB s (bs [c])) s
 have hc : Lib.countB s (bs [c]) = Lib.count s.data.toList [c] := by unfold Lib.countB; rw [bs_data]
 rw [hc] at h ⊢
 rw [bs_data, splitK_on] at h
 rw [← h, List.map_map]
 conv => lhs; rw [← List.map_id (Lib.splitB (bs [c]) 0 (Lib.count s.data.toList [c]) s)]
 apply List.map_congr_left
 intro x _
 simp [bs_of]
theorem countB_on (c : UInt8) (s : ByteArray) : Lib.countB s (bs [c]) + 1 = (splitOn c s.data.toList).length := by
 have h := Lib.splitB_all (bs [c]) (by rw [bs_size]; simp) 0 (Lib.countB s (bs [c])) s rfl
 rw [splitB_on, List.length_map] at h
 exact h.symm
end Go.Proofs.YtefpllpichhojaaGreatDoor
namespace Go.Proofs.YtefpllpichhojaaGreatDoor
open Go.RowKit
def Ext (w w' : World) : Prop := Below w.heap.size w w'
theorem Ext.refl (w : World) : Ext w w := Below.refl _ _
theorem Ext.trans {a b c : World} (h : Ext a b) (k : Ext b c) : Ext a c := Below.trans h (Below.mono k h.size)
theorem Ext.alloc (w : World) (o : Obj) : Ext w (w.alloc o) := (Below.refl _ _).alloc (Nat.le_refl _) _
theorem Ext.drew {a b : World} (h : Ext a b) : Ext a b.drew := Below.drew h
theorem Ext.drewN {a b : World} (h : Ext a b) (n : Nat) : Ext a (b.drewN n) := ⟨h.os, h.tape, h.output, h.size, h.block⟩
theorem Ext.size {w w' : World} (h : Ext w w') : w.heap.size ≤ w'.heap.size := Below.size h
theorem Ext.cell {w w' : World} (h : Ext w w') {p : Addr} {v : Value} (hc : w.cell? p = some v) : w'.cell? p = some v := by
 have hp : p.block < w.heap.size := by
  rcases Nat.lt_or_ge p.block w.heap.size with hl | hl
  · exact hl
  · have e : w.heap[p.block]? = none := Array.getElem?_eq_none hl
    simp [World.cell?, e] at hc
 rw [Below.cell h hp]; exact hc
theorem Ext.heap {w w' : World} (h : Ext w w') {b : Nat} {o : Obj} (hc : w.heap[b]? = some o) : w'.heap[b]? = some o := by
 have hp : b < w.heap.size := by
  rcases Nat.lt_or_ge b w.heap.size with hl | hl
  · exact hl
  · rw [Array.getElem?_eq_none hl] at hc; cases hc
 rw [h.block b hp]; exact hc
structure Env (w : World) : Prop where
 word : ∃ m cs, w.heap[0]? = some (.cells cs 3) ∧ cs[0]? = some (.int .i64 m)
theorem Env.of_shaped {w : World} (h : w.ShapedOpen Tryz.prog) : Env w := by
 have h0 : ((begin Tryz.prog (fun _ _ => 0) default).world.heap[0]?).bind Obj.row? = some (#[.int .i64 0], 3) := by kernel_rfl
 obtain ⟨m, hm⟩ := Go.Proofs.cell_of_shapedOpen_int (zero := #[.int .i64 0]) (t := 3) h (of_decide_eq_true (by kernel_rfl)) h0 rfl (by kernel_rfl) (by kernel_rfl) Tryz.underlying3
 obtain ⟨cs, hh, _, _⟩ := h.1 0 _ _ (of_decide_eq_true (by kernel_rfl)) h0
 refine ⟨m, cs, hh, ?_⟩
 simp only [World.cell?, hh] at hm
 simpa using hm
theorem Env.cell {w : World} (h : Env w) : ∃ m, w.cell? ⟨0, 0, none⟩ = some (.int .i64 m) := by
 obtain ⟨m, cs, hh, hc⟩ := h.word
 refine ⟨m, ?_⟩
 simp only [World.cell?, hh]
 simpa using hc
theorem Env.ext {w w' : World} (h : Env w) (k : Ext w w') : Env w' := by
 obtain ⟨m, cs, hh, hc⟩ := h.word
 exact ⟨m, cs, k.heap hh, hc⟩
def Strs (w : World) (a : Option Addr) (L : List (List UInt8)) : Prop :=
 L = [] ∨ ∃ g off, a = some ⟨g, off, none⟩ ∧ g < w.heap.size ∧ ∀ i, i < L.length → w.cell? ⟨g, off + i, none⟩ = some (.string (bs (L.getD i [])))
theorem Strs.nil (w : World) (a : Option Addr) : Strs w a [] := Or.inl rfl
theorem Strs.ext {w w' : World} {a : Option Addr} {L : List (List UInt8)} (h : Strs w a L) (k : Ext w w') : Strs w' a L := by
 rcases h with h | ⟨g, off, ha, hg, hc⟩
 · exact Or.inl h
 · exact Or.inr ⟨g, off, ha, Nat.lt_of_lt_of_le hg k.size, fun i hi => k.cell (hc i hi)⟩
theorem Strs.at {w : World} {a : Option Addr} {L : List (List UInt8)} (h : Strs w a L) (hL : L ≠ []) :
 ∃ g off, a = some ⟨g, off, none⟩ ∧ g < w.heap.size ∧ ∀ i, i < L.length → w.cell? ⟨g, off + i, none⟩ = some (.string (bs (L.getD i []))) :=
 h.resolve_left hL
theorem Strs.at0 {w : World} {b : Nat} {L : List (List UInt8)} (h : Strs w (some ⟨b, 0, none⟩) L) :
 ∀ i, i < L.length → w.cell? ⟨b, i, none⟩ = some (.string (bs (L.getD i []))) := by
 intro i hi
 rcases h with h | ⟨g, off, ha, _, hc⟩
 · rw [h] at hi; simp at hi
 · have ha := Option.some.inj ha
   obtain ⟨rfl, rfl⟩ : g = b ∧ off = 0 := by constructor <;> (cases ha; rfl)
   have := hc i hi
   rwa [Nat.zero_add] at this
theorem Strs.made (w : World) (L : List (List UInt8)) (t : TypeId) : Strs (w.alloc (.cells ((L.map bs).map Value.string).toArray t)) (some ⟨w.heap.size, 0, none⟩) L := by
 refine Or.inr ⟨w.heap.size, 0, rfl, by simp, fun i hi => ?_⟩
 have h : (w.alloc (.cells ((L.map bs).map Value.string).toArray t)).heap[w.heap.size]? = some (.cells ((L.map bs).map Value.string).toArray t (0, 0)) := by
  show (w.heap.push _)[w.heap.size]? = _
  simp
 unfold World.cell?
 simp only [h]
 simp [hi]
end Go.Proofs.YtefpllpichhojaaGreatDoor
namespace Go.Proofs.YtefpllpichhojaaGreatDoor
open Go.RowKit Go.WideShapes Go.ChangeShapes
section
variable {H : Type} {enc : TypeId × Value → H}
theorem trodAll_ext {P : Program} (hl : laidOutB P = true) {W W' : World} (hb : Ext W W') : ∀ (ts : List TypeId) (vs : List Value) (ds : List (DataW H)) (ps : List MemPlace),
 (ts.all fun t => P.readableRec t && decide (t < P.types.size)) = true →
 DataW.TrodAll enc P W 0 (fun _ => true) true ts vs ds ps → (∀ x ∈ ps, x.block < W.heap.size) →
 DataW.TrodAll enc P W' 0 (fun b => decide (b < W.heap.size)) true ts vs ds ps
 | [], [], [], _, _, h, _ => h
 | t :: ts, v :: vs, d :: ds, ps, hr, h, hlt => by
   obtain ⟨p, q, h1, h2, rfl⟩ := h
   simp only [List.all_cons, Bool.and_eq_true, decide_eq_true_eq] at hr
   exact ⟨p, q, Below.trod hl hr.1.1 hr.1.2 h1 hb (fun x hx => hlt x (List.mem_append_left _ hx)),
    trodAll_ext hl hb ts vs ds q hr.2 h2 (fun x hx => hlt x (List.mem_append_right _ hx)), rfl⟩
 | [], _ :: _, _, _, _, h, _ => h.elim
 | [], [], _ :: _, _, _, h, _ => h.elim
 | _ :: _, [], _, _, _, h, _ => h.elim
 | _ :: _, _ :: _, [], _, _, h, _ => h.elim
theorem law_post {P : Program} {f : Func} {s : ChangeSpec} {tb : TypeId} {W W' : World} {args : Array Value} {ds gs : List (DataW H)} {before : List MemPlace}
 (hl : laidOutB P = true) (hr : (f.params.toList.all fun t => P.readableRec t && decide (t < P.types.size)) = true)
 (hv : s.vars = []) (hres : f.resultTypes = #[tb]) (htb : P.underlying tb = some .bool)
 (hW : DataW.Whole enc P f.params.toList s.vars false W args.toList ds gs before)
 (hfn : s.fn H (ds ++ gs) = { results := [.lit (.bool true)], args := ds }) (hb : Ext W W') :
 s.post enc P f false true false false W args (.bool true) W' := by
 have hW' := hW
 have hlt := hW.lt
 obtain ⟨p, q, hA, hV, rfl, _, _⟩ := hW
 rw [hv] at hV
 have hq : gs = [] ∧ q = [] := by
  cases gs with
  | nil => exact ⟨rfl, hV⟩
  | cons _ _ => exact hV.elim
 obtain ⟨rfl, rfl⟩ := hq
 refine ⟨ds, [], p ++ [], [], p, [], hW', ?_, ?_, ?_, ?_, fun h => by cases h⟩
 · rw [hfn, hres]
   exact trodAll_cons_mk (shut_bool htb true) trodAll_mk0
 · rw [hfn]
   exact trodAll_ext hl hb _ _ _ _ hr hA (fun x hx => hlt x (List.mem_append_left _ hx))
 · rw [hfn, hv]; rfl
 · exact Below.frame hb _
end
theorem stand_ins {P : Program} {ps : Array TypeId} (h : (ps.toList.all fun t => !P.wantsStandIn t) = true) : ∀ (j : Nat) t, ps[j]? = some t → P.wantsStandIn t = false := by
 intro j t ht
 have hm : t ∈ ps.toList := by
  have := Array.mem_of_getElem? ht
  simpa using this
 have := List.all_eq_true.1 h t hm
 simpa using this
def layCells (w : World) (b : Nat) (cs : Array Value) : World :=
 { w with heap := w.heap.modify b fun
     | .cells _ t frozen => .cells cs t frozen
     | o => o }
theorem own : ownKnob Tryz.prog.godebug = none := by kernel_rfl
theorem laidOutP : laidOutB Tryz.prog = true := by kernel_rfl
def cellsFirst : Array Value := (Go.Pinned.utf8FirstZ.map fun (n : Nat) => Value.int .u8 (n : Int)).toArray
def cellsRanges : Array Value := ([128, 191, 160, 191, 128, 159, 144, 191, 128, 143, 0, 0, 0, 0, 0, 0, 0, 0, 0, 0, 0, 0, 0, 0, 0, 0, 0, 0, 0, 0, 0, 0].map fun (n : Int) => Value.int .u8 n).toArray
noncomputable def laidUtf8 (os : Os) : World :=
 layCells (layCells (World.holding Tryz.prog os ⟨#[], #[], []⟩) 1 cellsFirst) 2 cellsRanges
end Go.Proofs.YtefpllpichhojaaGreatDoor
namespace Go.Proofs.YtefpllpichhojaaGreatDoor
open Go.RowKit
theorem append_one {P : Program} {w : World} {ops : Array Oper} {rest : List Oper} {o : Oper} {a : Act} {Q : Exit → Act → World → Prop} (hgd : o.guard = none) (s x : Operand) (T : TypeId)
 (ho : o.op = .call { callee := .builtin .append, args := #[s, x], argTypes := #[T, T] })
 (E : TypeId) (z : Value) (bytes : Nat) (hT : P.underlying T = some (.slice E)) (hi : (P.info? E).map (fun i => (i.zero, i.size, i.bytes)) = some (some z, 1, bytes)) (hz1 : z.cells.size = 1)
 (base : Nat) (ad : Option Addr) (n cap : Nat) (xs : List Value) (hs : a.eval s = .slice ad n cap) (hown : w.ownsRow base E 1 (.slice ad n cap) n xs)
 (u : Value) (hu : u.oneCell' = true) (hx : a.eval x = .slice (some ⟨w.heap.size, 0, none⟩) 1 1)
 (h63 : n + 1 ≤ 1099511627776) (hbytes : bytes ≤ 128) (hbase : base ≤ w.heap.size)
 (h : ∀ g cap' w', w'.ownsRow base E 1 (.slice (some ⟨g, 0, none⟩) (n + 1) cap') (n + 1) (xs ++ [u]) → n + 1 ≤ cap' → Below base w w' → (w.alloc (.cells #[u] E)).grownBy w' (Value.slice ad n cap).ownBlock →
  wpList P ops Q rest (a.put o.dst (.slice (some ⟨g, 0, none⟩) (n + 1) cap')) w') :
 wpList P ops Q (o :: rest) a (w.alloc (.cells #[u] E)) := by
 obtain ⟨i, hi0, hz, hsz, hby⟩ := info_parts hi
 refine wpList_append_own _ hgd s x T ho base E i z 1 bytes hT hi0 hz hsz hby hz1 (by decide) _ n xs hs (hown.alloc _) ⟨w.heap.size, 0, none⟩ 1 1 [u] hx rfl ?_ ?_ ?_ ?_ ?_ ?_
 · intro j v hj
   match j, hj with
   | 0, hj => simp at hj; subst hj; simp [Addr.add]
 · intro v hv; simp at hv; subst hv; exact hu
 · unfold maxLen; omega
 · have : (n + 1) * bytes ≤ 1099511627776 * 128 := Nat.mul_le_mul h63 hbytes
   omega
 · simp; omega
 · intro v' w' hown' hg hnil
   rcases hown'.2 with ⟨h1, h2⟩ | ⟨g, cap', cur, rfl, hg1, hg2, hg3, _⟩
   · omega
   · refine h g cap' w' hown' hg3 ?_ hg
     exact ((Below.refl _ _).alloc hbase _).grown hg (by simp; omega) (fun k hk => ((hown.alloc (.cells #[u] E)).lt k hk).1)
def OwnS (w : World) (base : Nat) (a : Option Addr) (cap : Nat) (D : List (List UInt8)) : Prop := w.ownsRow base 9 1 (.slice a D.length cap) D.length (D.map fun p => .string (bs p))
theorem OwnS.strs {w : World} {base : Nat} {a : Option Addr} {cap : Nat} {D : List (List UInt8)} (h : OwnS w base a cap D) : Strs w a D ∧ D.length ≤ cap := by
 rcases h.2 with ⟨h1, h2⟩ | ⟨g, c, cur, h1, _, hg, hn, _⟩
 · have : D = [] := List.eq_nil_of_length_eq_zero h2
   subst this; exact ⟨Strs.nil _ _, Nat.zero_le _⟩
 · simp only [Value.slice.injEq] at h1
   obtain ⟨rfl, _, rfl⟩ := h1
   refine ⟨Or.inr ⟨g, 0, rfl, (Array.getElem?_eq_some_iff.1 hg).1, fun i hi => ?_⟩, hn⟩
   rw [Nat.zero_add, World.ownsRow.cellAt h i (by omega)]
   simp [hi]
theorem OwnS.nil (w : World) (base : Nat) : OwnS w base none 0 [] := World.ownsRow_nil _ _ _ _
theorem OwnS.ext {w w' : World} {base : Nat} {a : Option Addr} {cap : Nat} {D : List (List UInt8)} (h : OwnS w base a cap D) (k : Ext w w') : OwnS w' base a cap D := by
 refine ⟨h.1, ?_⟩
 rcases h.2 with h1 | ⟨g, c, cur, h1, hb, hg, r⟩
 · exact Or.inl h1
 · exact Or.inr ⟨g, c, cur, h1, hb, k.heap hg, r⟩
theorem info_string : (Tryz.prog.info? 9).map (fun i => (i.zero, i.size, i.bytes)) = some (some (.string ⟨#[]⟩), 1, 16) := by kernel_rfl
theorem append_text {w : World} {ops : Array Oper} {rest : List Oper} {o : Oper} {a : Act} {Q : Exit → Act → World → Prop} (hgd : o.guard = none) (s x : Operand)
 (ho : o.op = .call { callee := .builtin .append, args := #[s, x], argTypes := #[29, 29] })
 (base : Nat) (ad : Option Addr) (cap : Nat) (D : List (List UInt8)) (p : List UInt8) (hs : a.eval s = .slice ad D.length cap) (hown : OwnS w base ad cap D)
 (hx : a.eval x = .slice (some ⟨w.heap.size, 0, none⟩) 1 1)
 (h63 : D.length + 1 ≤ 1099511627776) (hbase : base ≤ w.heap.size)
 (h : ∀ g cap' w', OwnS w' base (some ⟨g, 0, none⟩) cap' (D ++ [p]) → Below base w w' →
  wpList Tryz.prog ops Q rest (a.put o.dst (.slice (some ⟨g, 0, none⟩) (D.length + 1) cap')) w') :
 wpList Tryz.prog ops Q (o :: rest) a (w.alloc (.cells #[.string (bs p)] 9)) := by
 refine append_one hgd s x _ ho 9 (.string ⟨#[]⟩) 16 Tryz.underlying29 info_string rfl base ad D.length cap _ hs hown (.string (bs p)) rfl hx h63 (by decide) hbase ?_
 intro g cap' w' hown' hcap hb _
 refine h g cap' w' ?_ hb
 unfold OwnS
 simp only [List.length_append, List.length_cons, List.length_nil, List.map_append, List.map_cons, List.map_nil]
 exact hown'
end Go.Proofs.YtefpllpichhojaaGreatDoor
namespace Go.Proofs.YtefpllpichhojaaGreatDoor
abbrev RSt := List UInt8 × Bool
def byteAt (l : List UInt8) (i : Nat) : Nat := (l.getD i 0).toNat
def le32 (l : List UInt8) : Nat := byteAt l 0 + 256 * byteAt l 1 + 65536 * byteAt l 2 + 16777216 * byteAt l 3
def num4 (n : Nat) : List UInt8 := [UInt8.ofNat n, UInt8.ofNat (n / 256), UInt8.ofNat (n / 65536), UInt8.ofNat (n / 16777216)]
theorem num4_len (n : Nat) : (num4 n).length = 4 := rfl
theorem le32_lt (l : List UInt8) : le32 l < 4294967296 := by
 unfold le32 byteAt
 have h0 := (l.getD 0 0).toNat_lt
 have h1 := (l.getD 1 0).toNat_lt
 have h2 := (l.getD 2 0).toNat_lt
 have h3 := (l.getD 3 0).toNat_lt
 omega
theorem u8_ofNat_eq {n : Nat} {b : UInt8} (h : n % 256 = b.toNat) : UInt8.ofNat n = b := by
 apply UInt8.toNat_inj.1
 rw [UInt8.toNat_ofNat']
 exact h
theorem num4_le32 {l : List UInt8} (h : 4 ≤ l.length) : num4 (le32 l) ++ l.drop 4 = l := by
 match l, h with
 | a :: b :: c :: d :: r, _ =>
   have ha := a.toNat_lt
   have hb := b.toNat_lt
   have hc := c.toNat_lt
   have hd := d.toNat_lt
   have e : le32 (a :: b :: c :: d :: r) = a.toNat + 256 * b.toNat + 65536 * c.toNat + 16777216 * d.toNat := rfl
   have e0 : UInt8.ofNat (le32 (a :: b :: c :: d :: r)) = a := u8_ofNat_eq (by rw [e]; omega)
   have e1 : UInt8.ofNat (le32 (a :: b :: c :: d :: r) / 256) = b := u8_ofNat_eq (by rw [e]; omega)
   have e2 : UInt8.ofNat (le32 (a :: b :: c :: d :: r) / 65536) = c := u8_ofNat_eq (by rw [e]; omega)
   have e3 : UInt8.ofNat (le32 (a :: b :: c :: d :: r) / 16777216) = d := u8_ofNat_eq (by rw [e]; omega)
   unfold num4
   rw [e0, e1, e2, e3]
   rfl
def rNum (most : Nat) (s : RSt) : Nat × RSt :=
 if s.1.length < 4 then (0, ([], true)) else
 if most < le32 s.1 then (0, ([], true)) else (le32 s.1, (s.1.drop 4, s.2))
def rRaw (most : Nat) (s : RSt) : List UInt8 × RSt :=
 if (rNum most s).2.1.length < (rNum most s).1 then ([], ([], true))
 else ((rNum most s).2.1.take (rNum most s).1, ((rNum most s).2.1.drop (rNum most s).1, (rNum most s).2.2))
def raw4 (l : List UInt8) : List UInt8 := num4 l.length ++ l
theorem rNum_good {most : Nat} {s : RSt} {n : Nat} {l : List UInt8} (h : rNum most s = (n, (l, false))) : s.2 = false ∧ s.1 = num4 n ++ l ∧ n ≤ most ∧ n < 4294967296 := by
 unfold rNum at h
 split at h
 · simp at h
 · split at h
   · simp at h
   · simp only [Prod.mk.injEq] at h
     obtain ⟨h1, h2, h3⟩ := h
     subst h1 h2
     exact ⟨h3, (num4_le32 (by omega)).symm, by omega, le32_lt _⟩
theorem rNum_le (most : Nat) (s : RSt) : (rNum most s).1 ≤ most := by
 unfold rNum; split
 · simp
 · split
   · simp
   · simp; omega
def rDone (s : RSt) : Bool := !s.2 && decide (s.1.length = 0)
end Go.Proofs.YtefpllpichhojaaGreatDoor
namespace Go.Proofs.YtefpllpichhojaaGreatDoor
open Go.RowKit
def Bytes (w : World) (a : Option Addr) (l : List UInt8) : Prop :=
 l = [] ∨ ∃ g off, a = some ⟨g, off, none⟩ ∧ g < w.heap.size ∧ ∀ i, i < l.length → w.cell? ⟨g, off + i, none⟩ = some (.int .u8 (byteAt l i : Nat))
theorem Bytes.ext {w w' : World} {a : Option Addr} {l : List UInt8} (h : Bytes w a l) (k : Ext w w') : Bytes w' a l := by
 rcases h with h | ⟨g, off, ha, hg, hc⟩
 · exact Or.inl h
 · exact Or.inr ⟨g, off, ha, Nat.lt_of_lt_of_le hg k.size, fun i hi => k.cell (hc i hi)⟩
theorem Bytes.at {w : World} {a : Option Addr} {l : List UInt8} (h : Bytes w a l) (hL : l ≠ []) :
 ∃ g off, a = some ⟨g, off, none⟩ ∧ g < w.heap.size ∧ ∀ i, i < l.length → w.cell? ⟨g, off + i, none⟩ = some (.int .u8 (byteAt l i : Nat)) :=
 h.resolve_left hL
structure But (R : Nat) (w w' : World) : Prop where
 os : w'.os = w.os
 tape : w'.tape = w.tape
 output : w'.output = w.output
 size : w.heap.size ≤ w'.heap.size
 block : ∀ k, k < w.heap.size → k ≠ R → w'.heap[k]? = w.heap[k]?
theorem But.refl (R : Nat) (w : World) : But R w w := ⟨rfl, rfl, rfl, Nat.le_refl _, fun _ _ _ => rfl⟩
theorem But.trans {R : Nat} {a b c : World} (h : But R a b) (k : But R b c) : But R a c :=
 ⟨k.os.trans h.os, k.tape.trans h.tape, k.output.trans h.output, Nat.le_trans h.size k.size, fun i hi hn => (k.block i (Nat.lt_of_lt_of_le hi h.size) hn).trans (h.block i hi hn)⟩
theorem But.drewN {R : Nat} {a b : World} (h : But R a b) (n : Nat) : But R a (b.drewN n) := ⟨h.os, h.tape, h.output, h.size, h.block⟩
theorem But.setCell {R : Nat} {a b : World} (h : But R a b) (i : Nat) (v : Value) : But R a (b.setCell ⟨R, i, none⟩ v) :=
 h.trans ⟨rfl, rfl, rfl, by simp [World.setCell], fun k _ hk => Below.heap_setCell _ _ _ _ hk⟩
theorem But.ext {R : Nat} {w a b : World} (h : Ext w a) (k : But R a b) (hR : w.heap.size ≤ R) : Ext w b :=
 ⟨k.os.trans h.os, k.tape.trans h.tape, k.output.trans h.output, Nat.le_trans h.size k.size, fun i hi => (k.block i (Nat.lt_of_lt_of_le hi h.size) (by omega)).trans (h.block i hi)⟩
theorem But.cell {R : Nat} {w w' : World} (k : But R w w') {g o : Nat} {v : Value} (hg : g ≠ R) (hv : w.cell? ⟨g, o, none⟩ = some v) : w'.cell? ⟨g, o, none⟩ = some v := by
 have hlt : g < w.heap.size := by
  rcases Nat.lt_or_ge g w.heap.size with hl | hl
  · exact hl
  · have e : w.heap[g]? = none := Array.getElem?_eq_none hl
    simp [World.cell?, e] at hv
 rw [World.cell?_of_block (w := w) (w' := w') (a := ⟨g, o, none⟩) (k.block g hlt hg)]; exact hv
theorem setCell_row {w : World} {R i : Nat} {cs : Array Value} {t : TypeId} {fr : Nat × Nat} (hg : w.heap[R]? = some (.cells cs t fr)) (v : Value) :
 (w.setCell ⟨R, i, none⟩ v).heap[R]? = some (.cells (cs.setIfInBounds i v) t fr) := by
 simp only [World.setCell, Array.getElem?_modify, hg]
 simp
structure Keep (S : Nat → Prop) (w w' : World) : Prop where
 os : w'.os = w.os
 tape : w'.tape = w.tape
 output : w'.output = w.output
 size : w.heap.size ≤ w'.heap.size
 block : ∀ k, k < w.heap.size → S k → w'.heap[k]? = w.heap[k]?
theorem Keep.refl (S : Nat → Prop) (w : World) : Keep S w w := ⟨rfl, rfl, rfl, Nat.le_refl _, fun _ _ _ => rfl⟩
theorem Keep.trans {S : Nat → Prop} {a b c : World} (h : Keep S a b) (k : Keep S b c) : Keep S a c :=
 ⟨k.os.trans h.os, k.tape.trans h.tape, k.output.trans h.output, Nat.le_trans h.size k.size, fun i hi hn => (k.block i (Nat.lt_of_lt_of_le hi h.size) hn).trans (h.block i hi hn)⟩
theorem Keep.mono {S T : Nat → Prop} {a b : World} (h : Keep S a b) (hT : ∀ k, k < a.heap.size → T k → S k) : Keep T a b := ⟨h.os, h.tape, h.output, h.size, fun k hk hS => h.block k hk (hT k hk hS)⟩
theorem Keep.of_ext {S : Nat → Prop} {a b : World} (h : Ext a b) : Keep S a b := ⟨h.os, h.tape, h.output, h.size, fun k hk _ => h.block k hk⟩
theorem Keep.of_below {B : Nat} {a b : World} (h : Below B a b) : Keep (· < B) a b := ⟨h.os, h.tape, h.output, h.size, fun k _ hS => h.block k hS⟩
theorem Keep.of_but {R : Nat} {a b : World} (h : But R a b) : Keep (· ≠ R) a b := ⟨h.os, h.tape, h.output, h.size, fun k hk hS => h.block k hk hS⟩
theorem Keep.of_grown {row : Option Nat} {a b : World} (h : a.grownBy b row) : Keep (fun k => some k ≠ row) a b := ⟨h.os, h.tape, h.output, h.size, fun k hk hS => h.block k hk hS⟩
theorem Keep.ext {a b : World} (h : Keep (fun _ => True) a b) : Ext a b := ⟨h.os, h.tape, h.output, h.size, fun k hk => h.block k hk trivial⟩
theorem Keep.heap {S : Nat → Prop} {w w' : World} (h : Keep S w w') {g : Nat} {o : Obj} (hS : S g) (hg : w.heap[g]? = some o) : w'.heap[g]? = some o :=
 (h.block g (Array.getElem?_eq_some_iff.1 hg).1 hS).trans hg
theorem lt_of_cell {w : World} {g o : Nat} {v : Value} (hv : w.cell? ⟨g, o, none⟩ = some v) : g < w.heap.size := by
 rcases Nat.lt_or_ge g w.heap.size with hl | hl
 · exact hl
 · have e : w.heap[g]? = none := Array.getElem?_eq_none hl
   simp [World.cell?, e] at hv
theorem Keep.cell {S : Nat → Prop} {w w' : World} (k : Keep S w w') {g o : Nat} {v : Value} (hg : S g) (hv : w.cell? ⟨g, o, none⟩ = some v) : w'.cell? ⟨g, o, none⟩ = some v := by
 rw [World.cell?_of_block (w := w) (w' := w') (a := ⟨g, o, none⟩) (k.block g (lt_of_cell hv) hg)]; exact hv
def Row (S : Nat → Prop) (w : World) (a : Option Addr) (cs : List Value) : Prop :=
 cs = [] ∨ ∃ g off, a = some ⟨g, off, none⟩ ∧ g < w.heap.size ∧ S g ∧ ∀ i, i < cs.length → w.cell? ⟨g, off + i, none⟩ = cs[i]?
theorem Row.keep {S : Nat → Prop} {w w' : World} {a : Option Addr} {cs : List Value} (h : Row S w a cs) (k : Keep S w w') : Row S w' a cs := by
 rcases h with h | ⟨g, off, ha, hg, hS, hc⟩
 · exact Or.inl h
 · refine Or.inr ⟨g, off, ha, Nat.lt_of_lt_of_le hg k.size, hS, fun i hi => ?_⟩
   have := hc i hi
   rw [List.getElem?_eq_getElem hi] at this ⊢
   exact k.cell hS this
theorem Row.mono {S T : Nat → Prop} {w : World} {a : Option Addr} {cs : List Value} (h : Row S w a cs) (hT : ∀ k, k < w.heap.size → S k → T k) : Row T w a cs := by
 rcases h with h | ⟨g, off, ha, hg, hS, hc⟩
 · exact Or.inl h
 · exact Or.inr ⟨g, off, ha, hg, hT g hg hS, hc⟩
theorem Row.at {S : Nat → Prop} {w : World} {a : Option Addr} {cs : List Value} (h : Row S w a cs) (hL : cs ≠ []) :
 ∃ g off, a = some ⟨g, off, none⟩ ∧ g < w.heap.size ∧ S g ∧ ∀ i, i < cs.length → w.cell? ⟨g, off + i, none⟩ = cs[i]? := h.resolve_left hL
def byteV (l : List UInt8) : List Value := l.map fun b => .int .u8 (b.toNat : Int)
def BytesS (S : Nat → Prop) (w : World) (a : Option Addr) (l : List UInt8) : Prop := Row S w a (byteV l)
theorem byteV_at {l : List UInt8} {i : Nat} (hi : i < l.length) : (byteV l)[i]? = some (.int .u8 (byteAt l i : Nat)) := by
 simp [byteV, byteAt, hi]
theorem BytesS.bytes {S : Nat → Prop} {w : World} {a : Option Addr} {l : List UInt8} (h : BytesS S w a l) : Bytes w a l := by
 rcases h with h | ⟨g, off, ha, hg, hS, hc⟩
 · left; simpa [byteV] using h
 · refine Or.inr ⟨g, off, ha, hg, fun i hi => ?_⟩
   rw [hc i (by simpa [byteV] using hi), byteV_at hi]
theorem Bytes.row {w : World} {a : Option Addr} {l : List UInt8} (h : Bytes w a l) : BytesS (fun _ => True) w a l := by
 rcases h with h | ⟨g, off, ha, hg, hc⟩
 · left; simp [byteV, h]
 · refine Or.inr ⟨g, off, ha, hg, trivial, fun i hi => ?_⟩
   have hi' : i < l.length := by simpa [byteV] using hi
   rw [hc i hi', byteV_at hi']
theorem cell_new (w : World) (cs : Array Value) (t : TypeId) (i : Nat) (v : Value) (h : cs[i]? = some v) : (w.alloc (.cells cs t)).cell? ⟨w.heap.size, i, none⟩ = some v := by
 rw [cell_of_row _ _ _ _ _ _ (heap_alloc_new w _)]; exact h
theorem ext_below {a b c d : World} {B : Nat} (hB : a.heap.size = B) (h : Ext a b) (h2 : Ext b c) (h3 : Below B c d) : Ext a d := by
 subst hB
 exact Below.trans (h.trans h2) h3
theorem blk_cell {w : World} {R : Nat} {cs : Array Value} {t : TypeId} (hg : w.heap[R]? = some (.cells cs t (0, 0))) (i : Nat) (v : Value) (hi : cs[i]? = some v) : w.cell? ⟨R, i, none⟩ = some v := by
 rw [cell_of_row _ _ _ _ _ _ hg]; exact hi
theorem blk_free {w : World} {R : Nat} {cs : Array Value} {t : TypeId} (hg : w.heap[R]? = some (.cells cs t (0, 0))) (i : Nat) : w.frozen? ⟨R, i, none⟩ = false := by
 unfold World.frozen?; simp only [hg]; simp
theorem Keep.setCell {S : Nat → Prop} {a b : World} (h : Keep S a b) {R : Nat} (hR : ∀ k, S k → k ≠ R) (i : Nat) (v : Value) : Keep S a (b.setCell ⟨R, i, none⟩ v) :=
 h.trans ⟨rfl, rfl, rfl, by simp [World.setCell], fun k _ hS => Below.heap_setCell _ _ _ _ (hR k hS)⟩
theorem ownsRow_keep {S : Nat → Prop} {w w' : World} {base e size n : Nat} {v : Value} {xs : List Value} (h : w.ownsRow base e size v n xs) (k : Keep S w w') (hS : ∀ g cur, v.ownBlock = some g → base ≤ g → w.heap[g]? = some (.cells cur e (0, 0)) → S g) : w'.ownsRow base e size v n xs := by
 refine ⟨h.1, ?_⟩
 rcases h.2 with h1 | ⟨g, c, cur, h1, hb, hg, r⟩
 · exact Or.inl h1
 · exact Or.inr ⟨g, c, cur, h1, hb, k.heap (hS g cur (by rw [h1]; rfl) hb hg) hg, r⟩
theorem Keep.ext_lt {a b : World} (h : Keep (· < a.heap.size) a b) : Ext a b := ⟨h.os, h.tape, h.output, h.size, fun k hk => h.block k hk hk⟩
end Go.Proofs.YtefpllpichhojaaGreatDoor
namespace Go.Proofs.YtefpllpichhojaaGreatDoor
open Go.RowKit Go.WideShapes Go.ChangeShapes
end Go.Proofs.YtefpllpichhojaaGreatDoor
namespace Go.Proofs.YtefpllpichhojaaGreatDoor
open Go.RowKit
theorem flat_at {α : Type} {F : α → List Value} {m : Nat} (hm : ∀ x, (F x).length = m) : ∀ (L : List α) (i r : Nat) (hi : i < L.length), r < m → (L.flatMap F)[i * m + r]? = (F L[i])[r]?
 | [], i, r, hi, _ => by simp at hi
 | x :: L, 0, r, _, hr => by
   rw [List.flatMap_cons, List.getElem?_append_left (by rw [hm]; omega)]
   simp
 | x :: L, i + 1, r, hi, hr => by
   have ih := flat_at hm L i r (by simpa using hi) hr
   rw [List.flatMap_cons, List.getElem?_append_right (by rw [hm, Nat.succ_mul]; omega), hm]
   have e : (i + 1) * m + r - m = i * m + r := by rw [Nat.succ_mul]; omega
   rw [e, ih]
   simp
theorem flat_lenm {α : Type} {F : α → List Value} {m : Nat} (hm : ∀ x, (F x).length = m) : ∀ (L : List α), (L.flatMap F).length = L.length * m
 | [] => by simp
 | x :: L => by rw [List.flatMap_cons, List.length_append, hm, flat_lenm hm L, List.length_cons, Nat.succ_mul]; omega
def RunM (w : World) (a : Option Addr) (us : List Value) : Prop := us = [] ∨ ∃ g off, a = some ⟨g, off, none⟩ ∧ g < w.heap.size ∧ ∀ j u, us[j]? = some u → w.cell? ⟨g, off + j, none⟩ = some u
def Fresh (base : Nat) (a : Option Addr) : Prop := ∀ ad, a = some ad → base ≤ ad.block
theorem run_of_row {w : World} {base E m n : Nat} {v : Value} {us : List Value} (h : w.ownsRow base E m v n us) : ∃ a c, v = .slice a n c ∧ n ≤ c ∧ RunM w a us ∧ Fresh base a := by
 have hl := h.1
 rcases h.2 with ⟨h1, h2⟩ | ⟨g, c, cur, h1, hbg, hg, hn, hm, hs, ht⟩
 · exact ⟨none, 0, by rw [h1, h2], by omega, Or.inl (List.eq_nil_of_length_eq_zero (by rw [hl, h2]; simp)), fun ad h => by cases h⟩
 · refine ⟨_, c, h1, hn, Or.inr ⟨g, 0, rfl, (Array.getElem?_eq_some_iff.1 hg).1, fun j u hj => ?_⟩, fun ad h => by cases h; exact hbg⟩
   rw [← ht, List.getElem?_take] at hj
   rw [Nat.zero_add]
   split at hj
   · exact blk_cell hg _ _ (by simpa using hj)
   · cases hj
theorem RunM.ext {w w' : World} {a : Option Addr} {us : List Value} (h : RunM w a us) (k : Ext w w') : RunM w' a us := by
 rcases h with h | ⟨g, off, ha, hg, hc⟩
 · exact Or.inl h
 · exact Or.inr ⟨g, off, ha, Nat.lt_of_lt_of_le hg k.size, fun j u hj => k.cell (hc j u hj)⟩
theorem RunM.plain {w : World} {ad : Addr} {us : List Value} (h : RunM w (some ad) us) : ∀ j u, us[j]? = some u → w.cell? (ad.add j) = some u := by
 intro j u hj
 rcases h with h | ⟨g, off, ha, _, hc⟩
 · rw [h] at hj; simp at hj
 · have ha := Option.some.inj ha
   subst ha
   have e : (⟨g, off, none⟩ : Addr).add j = ⟨g, off + j, none⟩ := by
    unfold Addr.add; split
    · rename_i h0; subst h0; rfl
    · rfl
   rw [e]; exact hc j u hj
end Go.Proofs.YtefpllpichhojaaGreatDoor
namespace Go.Proofs.YtefpllpichhojaaGreatDoor
open Go.RowKit
def selfR : Value → Option (DataW Value × List MemPlace) := fun v => some (.held v, [])
def MapF {α : Type} (c : α → Lit) (w : World) (k : TypeId) (b n : Nat) (f : α → Option Value) : Prop :=
 ∃ D : DataW Value, w.ownsMap Tryz.prog k selfR b n D ∧ Maps.IsMap D ∧ ∀ x, (∀ z : Value, D.atKey (c x) (.held z) = .held ((f x).getD z)) ∧ Maps.has D (c x) = (f x).isSome
section
variable {α : Type} {c : α → Lit} {w : World} {k : TypeId} {b n : Nat} {f : α → Option Value}
theorem MapF.lt (h : MapF c w k b n f) : b < w.heap.size := by obtain ⟨D, h1, _⟩ := h; exact h1.lt
theorem MapF.made (c : α → Lit) (w : World) (k : TypeId) : MapF c (w.alloc (.map #[] 0)) k w.heap.size 0 (fun _ => none) :=
 ⟨_, World.ownsMap_made w _ k selfR, Maps.isMap_empty, fun _ => ⟨fun _ => rfl, rfl⟩⟩
theorem MapF.keep {S : Nat → Prop} {w' : World} (h : MapF c w k b n f) (kp : Keep S w w') (hS : S b) : MapF c w' k b n f := by
 obtain ⟨D, h1, h2, h3⟩ := h
 have hb := h1.lt
 obtain ⟨es, clock, g1, g2, g3, g4⟩ := h1
 exact ⟨D, ⟨es, clock, (kp.block b hb hS).trans g1, g2, g3, g4⟩, h2, h3⟩
theorem MapF.ext {w' : World} (h : MapF c w k b n f) (kp : Ext w w') : MapF c w' k b n f := h.keep (Keep.of_ext (S := fun _ => True) kp) trivial
theorem MapF.same {g : α → Option Value} (h : MapF c w k b n f) (e : f = g) : MapF c w k b n g := e ▸ h
theorem MapF.mono {m : Nat} (h : MapF c w k b n f) (hm : n ≤ m) : MapF c w k b m f := by
 obtain ⟨D, h1, h2⟩ := h; exact ⟨D, h1.mono hm, h2⟩
theorem MapF.lookup {t e : TypeId} {z : Value} (h : MapF c w k b n f) (K : Maps.Keyed Tryz.prog k) (ht : Tryz.prog.underlying t = some (.map k e)) (hz : (zeroValue e).run Tryz.prog w = .ok z w) {key : Value} {kl : α} (hkey : keyOf Tryz.prog k key = some (c kl)) :
 (Instr.lookup t (.map (some b)) key false).run Tryz.prog w = .ok ((f kl).getD z) w := by
 obtain ⟨D, h1, h2, h3⟩ := h
 obtain ⟨v, ps, hr, hv⟩ := h1.lookup K ht hz (zd := .held z) (zp := []) rfl hkey
 rw [hr]
 have : DataW.held v = D.atKey (c kl) (.held z) := (Prod.mk.inj (Option.some.inj hv)).1
 rw [(h3 kl).1 z] at this
 rw [DataW.held.inj this]
theorem MapF.look_ok {t e : TypeId} {z : Value} (h : MapF c w k b n f) (K : Maps.Keyed Tryz.prog k) (ht : Tryz.prog.underlying t = some (.map k e)) (hz : (zeroValue e).run Tryz.prog w = .ok z w) {key : Value} {kl : α} (hkey : keyOf Tryz.prog k key = some (c kl)) :
 (Instr.lookup t (.map (some b)) key true).run Tryz.prog w = .ok (.tuple #[(f kl).getD z, .bool (f kl).isSome]) w := by
 obtain ⟨D, h1, h2, h3⟩ := h
 obtain ⟨v, ps, hr, hv⟩ := h1.look_ok K ht hz (zd := .held z) (zp := []) rfl hkey
 rw [hr, (h3 kl).2]
 have : DataW.held v = D.atKey (c kl) (.held z) := (Prod.mk.inj (Option.some.inj hv)).1
 rw [(h3 kl).1 z] at this
 rw [DataW.held.inj this]
theorem MapF.store {t e : TypeId} (h : MapF c w k b n f) (K : Maps.Keyed Tryz.prog k) (ht : Tryz.prog.underlying t = some (.map k e)) (hn : n < maxLen) (hc : ∀ x y, c x = c y → x = y) [DecidableEq α] {key : Value} (v : Value) {kl : α} (hkey : keyOf Tryz.prog k key = some (c kl)) :
 ∃ w', (Instr.mapUpdate t (.map (some b)) key v).run Tryz.prog w = .ok () w' ∧ MapF c w' k b (n + 1) (fun x => if x = kl then some v else f x) ∧ Keep (· ≠ b) w w' := by
 obtain ⟨D, h1, h2, h3⟩ := h
 obtain ⟨w', hr, ho, hg⟩ := h1.update K ht hn hkey (val := v) (d := .held v) (ps := []) rfl
 refine ⟨w', hr, ⟨_, ho, h2.put _ _, fun x => ?_⟩, (Keep.of_grown hg).mono (fun k _ hk => by intro e; exact hk (by injection e))⟩
 by_cases hx : x = kl
 · subst hx
   simp only [if_true]
   exact ⟨fun z => Maps.atKey_put_same h2 (K.key hkey) _ _, Maps.has_put_same h2 (K.key hkey) _⟩
 · simp only [if_neg hx]
   exact ⟨fun z => by rw [Maps.atKey_put_other (fun e => hx (hc _ _ e))]; exact (h3 x).1 z, by rw [Maps.has_put_other (fun e => hx (hc _ _ e))]; exact (h3 x).2⟩
theorem MapF.drop {t e : TypeId} (h : MapF c w k b n f) (K : Maps.Keyed Tryz.prog k) (ht : Tryz.prog.underlying t = some (.map k e)) (hc : ∀ x y, c x = c y → x = y) [DecidableEq α] {key : Value} {kl : α} (hkey : keyOf Tryz.prog k key = some (c kl)) (ty : TypeId) :
 ∃ w', (Builtin.delete_ #[t, k] ty #[.map (some b), key]).run Tryz.prog w = .ok (.tuple #[]) w' ∧ MapF c w' k b n (fun x => if x = kl then none else f x) ∧ Keep (· ≠ b) w w' := by
 obtain ⟨D, h1, h2, h3⟩ := h
 obtain ⟨w', hr, ho, hg⟩ := h1.drop K ht hkey ty
 refine ⟨w', hr, ⟨_, ho, h2.del _, fun x => ?_⟩, (Keep.of_grown hg.grown).mono (fun k _ hk => by intro e; exact hk (by injection e))⟩
 by_cases hx : x = kl
 · subst hx
   simp only [if_true]
   exact ⟨fun z => Maps.atKey_del_same _, Maps.has_del_same⟩
 · simp only [if_neg hx]
   exact ⟨fun z => by rw [Maps.atKey_del_other (fun e => hx (hc _ _ e))]; exact (h3 x).1 z, by rw [Maps.has_del_other (fun e => hx (hc _ _ e))]; exact (h3 x).2⟩
end
theorem str_keyed : Maps.Keyed Tryz.prog 9 := Maps.string_keyed Tryz.underlying9
theorem key_str (s : ByteArray) (hs : s.size ≤ maxLen) : keyOf Tryz.prog 9 (.string s) = some (.string s.data.toList) := by
 unfold keyOf
 rw [Tryz.underlying9]
 simp [mapKey, Tryz.underlying9, hs]
end Go.Proofs.YtefpllpichhojaaGreatDoor
namespace Go.Proofs.YtefpllpichhojaaGreatDoor
open Go.RowKit
theorem Keep.andThen {S T : Nat → Prop} {a b c : World} (h : Keep S a b) (k : Keep T b c) (hT : ∀ j, j < a.heap.size → S j → T j) : Keep S a c :=
 ⟨k.os.trans h.os, k.tape.trans h.tape, k.output.trans h.output, Nat.le_trans h.size k.size, fun j hj hS => (k.block j (Nat.lt_of_lt_of_le hj h.size) (hT j hj hS)).trans (h.block j hj hS)⟩
def MapG {α : Type} (c : α → Lit) (w : World) (k : TypeId) (b r n : Nat) (f : α → Option Value) (left : α → Bool) (cnt : Nat) : Prop :=
 ∃ (D : DataW Value) (lf : Lit → Bool), w.ranges Tryz.prog k selfR b r n D lf cnt ∧ Maps.IsMap D ∧ (∀ x, (∀ z : Value, D.atKey (c x) (.held z) = .held ((f x).getD z)) ∧ Maps.has D (c x) = (f x).isSome) ∧ ∀ x, lf (c x) = left x ∧ (left x = true → (f x).isSome = true)
section
variable {α : Type} {c : α → Lit} {w : World} {k : TypeId} {b r n cnt : Nat} {f : α → Option Value} {left : α → Bool}
theorem MapG.map (h : MapG c w k b r n f left cnt) : MapF c w k b n f := by
 obtain ⟨D, lf, h1, h2, h3, h4⟩ := h
 exact ⟨D, h1.owns, h2, h3⟩
theorem MapG.count (h : MapG c w k b r n f left cnt) : w.rangeLeft b r = cnt := by
 obtain ⟨D, lf, h1, _⟩ := h
 exact h1.left_eq
theorem MapG.lt (h : MapG c w k b r n f left cnt) : r < w.heap.size := by
 obtain ⟨D, lf, h1, _⟩ := h
 exact h1.lt
theorem MapG.keep {S : Nat → Prop} {w' : World} (h : MapG c w k b r n f left cnt) (kp : Keep S w w') (hb : S b) (hr : S r) : MapG c w' k b r n f left cnt := by
 have hrl := h.lt
 have hbl := h.map.lt
 obtain ⟨D, lf, h1, h2, h3, h4⟩ := h
 refine ⟨D, lf, ?_, h2, h3, h4⟩
 obtain ⟨es, clock, since, seen, c0, g1, g2, g3, g4, g5, g6⟩ := h1
 exact ⟨es, clock, since, seen, c0, (kp.block b hbl hb).trans g1, g2, g3, g4, (kp.block r hrl hr).trans g5, g6⟩
theorem MapG.ext {w' : World} (h : MapG c w k b r n f left cnt) (kp : Ext w w') : MapG c w' k b r n f left cnt := h.keep (Keep.of_ext (S := fun _ => True) kp) trivial trivial
variable {ops : Array Oper} {rest : List Oper} {o : Oper} {a : Act} {Q : Exit → Act → World → Prop}
theorem wpList_range_F (hg : o.guard = none) (m : Operand) (t : TypeId) (hop : o.op = Op.range t m) (e : TypeId) (K : Maps.Keyed Tryz.prog k) (ht : Tryz.prog.underlying t = some (.map k e))
 (b n : Nat) (f : α → Option Value) (hm : a.eval m = .map (some b)) (h : MapF c w k b n f)
 (hK : ∀ w' cnt, MapG c w' k b w.heap.size n f (fun x => (f x).isSome) cnt → Ext w w' → w'.heap.size = w.heap.size + 1 → wpList Tryz.prog ops Q rest (a.put o.dst (.pointer (some ⟨w.heap.size, 0, none⟩))) w') :
 wpList Tryz.prog ops Q (o :: rest) a w := by
 obtain ⟨D, h1, h2, h3⟩ := h
 refine wpList_range_own _ hg m t hop k e K ht selfR b n D hm h1 ?_
 intro w' r1 r2 r3
 exact hK w' _ ⟨D, Maps.has D, r1, h2, h3, fun x => ⟨(h3 x).2, fun h => h⟩⟩ ⟨r2.os, r2.tape, r2.output, r2.size, fun j hj => r2.block j hj (by simp)⟩ r3
theorem wpList_next_F [DecidableEq α] (hg : o.guard = none) (it : Operand) (hop : o.op = Op.next it false) (K : Maps.Keyed Tryz.prog k) (mk : α → Value) (hc : ∀ x y, c x = c y → x = y)
 (inv : ∀ key kl, keyOf Tryz.prog k key = some kl → ∃ x, key = mk x ∧ kl = c x) (b r n : Nat) (f : α → Option Value) (left : α → Bool) (cnt : Nat)
 (hit : a.eval it = .pointer (some ⟨r, 0, none⟩)) (h : MapG c w k b r n f left cnt)
 (hDone : (∀ x, left x = false) → wpList Tryz.prog ops Q rest (a.put o.dst (.tuple #[.bool false])) w)
 (hMore : ∀ (x : α) (v : Value) (w' : World) (cnt' : Nat), keyOf Tryz.prog k (mk x) = some (c x) → left x = true → f x = some v → MapG c w' k b r n f (fun z => left z && !decide (z = x)) cnt' → cnt' < cnt → Keep (· ≠ r) w w' → w'.heap.size = w.heap.size →
  (Instr.entry (.pointer (some ⟨r, 0, none⟩))).run Tryz.prog w' = .ok (.tuple #[mk x, v]) w' → wpList Tryz.prog ops Q rest (a.put o.dst (.tuple #[.bool true, mk x, v])) w') :
 wpList Tryz.prog ops Q (o :: rest) a w := by
 obtain ⟨D, lf, h1, h2, h3, h4⟩ := h
 refine wpList_next_ranges _ hg it hop k K selfR (id : Value → Value) (id : Value → Value) (fun key _ _ => ⟨key, rfl⟩) (fun v _ _ => ⟨v, rfl⟩) b r n D lf cnt hit h1 ?_ ?_
 · intro _ hl
   exact hDone fun x => by rw [← (h4 x).1]; exact hl _
 · intro key v kl y w' cnt' hkey hlk hv hat hrg hlt hgr hsz hen
   obtain ⟨x, rfl, rfl⟩ := inv key kl hkey
   have hlx : left x = true := by rw [← (h4 x).1]; exact hlk
   have hy : y = (.held v, []) := (Option.some.inj hv).symm
   have hfx : f x = some v := by
    obtain ⟨u, hu⟩ := Option.isSome_iff_exists.1 ((h4 x).2 hlx)
    have e1 := (h3 x).1 v
    rw [hat (.held v), hy, hu] at e1
    rw [hu]
    exact congrArg some (DataW.held.inj e1).symm
   have hself : (c x).sameKey (c x) = true := WideAt.sameKey_self (K.key hkey)
   refine hMore x v w' cnt' hkey hlx hfx ⟨D, _, hrg, h2, h3, fun z => ?_⟩ hlt ((Keep.of_grown hgr).mono (fun j _ hj => by intro e; exact hj (by injection e))) hsz hen
   by_cases hz : z = x
   · subst hz
     rw [hself]
     simp
   · have hne : (c z).sameKey (c x) = false := Maps.sameKey_ne (fun e => hz (hc _ _ e))
     rw [hne]
     simp only [decide_eq_false hz, Bool.not_false, Bool.and_true]
     exact h4 z
end
section
variable {α : Type} {c : α → Lit} {w : World} {k : TypeId} {b n : Nat} {f : α → Option Value} {ops : Array Oper} {rest : List Oper} {o : Oper} {a : Act} {Q : Exit → Act → World → Prop}
theorem wpList_store_F [DecidableEq α] (hg : o.guard = none) (m x v : Operand) (t : TypeId) (hop : o.op = Op.mapUpdate t m x v) (e : TypeId) (K : Maps.Keyed Tryz.prog k) (ht : Tryz.prog.underlying t = some (.map k e))
 (b n : Nat) (f : α → Option Value) (hm : a.eval m = .map (some b)) (h : MapF c w k b n f) (hn : n < maxLen) (hc : ∀ x y, c x = c y → x = y) (key val : Value) (kl : α) (hx : a.eval x = key) (hv : a.eval v = val) (hkey : keyOf Tryz.prog k key = some (c kl))
 (hK : ∀ w', MapF c w' k b (n + 1) (fun z => if z = kl then some val else f z) → Keep (· ≠ b) w w' → wpList Tryz.prog ops Q rest (a.put o.dst undef) w') :
 wpList Tryz.prog ops Q (o :: rest) a w := by
 refine wpList_plain hg fun K' hK' => ?_
 obtain ⟨w', hrun, r1, r2⟩ := h.store K ht hn hc val hkey
 unfold Oper.wp
 simp [execOp, hop, hm, hx, hv, hrun, Result.andThen]
 exact hK' _ _ (hK w' r1 r2)
theorem wpList_look_F (hg : o.guard = none) (m x : Operand) (t : TypeId) (hop : o.op = Op.lookup t m x false) (e : TypeId) (K : Maps.Keyed Tryz.prog k) (ht : Tryz.prog.underlying t = some (.map k e)) (z : Value) (hz : (zeroValue e).run Tryz.prog w = .ok z w)
 (b n : Nat) (f : α → Option Value) (hm : a.eval m = .map (some b)) (h : MapF c w k b n f) (key : Value) (kl : α) (hx : a.eval x = key) (hkey : keyOf Tryz.prog k key = some (c kl))
 (hK : wpList Tryz.prog ops Q rest (a.put o.dst ((f kl).getD z)) w) :
 wpList Tryz.prog ops Q (o :: rest) a w := by
 refine wpList_plain hg fun K' hK' => ?_
 have hrun := h.lookup K ht hz hkey
 unfold Oper.wp
 simp [execOp, hop, hm, hx, hrun, Result.andThen]
 exact hK' _ _ hK
end
def keyS (x : List UInt8) : Lit := .string x
theorem keyS_inj (x y : List UInt8) (h : keyS x = keyS y) : x = y := by unfold keyS at h; exact Lit.string.inj h
theorem MapF.block {α : Type} {c : α → Lit} {w : World} {k : TypeId} {b n : Nat} {f : α → Option Value} (h : MapF c w k b n f) : ∃ es cl, w.heap[b]? = some (.map es cl) := by
 obtain ⟨D, ⟨es, cl, hb, _⟩, _⟩ := h
 exact ⟨es, cl, hb⟩
theorem key_by {x : List UInt8} (hx : x.length ≤ 100000) : keyOf Tryz.prog 9 (.string (bs x)) = some (keyS x) := by
 have := key_str (bs x) (by rw [bs_size]; unfold maxLen; omega)
 rw [bs_data] at this
 exact this
theorem wpList_delete_F {α : Type} {c : α → Lit} {w : World} {k : TypeId} {ops : Array Oper} {rest : List Oper} {o : Oper} {a : Act} {Q : Exit → Act → World → Prop} [DecidableEq α] (hg : o.guard = none) (m x : Operand) (t : TypeId) (hop : o.op = Op.call { callee := Callee.builtin Builtin.delete, args := #[m, x], argTypes := #[t, k] }) (e : TypeId) (K : Maps.Keyed Tryz.prog k) (ht : Tryz.prog.underlying t = some (.map k e))
 (b n : Nat) (f : α → Option Value) (hm : a.eval m = .map (some b)) (h : MapF c w k b n f) (hc : ∀ x y, c x = c y → x = y) (key : Value) (kl : α) (hx : a.eval x = key) (hkey : keyOf Tryz.prog k key = some (c kl))
 (hK : ∀ w', MapF c w' k b n (fun z => if z = kl then none else f z) → Keep (· ≠ b) w w' → wpList Tryz.prog ops Q rest (a.put o.dst (.tuple #[])) w') :
 wpList Tryz.prog ops Q (o :: rest) a w := by
 refine wpList_plain hg fun K' hK' => ?_
 obtain ⟨w', hrun, r1, r2⟩ := h.drop K ht hc hkey o.type
 unfold Oper.wp
 simp [execOp, hop, resolve, invoke, builtin, hm, hx, hrun, Result.andThen]
 exact hK' _ _ (hK w' r1 r2)
end Go.Proofs.YtefpllpichhojaaGreatDoor
namespace Go.Proofs.YtefpllpichhojaaGreatDoor
variable {α : Type}
def rAll (one : RSt → α × RSt) : Nat → RSt → List α × RSt
 | 0, s => ([], s)
 | f + 1, s => if s.1.length = 0 then ([], s) else ((one s).1 :: (rAll one f (one s).2).1, (rAll one f (one s).2).2)
def rEach (one : RSt → α × RSt) (s : RSt) : List α × RSt := rAll one s.1.length s
def u32 (n : Int) : Nat := (n % 4294967296).toNat
theorem u32_lt (n : Int) : u32 n < 4294967296 := by unfold u32; omega
theorem u32_of {n : Nat} (h : n < 4294967296) : u32 (n : Int) = n := by unfold u32; omega
def numI (n : Int) : List UInt8 := num4 (u32 n)
theorem numI_len (n : Int) : (numI n).length = 4 := rfl
theorem raw4_len (l : List UInt8) : (raw4 l).length = 4 + l.length := by simp [raw4, num4_len]
end Go.Proofs.YtefpllpichhojaaGreatDoor
namespace Go.Proofs.YtefpllpichhojaaGreatDoor
open Go.RowKit
def signB (c : Int) : Bool := decide ((97 ≤ c ∧ c ≤ 122) ∨ (48 ≤ c ∧ c ≤ 57) ∨ c = 45 ∨ c = 46 ∨ c = 95)
theorem signB_t {c : Int} (h : (97 ≤ c ∧ c ≤ 122) ∨ (48 ≤ c ∧ c ≤ 57) ∨ c = 45 ∨ c = 46 ∨ c = 95) : signB c = true := decide_eq_true h
theorem signB_f {c : Int} (h : ¬((97 ≤ c ∧ c ≤ 122) ∨ (48 ≤ c ∧ c ≤ 57) ∨ c = 45 ∨ c = 46 ∨ c = 95)) : signB c = false := decide_eq_false h
theorem sign_any (c : Int) (w : World) :
 Calls Tryz.prog 212 #[.int .i32 c] w fun e w' => e = .returned (.bool (signB c)) ∧ w = w' := by
 go_enter Tryz.func212, Tryz.ntmps212
 go_wp2
 all_goals go_ret
 all_goals refine ⟨ret_bool ?_, rfl⟩
 all_goals first
  | exact (signB_t (by omega)).symm
  | (show (c == 95) = signB c; by_cases h : c = 95
     · rw [signB_t (by omega)]; simpa using h
     · rw [signB_f (by omega)]; simpa using h)
end Go.Proofs.YtefpllpichhojaaGreatDoor
namespace Go.Proofs.YtefpllpichhojaaGreatDoor
open Go.RowKit
def signs (l : List UInt8) : Bool := l.all fun b => signB (b.toNat : Int)
def nameL (l : List UInt8) : Bool := decide (1 ≤ l.length ∧ l.length ≤ 12 ∧ l ≠ [46] ∧ l ≠ [46, 46]) && signs l
theorem width_pos (s : ByteArray) (pos : Nat) (h : pos < s.size) : 1 ≤ (Utf8.decode s pos).2 := by
 by_cases ha : (s[pos]'h).toNat < 128
 · rw [decode_ascii s pos h ha]
   exact Nat.le_refl _
 · exact (decode_high s pos h (by omega)).2
theorem signB_lt {c : Int} (h : signB c = true) : c < 128 := by
 have := of_decide_eq_true h; omega
def okTo (s : ByteArray) (pos : Nat) : Prop := pos ≤ s.size ∧ signs (s.data.toList.take pos) = true
theorem okTo_zero (s : ByteArray) : okTo s 0 := ⟨Nat.zero_le _, by simp [signs]⟩
theorem signs_append (a b : List UInt8) : signs (a ++ b) = (signs a && signs b) := by simp [signs]
theorem signs_cons (a : UInt8) (b : List UInt8) : signs (a :: b) = (signB (a.toNat : Int) && signs b) := by simp [signs]
theorem split_at (s : ByteArray) (pos : Nat) (h : pos < s.size) : s.data.toList = s.data.toList.take pos ++ s[pos] :: s.data.toList.drop (pos + 1) := by
 have h' : pos < s.data.toList.length := by simpa using h
 conv => lhs; rw [← List.take_append_drop pos s.data.toList]
 rw [List.drop_eq_getElem_cons h']; rfl
theorem take_snoc (s : ByteArray) (k : Nat) (h : k < s.size) : s.data.toList.take (k + 1) = s.data.toList.take k ++ [s[k]] := by
 rw [List.take_succ_eq_append_getElem (by simpa using h)]; rfl
theorem decode_sign (s : ByteArray) (pos : Nat) (h : pos < s.size) (hs : signB ((Utf8.decode s pos).1 : Int) = true) : Utf8.decode s pos = ((s[pos]'h).toNat, 1) := by
 by_cases ha : (s[pos]'h).toNat < 128
 · exact decode_ascii s pos h ha
 · have := (decode_high s pos h (by omega)).1
   have := signB_lt hs
   omega
theorem okTo_step (s : ByteArray) (pos : Nat) (h : pos < s.size) (ho : okTo s pos) (hs : signB ((Utf8.decode s pos).1 : Int) = true) : okTo s (pos + (Utf8.decode s pos).2) := by
 have e := decode_sign s pos h hs
 rw [e] at hs ⊢
 refine ⟨by simp; omega, ?_⟩
 show signs (List.take (pos + 1) _) = true
 rw [take_snoc s pos h, signs_append, ho.2, signs_cons, hs]; simp [signs]
theorem nameL_bad (s : ByteArray) (pos : Nat) (h : pos < s.size) (hs : signB ((Utf8.decode s pos).1 : Int) = false) : nameL s.data.toList = false := by
 have : signs s.data.toList = false := by
  rw [split_at s pos h, signs_append, signs_cons]
  have : signB ((s[pos]'h).toNat : Int) = false := by
   by_cases ha : (s[pos]'h).toNat < 128
   · rw [decode_ascii s pos h ha] at hs; exact hs
   · exact signB_f (by omega)
  rw [this]; simp
 simp [nameL, this]
theorem nameL_good (s : ByteArray) (pos : Nat) (h : ¬ pos < s.size) (ho : okTo s pos) (h1 : 1 ≤ s.size) (h2 : s.size ≤ 12) (h3 : s.toList ≠ [46]) (h4 : s.toList ≠ [46, 46]) : nameL s.data.toList = true := by
 have : s.data.toList.take pos = s.data.toList := List.take_of_length_le (by simp; omega)
 have h5 := ho.2
 rw [this] at h5
 rw [ByteArray.toList_eq] at h3 h4
 simp [nameL, h5, h3, h4, h1, h2]
theorem nameL_empty (s : ByteArray) (h : s.toList.isEmpty = true) : nameL s.data.toList = false := by
 rw [ByteArray.toList_eq] at h; simp at h; simp [nameL, h]
theorem nameL_long (s : ByteArray) (h : 12 < s.size) : nameL s.data.toList = false := by
 have : ¬ s.size ≤ 12 := by omega
 simp [nameL, this]
theorem nameL_dot (s : ByteArray) (h : s.toList = [46]) : nameL s.data.toList = false := by
 rw [ByteArray.toList_eq] at h; simp [nameL, h]
theorem nameL_dots (s : ByteArray) (h : (s.toList == [46, 46]) = true) : nameL s.data.toList = false := by
 have h := beq_iff_eq.1 h
 rw [ByteArray.toList_eq] at h; simp [nameL, h]
theorem size_pos_of (s : ByteArray) (h : s.toList.isEmpty = false) : 1 ≤ s.size := by
 rw [ByteArray.toList_eq] at h; 
 rcases Nat.eq_zero_or_pos s.size with h0 | h0
 · have : s.data.toList = [] := by apply List.eq_nil_of_length_eq_zero; simpa using h0
   rw [this] at h; simp at h
 · exact h0
theorem name_any (s : ByteArray) (w : World) :
 Calls Tryz.prog 185 #[.string s] w fun e w' => e = .returned (.bool (nameL s.data.toList)) ∧ Below w.heap.size w w' := by
 go_enter Tryz.func185, Tryz.ntmps185
 go_wp2_with fail
 · go_ret; exact ⟨ret_bool (nameL_empty s ‹_›).symm, Below.refl _ _⟩
 · go_ret; exact ⟨ret_bool (nameL_long s (by omega)).symm, Below.refl _ _⟩
 · go_ret; exact ⟨ret_bool (nameL_dot s ‹_›).symm, Below.refl _ _⟩
 · go_ret; exact ⟨ret_bool (nameL_dots s ‹_›).symm, Below.refl _ _⟩
 · have h1 := size_pos_of s ‹_›
   go_loopw [] (fun w' => ∃ (pos : Nat), w' = w.iter s pos ∧ okTo s pos) (fun w' => s.size - w'.iterPos w.heap.size)
   case atStart => exact ⟨0, rfl, okTo_zero s⟩
   case round =>
    obtain ⟨pos, rfl, ho⟩ := hrel
    by_cases hp : pos < s.size
    · have hnx : ∀ ty, (Instr.next (.pointer (some ⟨w.heap.size, 0, none⟩)) true ty).run Tryz.prog (w.iter s pos) = _ := fun ty => run_next_any w s pos ty hp
      have hwd := width_pos s pos hp
      cases hs : signB ((Utf8.decode s pos).1 : Int)
      · go_wp2_with (go_at_call 212; refine (sign_any _ _).mono ?_; rintro e w' ⟨rfl, rfl⟩)
        go_ret
        exact ⟨ret_bool (nameL_bad s pos hp hs).symm, (Below.refl _ _).alloc (Nat.le_refl _) _⟩
      · go_wp2_with (go_at_call 212; refine (sign_any _ _).mono ?_; rintro e w' ⟨rfl, rfl⟩)
        go_roundw
        case rel => exact ⟨_, rfl, okTo_step s pos hp ho hs⟩
        case measure => simp; omega
    · have hnx : ∀ ty, (Instr.next (.pointer (some ⟨w.heap.size, 0, none⟩)) true ty).run Tryz.prog (w.iter s pos) = _ := fun ty => run_next_end w s pos ty hp
      go_wp2
      go_ret
      exact ⟨ret_bool (nameL_good s pos hp ho h1 (by omega) ‹_› (by simpa using ‹(s.toList == [46, 46]) = false›)).symm, (Below.refl _ _).alloc (Nat.le_refl _) _⟩
end Go.Proofs.YtefpllpichhojaaGreatDoor
namespace Go.Proofs.YtefpllpichhojaaGreatDoor
def pathL (l : List UInt8) : Option (List (List UInt8)) :=
 if l = [47] then some []
 else if 40 < l.length ∨ l.head? ≠ some 47 then none
 else if 5 < (splitOn 47 l.tail).length then none
 else if (splitOn 47 l.tail).all nameL then some (splitOn 47 l.tail) else none
theorem pathL_root : pathL [47] = some [] := by simp [pathL]
theorem pathL_long {l : List UInt8} (h : 40 < l.length) : pathL l = none := by
 have h1 : l ≠ [47] := fun e => by rw [e] at h; simp at h
 simp [pathL, h1, h]
theorem pathL_head {l : List UInt8} (h1 : l ≠ [47]) (h : l.head? ≠ some 47) : pathL l = none := by
 simp [pathL, h1, h]
theorem pathL_many {l : List UInt8} (h1 : l ≠ [47]) (h : 5 < (splitOn 47 l.tail).length) : pathL l = none := by
 simp only [pathL, if_neg h1, if_pos h]; split <;> rfl
theorem pathL_bad {l : List UInt8} (h1 : l ≠ [47]) (h : (splitOn 47 l.tail).all nameL = false) : pathL l = none := by
 simp only [pathL, if_neg h1, h]; split
 · rfl
 · split <;> rfl
theorem pathL_good {l : List UInt8} (h1 : l ≠ [47]) (h2 : l.length ≤ 40) (h3 : l.head? = some 47) (h4 : (splitOn 47 l.tail).length ≤ 5) (h5 : (splitOn 47 l.tail).all nameL = true) :
 pathL l = some (splitOn 47 l.tail) := by
 unfold pathL; rw [if_neg h1, if_neg (by simp [h3]; omega), if_neg (by omega), if_pos h5]
theorem all_getD {L : List (List UInt8)} {k : Nat} (hk : k < L.length) (h : nameL (L.getD k []) = false) : L.all nameL = false := by
 rw [List.all_eq_false]
 exact ⟨L.getD k [], by simp [hk], by rw [h]; simp⟩
theorem all_take_step {L : List (List UInt8)} {k : Nat} (hk : k < L.length) (h0 : (L.take k).all nameL = true) (h : nameL (L.getD k []) = true) : (L.take (k + 1)).all nameL = true := by
 rw [List.take_succ_eq_append_getElem hk, List.all_append, h0]
 simp at h ⊢
 simpa [hk] using h
theorem signs_no47 {l : List UInt8} (h : signs l = true) : (47 : UInt8) ∉ l := by
 intro hm
 have := (List.all_eq_true.1 h) 47 hm
 exact absurd this (by decide)
theorem nameL_no47 {l : List UInt8} (h : nameL l = true) : (47 : UInt8) ∉ l := by
 unfold nameL at h; simp only [Bool.and_eq_true] at h; exact signs_no47 h.2
theorem pathL_facts {l : List UInt8} {L : List (List UInt8)} (h : pathL l = some L) :
 L.length ≤ 5 ∧ L.all nameL = true ∧ l.length ≤ 40 ∧ (l = [47] ∧ L = [] ∨ l ≠ [47] ∧ L ≠ [] ∧ glue 47 L = l ∧ L = splitOn 47 l.tail) := by
 unfold pathL at h
 split at h
 · rename_i h1; cases h; subst h1; exact ⟨by simp, by simp, by simp, Or.inl ⟨rfl, rfl⟩⟩
 · rename_i h1
   split at h
   · cases h
   · rename_i h2
     split at h
     · cases h
     · rename_i h3
       split at h
       · rename_i h4
         have h := Option.some.inj h
         subst h
         have h2' := not_or.1 h2
         refine ⟨by omega, h4, by omega, Or.inr ⟨h1, splitOn_ne _ _, ?_, rfl⟩⟩
         rw [glue_splitOn]
         have h5 : l.head? = some 47 := by simpa using h2'.2
         cases l with
         | nil => cases h5
         | cons x r => simp at h5; subst h5; rfl
       · cases h
theorem glue_take_len (c : UInt8) (L : List (List UInt8)) (k : Nat) : (glue c (L.take k)).length ≤ (glue c L).length := by
 conv => rhs; rw [← List.take_append_drop k L]
 rw [glue_append, List.length_append]; omega
def joinP (L : List (List UInt8)) : List UInt8 := if L = [] then [47] else glue 47 L
theorem joinP_cons (p : List UInt8) (L) : joinP (p :: L) = glue 47 (p :: L) := by simp [joinP]
theorem joinP_len (L : List (List UInt8)) : (joinP L).length ≤ (glue 47 L).length + 1 := by
 unfold joinP; split
 · simp
 · omega
theorem joinP_pathL {l : List UInt8} {L : List (List UInt8)} (h : pathL l = some L) : joinP L = l := by
 rcases (pathL_facts h).2.2.2 with ⟨h1, h2⟩ | ⟨_, h2, h3, _⟩
 · rw [h1, h2]; rfl
 · unfold joinP; rw [if_neg h2]; exact h3
end Go.Proofs.YtefpllpichhojaaGreatDoor
namespace Go.Proofs
open Go.Shelf
def Tryz.lays156_ren : Go.Shelf.Ren := ⟨fun | 156 => 227 | 165 => 234 | 166 => 235 | 169 => 236 | 240 => 242 | 241 => 243 | 276 => 246 | 277 => 247 | n => n, fun | 31 => 29 | 9 => 9 | 3 => 3 | 4 => 4 | 0 => 0 | 20 => 20 | 72 => 311 | 76 => 315 | 70 => 309 | 37 => 50 | 75 => 314 | 127 => 317 | 164 => 324 | 5 => 5 | 80 => 168 | n => n, fun | n => n⟩
theorem Tryz.lays156 : Go.Proofs.Lays.n156 Tryz.prog Tryz.lays156_ren := {
 mixed := by kernel_rfl
 f156 := Tryz.func227.trans (congrArg some (by kernel_rfl))
 f165 := Tryz.func234.trans (congrArg some (by kernel_rfl))
 f166 := Tryz.func235.trans (congrArg some (by kernel_rfl))
 f169 := Tryz.func236.trans (congrArg some (by kernel_rfl))
 f240 := Tryz.func242.trans (congrArg some (by kernel_rfl))
 f241 := Tryz.func243.trans (congrArg some (by kernel_rfl))
 f276 := Tryz.func246.trans (congrArg some (by kernel_rfl))
 f277 := Tryz.func247.trans (congrArg some (by kernel_rfl))
 t0 := Tryz.underlying0
 a0 := Tryz.isAgg0
 z0 := Tryz.sizeOf0
 v0 := Tryz.zeroValue0
 t3 := Tryz.underlying3
 a3 := Tryz.isAgg3
 z3 := Tryz.sizeOf3
 v3 := Tryz.zeroValue3
 t4 := Tryz.underlying4
 a4 := Tryz.isAgg4
 z4 := Tryz.sizeOf4
 v4 := Tryz.zeroValue4
 t9 := Tryz.underlying9
 a9 := Tryz.isAgg9
 z9 := Tryz.sizeOf9
 v9 := Tryz.zeroValue9
 t20 := Tryz.underlying20
 a20 := Tryz.isAgg20
 z20 := Tryz.sizeOf20
 v20 := Tryz.zeroValue20
 t31 := Tryz.underlying29
 a31 := Tryz.isAgg29
 z31 := Tryz.sizeOf29
 v31 := Tryz.zeroValue29
 t37 := Tryz.underlying50
 a37 := Tryz.isAgg50
 z37 := Tryz.sizeOf50
 v37 := Tryz.zeroValue50
 t70 := Tryz.underlying309
 a70 := Tryz.isAgg309
 z70 := Tryz.sizeOf309
 v70 := Tryz.zeroValue309
 t72 := Tryz.underlying311
 a72 := Tryz.isAgg311
 z72 := Tryz.sizeOf311
 v72 := Tryz.zeroValue311
 t75 := Tryz.underlying314
 a75 := Tryz.isAgg314
 z75 := Tryz.sizeOf314
 v75 := Tryz.zeroValue314
 t76 := Tryz.underlying315
 a76 := Tryz.isAgg315
 z76 := Tryz.sizeOf315
 v76 := Tryz.zeroValue315
 t127 := Tryz.underlying317
 a127 := Tryz.isAgg317
 z127 := Tryz.sizeOf317
 v127 := Tryz.zeroValue317
 t164 := Tryz.underlying324
 a164 := Tryz.isAgg324
 z164 := Tryz.sizeOf324
 v164 := Tryz.zeroValue324 }
theorem Tryz.Builder_Extra_156 : Builder.Extra Tryz.prog Tryz.lays156_ren := {
 sizeBuilder := by kernel_rfl
 liesBuilder := by kernel_rfl
 t5 := Tryz.underlying5
 a5 := Tryz.isAgg5
 z5 := Tryz.sizeOf5
 v5 := Tryz.zeroValue5
 infoByte := by kernel_rfl
 cellsByte := by kernel_rfl
 sizeByte := by kernel_rfl
 neB5 := by decide }
open Go.RowKit in
theorem Tryz.strings_Join_none (a : Option Addr) (c : Nat) (sep : ByteArray) (w : World) :
 Calls Tryz.prog 227 #[.slice a 0 c, .string sep] w fun e w' => e = .returned (.string ⟨#[]⟩) ∧ w' = w := Any.strings_Join_none Tryz.lays156 Tryz.Builder_Extra_156 a c sep w
open Go.RowKit in
theorem Tryz.strings_Join (bk o c : Nat) (xs : List ByteArray) (sep : ByteArray) (w : World) (hcells : ∀ (j : Nat) x, xs[j]? = some x → w.cell? ⟨bk, o + j, none⟩ = some (.string x)) (hbk : bk < w.heap.size) (hN : xs.length ≤ 140737488355328) (hcap : xs.length ≤ c) (hlen : (Lib.join (xs.map (·.data.toList)) sep.data.toList).length ≤ 140737488355328) :
 Calls Tryz.prog 227 #[.slice (some ⟨bk, o, none⟩) xs.length c, .string sep] w fun e w' => e = .returned (.string ⟨(Lib.join (xs.map (·.data.toList)) sep.data.toList).toArray⟩) ∧ Below w.heap.size w w' := Any.strings_Join Tryz.lays156 Tryz.Builder_Extra_156 bk o c xs sep w hcells hbk hN hcap hlen
def Tryz.lays99_ren : Go.Shelf.Ren := ⟨fun | 99 => 183 | 206 => 210 | n => n, fun | 9 => 9 | 4 => 4 | 3 => 3 | n => n, fun | n => n⟩
theorem Tryz.lays99 : Go.Proofs.Lays.n99 Tryz.prog Tryz.lays99_ren := {
 mixed := by kernel_rfl
 f99 := Tryz.func183.trans (congrArg some (by kernel_rfl))
 f206 := Tryz.func210.trans (congrArg some (by kernel_rfl))
 t3 := Tryz.underlying3
 a3 := Tryz.isAgg3
 z3 := Tryz.sizeOf3
 v3 := Tryz.zeroValue3
 t4 := Tryz.underlying4
 a4 := Tryz.isAgg4
 z4 := Tryz.sizeOf4
 v4 := Tryz.zeroValue4
 t9 := Tryz.underlying9
 a9 := Tryz.isAgg9
 z9 := Tryz.sizeOf9
 v9 := Tryz.zeroValue9 }
open Go.RowKit Go.Lib in
theorem Tryz.strings_HasPrefix (s p : ByteArray) (w : World) :
 Calls Tryz.prog 183 #[.string s, .string p] w fun e w' => e = .returned (.bool (Lib.hasPrefix s.data.toList p.data.toList)) ∧ w' = w := Any.strings_HasPrefix Tryz.lays99 s p w
def Tryz.laysM146_ren : Go.Shelf.Ren := ⟨fun | 146 => 184 | 221 => 211 | 268 => 224 | 138 => 225 | 143 => 226 | 195 => 230 | 197 => 231 | 218 => 232 | 219 => 233 | 260 => 237 | 217 => 238 | 225 => 239 | 224 => 240 | 267 => 241 | 266 => 244 | 314 => 245 | n => n, fun | 9 => 9 | 31 => 29 | 3 => 3 | 4 => 4 | 0 => 0 | 105 => 306 | 21 => 21 | 5 => 5 | 46 => 117 | 119 => 318 | 139 => 321 | 138 => 320 | 146 => 322 | 51 => 253 | n => n, fun | 1 => 0 | 3 => 1 | 4 => 2 | n => n⟩
theorem Tryz.laysM146 : Go.Proofs.LaysM.n146 Tryz.prog Tryz.laysM146_ren := {
 mixed := by kernel_rfl
 f138 := Tryz.func225.trans (congrArg some (by kernel_rfl))
 f143 := Tryz.func226.trans (congrArg some (by kernel_rfl))
 f146 := Tryz.func184.trans (congrArg some (by kernel_rfl))
 f195 := Tryz.func230.trans (congrArg some (by kernel_rfl))
 f197 := Tryz.func231.trans (congrArg some (by kernel_rfl))
 f217 := Tryz.func238.trans (congrArg some (by kernel_rfl))
 f218 := Tryz.func232.trans (congrArg some (by kernel_rfl))
 f219 := Tryz.func233.trans (congrArg some (by kernel_rfl))
 f221 := Tryz.func211.trans (congrArg some (by kernel_rfl))
 f224 := Tryz.func240.trans (congrArg some (by kernel_rfl))
 f225 := Tryz.func239.trans (congrArg some (by kernel_rfl))
 f260 := Tryz.func237.trans (congrArg some (by kernel_rfl))
 f266 := Tryz.func244.trans (congrArg some (by kernel_rfl))
 f267 := Tryz.func241.trans (congrArg some (by kernel_rfl))
 f268 := Tryz.func224.trans (congrArg some (by kernel_rfl))
 f314 := Tryz.func245.trans (congrArg some (by kernel_rfl))
 t0 := Tryz.underlying0
 a0 := Tryz.isAgg0
 z0 := Tryz.sizeOf0
 v0 := Tryz.zeroValue0
 t3 := Tryz.underlying3
 a3 := Tryz.isAgg3
 z3 := Tryz.sizeOf3
 v3 := Tryz.zeroValue3
 t4 := Tryz.underlying4
 a4 := Tryz.isAgg4
 z4 := Tryz.sizeOf4
 v4 := Tryz.zeroValue4
 t5 := Tryz.underlying5
 a5 := Tryz.isAgg5
 z5 := Tryz.sizeOf5
 v5 := Tryz.zeroValue5
 t9 := Tryz.underlying9
 a9 := Tryz.isAgg9
 z9 := Tryz.sizeOf9
 v9 := Tryz.zeroValue9
 t21 := Tryz.underlying21
 a21 := Tryz.isAgg21
 z21 := Tryz.sizeOf21
 v21 := Tryz.zeroValue21
 t31 := Tryz.underlying29
 a31 := Tryz.isAgg29
 z31 := Tryz.sizeOf29
 v31 := Tryz.zeroValue29
 t46 := Tryz.underlying117
 a46 := Tryz.isAgg117
 z46 := Tryz.sizeOf117
 v46 := Tryz.zeroValue117
 t51 := Tryz.underlying253
 a51 := Tryz.isAgg253
 z51 := Tryz.sizeOf253
 v51 := Tryz.zeroValue253
 t105 := Tryz.underlying306
 a105 := Tryz.isAgg306
 z105 := Tryz.sizeOf306
 v105 := Tryz.zeroValue306
 t119 := Tryz.underlying318
 a119 := Tryz.isAgg318
 z119 := Tryz.sizeOf318
 t138 := Tryz.underlying320
 a138 := Tryz.isAgg320
 z138 := Tryz.sizeOf320
 v138 := Tryz.zeroValue320
 t139 := Tryz.underlying321
 a139 := Tryz.isAgg321
 z139 := Tryz.sizeOf321
 v139 := Tryz.zeroValue321
 t146 := Tryz.underlying322
 a146 := Tryz.isAgg322
 z146 := Tryz.sizeOf322
 v146 := Tryz.zeroValue322
 g1 := by kernel_rfl
 g3 := by kernel_rfl
 g4 := by kernel_rfl
 i0 := by kernel_rfl
 i3 := by kernel_rfl
 i4 := by kernel_rfl
 i5 := by kernel_rfl
 i9 := by kernel_rfl
 i21 := by kernel_rfl
 i31 := by kernel_rfl
 i46 := by kernel_rfl
 i51 := by kernel_rfl
 i105 := by kernel_rfl
 i138 := by kernel_rfl
 i139 := by kernel_rfl
 i146 := by kernel_rfl
 m1 := by kernel_rfl
 s1_3 := fun w h => Go.Proofs.cell_of_shapedOpen_int (zero := #[.int .i64 0]) (t := 3) h (of_decide_eq_true (by kernel_rfl)) (by kernel_rfl) rfl (by kernel_rfl) (by kernel_rfl) Tryz.underlying3
 m3 := by kernel_rfl
 m4 := by kernel_rfl }
open Go.RowKit Go.Lib in
open Go.Lib in
open Go.Lib in
def Tryz.lays107_ren : Go.Shelf.Ren := ⟨fun | 107 => 103 | 108 => 73 | n => n, fun | 28 => 34 | 3 => 3 | 4 => 4 | 0 => 0 | n => n, fun | n => n⟩
theorem Tryz.lays107 : Go.Proofs.Lays.n107 Tryz.prog Tryz.lays107_ren := {
 mixed := by kernel_rfl
 f107 := Tryz.func103.trans (congrArg some (by kernel_rfl))
 f108 := Tryz.func73.trans (congrArg some (by kernel_rfl))
 t0 := Tryz.underlying0
 a0 := Tryz.isAgg0
 z0 := Tryz.sizeOf0
 v0 := Tryz.zeroValue0
 t3 := Tryz.underlying3
 a3 := Tryz.isAgg3
 z3 := Tryz.sizeOf3
 v3 := Tryz.zeroValue3
 t4 := Tryz.underlying4
 a4 := Tryz.isAgg4
 z4 := Tryz.sizeOf4
 v4 := Tryz.zeroValue4
 t28 := Tryz.underlying34
 a28 := Tryz.isAgg34
 z28 := Tryz.sizeOf34
 v28 := Tryz.zeroValue34 }
open Go.Lib in
theorem Tryz.slices_Contains_int (b off n c : Nat) (zs : List Int) (x : Int) (w : World) (hz : n ≤ zs.length) (hbig : n ≤ 9223372036854775807) (hc : ∀ j, j < zs.length → w.cell? ⟨b, off + j, none⟩ = some (.int .i64 (zs.getD j 0))) :
 Calls Tryz.prog 103 #[.slice (some ⟨b, off, none⟩) n c, .int .i64 x] w fun e w' => e = .returned (.bool ((zs.take n).contains x)) ∧ w' = w := Any.slices_Contains_int Tryz.lays107 b off n c zs x w hz hbig hc
open Go.Lib in
theorem Tryz.slices_Contains_int_empty (a : Option Addr) (c : Nat) (x : Int) (w : World) :
 Calls Tryz.prog 103 #[.slice a 0 c, .int .i64 x] w fun e w' => e = .returned (.bool false) ∧ w' = w := Any.slices_Contains_int_empty Tryz.lays107 a c x w
def Tryz.lays110_ren : Go.Shelf.Ren := ⟨fun | 110 => 139 | 109 => 175 | n => n, fun | 31 => 29 | 9 => 9 | 4 => 4 | 3 => 3 | 0 => 0 | n => n, fun | n => n⟩
theorem Tryz.lays110 : Go.Proofs.Lays.n110 Tryz.prog Tryz.lays110_ren := {
 mixed := by kernel_rfl
 f109 := Tryz.func175.trans (congrArg some (by kernel_rfl))
 f110 := Tryz.func139.trans (congrArg some (by kernel_rfl))
 t0 := Tryz.underlying0
 a0 := Tryz.isAgg0
 z0 := Tryz.sizeOf0
 v0 := Tryz.zeroValue0
 t3 := Tryz.underlying3
 a3 := Tryz.isAgg3
 z3 := Tryz.sizeOf3
 v3 := Tryz.zeroValue3
 t4 := Tryz.underlying4
 a4 := Tryz.isAgg4
 z4 := Tryz.sizeOf4
 v4 := Tryz.zeroValue4
 t9 := Tryz.underlying9
 a9 := Tryz.isAgg9
 z9 := Tryz.sizeOf9
 v9 := Tryz.zeroValue9
 t31 := Tryz.underlying29
 a31 := Tryz.isAgg29
 z31 := Tryz.sizeOf29
 v31 := Tryz.zeroValue29 }
open Go.Lib in
theorem Tryz.slices_Contains_string (b off n c : Nat) (zs : List ByteArray) (x : ByteArray) (w : World) (hz : n ≤ zs.length) (hbig : n ≤ 9223372036854775807) (hc : ∀ j, j < zs.length → w.cell? ⟨b, off + j, none⟩ = some (.string (zs.getD j ByteArray.empty))) :
 Calls Tryz.prog 139 #[.slice (some ⟨b, off, none⟩) n c, .string x] w fun e w' => e = .returned (.bool (Lib.containsS (zs.take n) x)) ∧ w' = w := Any.slices_Contains_string Tryz.lays110 b off n c zs x w hz hbig hc
open Go.Lib in
theorem Tryz.slices_Contains_string_empty (a : Option Addr) (c : Nat) (x : ByteArray) (w : World) :
 Calls Tryz.prog 139 #[.slice a 0 c, .string x] w fun e w' => e = .returned (.bool false) ∧ w' = w := Any.slices_Contains_string_empty Tryz.lays110 a c x w
open Go.RowKit Go.Lib Go.Sort in
def Tryz.laysNm224_ren : Go.Shelf.Ren := ⟨fun | 24 => 140 | n => n, fun | 24 => 29 | 9 => 9 | 3 => 3 | 4 => 4 | 0 => 0 | n => n, fun | n => n⟩
theorem Tryz.laysNm224 : Go.Proofs.Lays2.n24 Tryz.prog Tryz.laysNm224_ren := {
 mixed := by kernel_rfl
 f24 := Tryz.func140.trans (congrArg some (by kernel_rfl))
 t0 := Tryz.underlying0
 a0 := Tryz.isAgg0
 z0 := Tryz.sizeOf0
 v0 := Tryz.zeroValue0
 t3 := Tryz.underlying3
 a3 := Tryz.isAgg3
 z3 := Tryz.sizeOf3
 v3 := Tryz.zeroValue3
 t4 := Tryz.underlying4
 a4 := Tryz.isAgg4
 z4 := Tryz.sizeOf4
 v4 := Tryz.zeroValue4
 t9 := Tryz.underlying9
 a9 := Tryz.isAgg9
 z9 := Tryz.sizeOf9
 v9 := Tryz.zeroValue9
 t24 := Tryz.underlying29
 a24 := Tryz.isAgg29
 z24 := Tryz.sizeOf29
 v24 := Tryz.zeroValue29
 i9 := by kernel_rfl }
open Go.RowKit Go.Lib Go.Sort in
open Go.RowKit Go.Lib Go.Sort in
open Go.RowKit Go.Lib Go.Sort in
theorem Tryz.slices_Delete_string_cells (b off n c i j : Nat) (Sx : Nat → ByteArray) (w : World) (hcap : n ≤ c) (hm : c ≤ 9223372036854775807) (hij : i ≤ j) (hj : j ≤ n) (hc : ∀ i, i < n → w.cell? ⟨b, off + i, none⟩ = some (.string (Sx i))) (hf : ∀ j, j < n → w.frozen? ⟨b, off + j, none⟩ = false) :
 Calls Tryz.prog 140 #[.slice (some ⟨b, off, none⟩) n c, .int .i64 i, .int .i64 j] w fun e w' => e = .returned (.slice (some ⟨b, off, none⟩) (n - (j - i)) c) ∧ ∃ q, w' = (w.drewN q).setCells b off (((Lib.strsOf Sx n).take i ++ (Lib.strsOf Sx n).drop j ++ List.replicate (j - i) []).map encStr) := Any.slices_Delete_string_cells Tryz.laysNm224 b off n c i j Sx w hcap hm hij hj hc hf
open Go.Sort Go.RowKit in
open Go.RowKit Go.Sort in
def Tryz.mclone_string_int_ren : Go.Shelf.Ren := ⟨fun | 5 => 116 | 7 => 164 | n => n, fun | 23 => 65 | 25 => 9 | 3 => 3 | 4 => 4 | 20 => 20 | n => n, fun | n => n⟩
theorem Tryz.mclone_string_int : Go.Proofs.SlLaysW.n5 Tryz.prog Tryz.mclone_string_int_ren := {
 mixed := by kernel_rfl
 f5 := ⟨Tryz.f116.name, by decide, Tryz.func116.trans (congrArg some (by kernel_rfl))⟩
 f7 := Tryz.func164.trans (congrArg some (by kernel_rfl))
 t4 := Tryz.underlying4
 a4 := Tryz.isAgg4
 z4 := Tryz.sizeOf4
 v4 := Tryz.zeroValue4
 t20 := Tryz.underlying20
 a20 := Tryz.isAgg20
 z20 := Tryz.sizeOf20
 v20 := Tryz.zeroValue20
 t23 := Tryz.underlying65
 a23 := Tryz.isAgg65
 z23 := Tryz.sizeOf65
 v23 := Tryz.zeroValue65 }
def Tryz.keys_mgr_state_ren : Go.Shelf.Ren := ⟨fun | 7 => 102 | 10 => 147 | n => n, fun | 23 => 103 | 26 => 9 | 3 => 153 | 28 => 181 | 0 => 0 | 27 => 180 | 33 => 138 | 4 => 4 | n => n, fun | n => n⟩
theorem Tryz.keys_mgr_state : Go.Proofs.SlLaysZ.n7 Tryz.prog Tryz.keys_mgr_state_ren := {
 mixed := by kernel_rfl
 f7 := ⟨Tryz.f102.name, by decide, Tryz.func102.trans (congrArg some (by kernel_rfl))⟩
 f10 := ⟨Tryz.f147.name, by decide, Tryz.func147.trans (congrArg some (by kernel_rfl))⟩
 t0 := Tryz.underlying0
 a0 := Tryz.isAgg0
 z0 := Tryz.sizeOf0
 v0 := Tryz.zeroValue0
 t4 := Tryz.underlying4
 a4 := Tryz.isAgg4
 z4 := Tryz.sizeOf4
 v4 := Tryz.zeroValue4
 t23 := Tryz.underlying103
 a23 := Tryz.isAgg103
 z23 := Tryz.sizeOf103
 v23 := Tryz.zeroValue103
 t26 := Tryz.underlying9
 a26 := Tryz.isAgg9
 z26 := Tryz.sizeOf9
 v26 := Tryz.zeroValue9
 t27 := Tryz.underlying180
 a27 := Tryz.isAgg180
 z27 := Tryz.sizeOf180
 v27 := Tryz.zeroValue180
 t28 := Tryz.underlying181
 a28 := Tryz.isAgg181
 z28 := Tryz.sizeOf181
 v28 := Tryz.zeroValue181
 t33 := Tryz.underlying138
 a33 := Tryz.isAgg138
 z33 := Tryz.sizeOf138
 v33 := Tryz.zeroValue138 }
def Tryz.keys_unit_Unit_ren : Go.Shelf.Ren := ⟨fun | 7 => 101 | 10 => 146 | n => n, fun | 23 => 161 | 26 => 9 | 3 => 84 | 28 => 181 | 0 => 0 | 27 => 180 | 33 => 138 | 4 => 4 | n => n, fun | n => n⟩
theorem Tryz.keys_unit_Unit : Go.Proofs.SlLaysZ.n7 Tryz.prog Tryz.keys_unit_Unit_ren := {
 mixed := by kernel_rfl
 f7 := ⟨Tryz.f101.name, by decide, Tryz.func101.trans (congrArg some (by kernel_rfl))⟩
 f10 := ⟨Tryz.f146.name, by decide, Tryz.func146.trans (congrArg some (by kernel_rfl))⟩
 t0 := Tryz.underlying0
 a0 := Tryz.isAgg0
 z0 := Tryz.sizeOf0
 v0 := Tryz.zeroValue0
 t4 := Tryz.underlying4
 a4 := Tryz.isAgg4
 z4 := Tryz.sizeOf4
 v4 := Tryz.zeroValue4
 t23 := Tryz.underlying161
 a23 := Tryz.isAgg161
 z23 := Tryz.sizeOf161
 v23 := Tryz.zeroValue161
 t26 := Tryz.underlying9
 a26 := Tryz.isAgg9
 z26 := Tryz.sizeOf9
 v26 := Tryz.zeroValue9
 t27 := Tryz.underlying180
 a27 := Tryz.isAgg180
 z27 := Tryz.sizeOf180
 v27 := Tryz.zeroValue180
 t28 := Tryz.underlying181
 a28 := Tryz.isAgg181
 z28 := Tryz.sizeOf181
 v28 := Tryz.zeroValue181
 t33 := Tryz.underlying138
 a33 := Tryz.isAgg138
 z33 := Tryz.sizeOf138
 v33 := Tryz.zeroValue138 }
def Tryz.deletefunc_int_ren : Go.Shelf.Ren := ⟨fun | 10 => 131 | 6 => 174 | n => n, fun | 22 => 34 | 23 => 3 | 25 => 223 | 3 => 3 | 4 => 4 | 0 => 0 | n => n, fun | n => n⟩
theorem Tryz.deletefunc_int : Go.Proofs.SlLaysH.n10 Tryz.prog Tryz.deletefunc_int_ren := {
 mixed := by kernel_rfl
 f6 := ⟨Tryz.f174.name, by decide, Tryz.func174.trans (congrArg some (by kernel_rfl))⟩
 f10 := ⟨Tryz.f131.name, by decide, Tryz.func131.trans (congrArg some (by kernel_rfl))⟩
 t0 := Tryz.underlying0
 a0 := Tryz.isAgg0
 z0 := Tryz.sizeOf0
 v0 := Tryz.zeroValue0
 t3 := Tryz.underlying3
 a3 := Tryz.isAgg3
 z3 := Tryz.sizeOf3
 v3 := Tryz.zeroValue3
 t4 := Tryz.underlying4
 a4 := Tryz.isAgg4
 z4 := Tryz.sizeOf4
 v4 := Tryz.zeroValue4
 t22 := Tryz.underlying34
 a22 := Tryz.isAgg34
 z22 := Tryz.sizeOf34
 v22 := Tryz.zeroValue34
 a23 := Tryz.isAgg3
 z23 := Tryz.sizeOf3
 t25 := Tryz.underlying223
 a25 := Tryz.isAgg223
 z25 := Tryz.sizeOf223
 v25 := Tryz.zeroValue223 }
def Tryz.sort_int_ren : Go.Shelf.Ren := ⟨fun | 5 => 142 | 8 => 178 | 7 => 177 | 19 => 199 | 20 => 200 | 10 => 190 | 11 => 191 | 12 => 192 | 13 => 193 | 14 => 194 | 15 => 195 | 16 => 196 | 17 => 197 | 18 => 198 | 30 => 214 | 31 => 215 | 32 => 216 | 33 => 217 | 34 => 218 | 35 => 219 | 40 => 228 | n => n, fun | 23 => 34 | 25 => 3 | 3 => 3 | 32 => 117 | 22 => 34 | 0 => 0 | 44 => 253 | 46 => 188 | 4 => 4 | 36 => 277 | 35 => 276 | 41 => 136 | 5 => 5 | 9 => 9 | 53 => 292 | 57 => 296 | 63 => 303 | 64 => 37 | n => n, fun | n => n⟩
theorem Tryz.sort_int : Go.Proofs.SlLaysM.n5 Tryz.prog Tryz.sort_int_ren := {
 mixed := by kernel_rfl
 f5 := ⟨Tryz.f142.name, by decide, Tryz.func142.trans (congrArg some (by kernel_rfl))⟩
 f7 := ⟨Tryz.f177.name, by decide, Tryz.func177.trans (congrArg some (by kernel_rfl))⟩
 f8 := Tryz.func178.trans (congrArg some (by kernel_rfl))
 f10 := ⟨Tryz.f190.name, by decide, Tryz.func190.trans (congrArg some (by kernel_rfl))⟩
 f11 := ⟨Tryz.f191.name, by decide, Tryz.func191.trans (congrArg some (by kernel_rfl))⟩
 f12 := ⟨Tryz.f192.name, by decide, Tryz.func192.trans (congrArg some (by kernel_rfl))⟩
 f13 := ⟨Tryz.f193.name, by decide, Tryz.func193.trans (congrArg some (by kernel_rfl))⟩
 f14 := ⟨Tryz.f194.name, by decide, Tryz.func194.trans (congrArg some (by kernel_rfl))⟩
 f15 := ⟨Tryz.f195.name, by decide, Tryz.func195.trans (congrArg some (by kernel_rfl))⟩
 f16 := ⟨Tryz.f196.name, by decide, Tryz.func196.trans (congrArg some (by kernel_rfl))⟩
 f17 := ⟨Tryz.f197.name, by decide, Tryz.func197.trans (congrArg some (by kernel_rfl))⟩
 f18 := ⟨Tryz.f198.name, by decide, Tryz.func198.trans (congrArg some (by kernel_rfl))⟩
 f19 := Tryz.func199.trans (congrArg some (by kernel_rfl))
 f20 := Tryz.func200.trans (congrArg some (by kernel_rfl))
 f30 := ⟨Tryz.f214.name, by decide, Tryz.func214.trans (congrArg some (by kernel_rfl))⟩
 f31 := Tryz.func215.trans (congrArg some (by kernel_rfl))
 f32 := Tryz.func216.trans (congrArg some (by kernel_rfl))
 f33 := ⟨Tryz.f217.name, by decide, Tryz.func217.trans (congrArg some (by kernel_rfl))⟩
 f34 := ⟨Tryz.f218.name, by decide, Tryz.func218.trans (congrArg some (by kernel_rfl))⟩
 f35 := ⟨Tryz.f219.name, by decide, Tryz.func219.trans (congrArg some (by kernel_rfl))⟩
 f40 := ⟨Tryz.f228.name, by decide, Tryz.func228.trans (congrArg some (by kernel_rfl))⟩
 t0 := Tryz.underlying0
 a0 := Tryz.isAgg0
 z0 := Tryz.sizeOf0
 v0 := Tryz.zeroValue0
 t3 := Tryz.underlying3
 a3 := Tryz.isAgg3
 z3 := Tryz.sizeOf3
 v3 := Tryz.zeroValue3
 t4 := Tryz.underlying4
 a4 := Tryz.isAgg4
 z4 := Tryz.sizeOf4
 v4 := Tryz.zeroValue4
 t5 := Tryz.underlying5
 a5 := Tryz.isAgg5
 z5 := Tryz.sizeOf5
 v5 := Tryz.zeroValue5
 t9 := Tryz.underlying9
 a9 := Tryz.isAgg9
 z9 := Tryz.sizeOf9
 v9 := Tryz.zeroValue9
 t22 := Tryz.underlying34
 a22 := Tryz.isAgg34
 z22 := Tryz.sizeOf34
 v22 := Tryz.zeroValue34
 t23 := Tryz.underlying34
 a23 := Tryz.isAgg34
 z23 := Tryz.sizeOf34
 v23 := Tryz.zeroValue34
 t25 := Tryz.underlying3
 a25 := Tryz.isAgg3
 z25 := Tryz.sizeOf3
 v25 := Tryz.zeroValue3
 t32 := Tryz.underlying117
 a32 := Tryz.isAgg117
 z32 := Tryz.sizeOf117
 v32 := Tryz.zeroValue117
 t35 := Tryz.underlying276
 a35 := Tryz.isAgg276
 z35 := Tryz.sizeOf276
 v35 := Tryz.zeroValue276
 t36 := Tryz.underlying277
 a36 := Tryz.isAgg277
 z36 := Tryz.sizeOf277
 v36 := Tryz.zeroValue277
 t41 := Tryz.underlying136
 a41 := Tryz.isAgg136
 z41 := Tryz.sizeOf136
 v41 := Tryz.zeroValue136
 t44 := Tryz.underlying253
 a44 := Tryz.isAgg253
 z44 := Tryz.sizeOf253
 v44 := Tryz.zeroValue253
 t46 := Tryz.underlying188
 a46 := Tryz.isAgg188
 z46 := Tryz.sizeOf188
 v46 := Tryz.zeroValue188
 t53 := Tryz.underlying292
 a53 := Tryz.isAgg292
 z53 := Tryz.sizeOf292
 v53 := Tryz.zeroValue292
 t57 := Tryz.underlying296
 a57 := Tryz.isAgg296
 z57 := Tryz.sizeOf296
 v57 := Tryz.zeroValue296
 t63 := Tryz.underlying303
 a63 := Tryz.isAgg303
 z63 := Tryz.sizeOf303
 v63 := Tryz.zeroValue303
 t64 := Tryz.underlying37
 a64 := Tryz.isAgg37
 z64 := Tryz.sizeOf37
 v64 := Tryz.zeroValue37 }
def Tryz.sort_string_ren : Go.Shelf.Ren := ⟨fun | 6 => 145 | 8 => 178 | 9 => 180 | 19 => 199 | 20 => 200 | 21 => 201 | 22 => 202 | 23 => 203 | 24 => 204 | 25 => 205 | 26 => 206 | 27 => 207 | 28 => 208 | 29 => 209 | 36 => 220 | 31 => 215 | 32 => 216 | 37 => 221 | 38 => 222 | 39 => 223 | 41 => 229 | n => n, fun | 27 => 29 | 29 => 9 | 3 => 3 | 32 => 117 | 26 => 29 | 0 => 0 | 44 => 253 | 46 => 188 | 4 => 4 | 36 => 277 | 35 => 276 | 41 => 136 | 5 => 5 | 9 => 9 | 53 => 292 | 57 => 296 | 63 => 303 | 64 => 37 | n => n, fun | n => n⟩
theorem Tryz.sort_string : Go.Proofs.SlLaysM.n6 Tryz.prog Tryz.sort_string_ren := {
 mixed := by kernel_rfl
 f6 := ⟨Tryz.f145.name, by decide, Tryz.func145.trans (congrArg some (by kernel_rfl))⟩
 f8 := Tryz.func178.trans (congrArg some (by kernel_rfl))
 f9 := ⟨Tryz.f180.name, by decide, Tryz.func180.trans (congrArg some (by kernel_rfl))⟩
 f19 := Tryz.func199.trans (congrArg some (by kernel_rfl))
 f20 := Tryz.func200.trans (congrArg some (by kernel_rfl))
 f21 := ⟨Tryz.f201.name, by decide, Tryz.func201.trans (congrArg some (by kernel_rfl))⟩
 f22 := ⟨Tryz.f202.name, by decide, Tryz.func202.trans (congrArg some (by kernel_rfl))⟩
 f23 := ⟨Tryz.f203.name, by decide, Tryz.func203.trans (congrArg some (by kernel_rfl))⟩
 f24 := ⟨Tryz.f204.name, by decide, Tryz.func204.trans (congrArg some (by kernel_rfl))⟩
 f25 := ⟨Tryz.f205.name, by decide, Tryz.func205.trans (congrArg some (by kernel_rfl))⟩
 f26 := ⟨Tryz.f206.name, by decide, Tryz.func206.trans (congrArg some (by kernel_rfl))⟩
 f27 := ⟨Tryz.f207.name, by decide, Tryz.func207.trans (congrArg some (by kernel_rfl))⟩
 f28 := ⟨Tryz.f208.name, by decide, Tryz.func208.trans (congrArg some (by kernel_rfl))⟩
 f29 := ⟨Tryz.f209.name, by decide, Tryz.func209.trans (congrArg some (by kernel_rfl))⟩
 f31 := Tryz.func215.trans (congrArg some (by kernel_rfl))
 f32 := Tryz.func216.trans (congrArg some (by kernel_rfl))
 f36 := ⟨Tryz.f220.name, by decide, Tryz.func220.trans (congrArg some (by kernel_rfl))⟩
 f37 := ⟨Tryz.f221.name, by decide, Tryz.func221.trans (congrArg some (by kernel_rfl))⟩
 f38 := ⟨Tryz.f222.name, by decide, Tryz.func222.trans (congrArg some (by kernel_rfl))⟩
 f39 := ⟨Tryz.f223.name, by decide, Tryz.func223.trans (congrArg some (by kernel_rfl))⟩
 f41 := ⟨Tryz.f229.name, by decide, Tryz.func229.trans (congrArg some (by kernel_rfl))⟩
 t0 := Tryz.underlying0
 a0 := Tryz.isAgg0
 z0 := Tryz.sizeOf0
 v0 := Tryz.zeroValue0
 t3 := Tryz.underlying3
 a3 := Tryz.isAgg3
 z3 := Tryz.sizeOf3
 v3 := Tryz.zeroValue3
 t4 := Tryz.underlying4
 a4 := Tryz.isAgg4
 z4 := Tryz.sizeOf4
 v4 := Tryz.zeroValue4
 t5 := Tryz.underlying5
 a5 := Tryz.isAgg5
 z5 := Tryz.sizeOf5
 v5 := Tryz.zeroValue5
 t9 := Tryz.underlying9
 a9 := Tryz.isAgg9
 z9 := Tryz.sizeOf9
 v9 := Tryz.zeroValue9
 t26 := Tryz.underlying29
 a26 := Tryz.isAgg29
 z26 := Tryz.sizeOf29
 v26 := Tryz.zeroValue29
 t27 := Tryz.underlying29
 a27 := Tryz.isAgg29
 z27 := Tryz.sizeOf29
 v27 := Tryz.zeroValue29
 t29 := Tryz.underlying9
 a29 := Tryz.isAgg9
 z29 := Tryz.sizeOf9
 v29 := Tryz.zeroValue9
 t32 := Tryz.underlying117
 a32 := Tryz.isAgg117
 z32 := Tryz.sizeOf117
 v32 := Tryz.zeroValue117
 t35 := Tryz.underlying276
 a35 := Tryz.isAgg276
 z35 := Tryz.sizeOf276
 v35 := Tryz.zeroValue276
 t36 := Tryz.underlying277
 a36 := Tryz.isAgg277
 z36 := Tryz.sizeOf277
 v36 := Tryz.zeroValue277
 t41 := Tryz.underlying136
 a41 := Tryz.isAgg136
 z41 := Tryz.sizeOf136
 v41 := Tryz.zeroValue136
 t44 := Tryz.underlying253
 a44 := Tryz.isAgg253
 z44 := Tryz.sizeOf253
 v44 := Tryz.zeroValue253
 t46 := Tryz.underlying188
 a46 := Tryz.isAgg188
 z46 := Tryz.sizeOf188
 v46 := Tryz.zeroValue188
 t53 := Tryz.underlying292
 a53 := Tryz.isAgg292
 z53 := Tryz.sizeOf292
 v53 := Tryz.zeroValue292
 t57 := Tryz.underlying296
 a57 := Tryz.isAgg296
 z57 := Tryz.sizeOf296
 v57 := Tryz.zeroValue296
 t63 := Tryz.underlying303
 a63 := Tryz.isAgg303
 z63 := Tryz.sizeOf303
 v63 := Tryz.zeroValue303
 t64 := Tryz.underlying37
 a64 := Tryz.isAgg37
 z64 := Tryz.sizeOf37
 v64 := Tryz.zeroValue37 }
def Tryz.sorted_string_ren : Go.Shelf.Ren := ⟨fun | 6 => 100 | 8 => 144 | 9 => 145 | 11 => 179 | 13 => 178 | 12 => 180 | 23 => 199 | 24 => 200 | 14 => 201 | 15 => 202 | 16 => 203 | 17 => 204 | 18 => 205 | 19 => 206 | 20 => 207 | 21 => 208 | 22 => 209 | 25 => 220 | 26 => 215 | 27 => 216 | 28 => 221 | 29 => 222 | 30 => 223 | 31 => 229 | n => n, fun | 26 => 9 | 28 => 181 | 24 => 29 | 0 => 0 | 3 => 3 | 37 => 117 | 48 => 253 | 50 => 188 | 4 => 4 | 40 => 277 | 39 => 276 | 45 => 136 | 5 => 5 | 9 => 9 | 51 => 292 | 55 => 296 | 57 => 303 | 58 => 37 | 33 => 138 | n => n, fun | n => n⟩
theorem Tryz.sorted_string : Go.Proofs.SlLaysZ.n6 Tryz.prog Tryz.sorted_string_ren := {
 mixed := by kernel_rfl
 f6 := ⟨Tryz.f100.name, by decide, Tryz.func100.trans (congrArg some (by kernel_rfl))⟩
 f8 := ⟨Tryz.f144.name, by decide, Tryz.func144.trans (congrArg some (by kernel_rfl))⟩
 f11 := ⟨Tryz.f179.name, by decide, Tryz.func179.trans (congrArg some (by kernel_rfl))⟩
 t0 := Tryz.underlying0
 a0 := Tryz.isAgg0
 z0 := Tryz.sizeOf0
 v0 := Tryz.zeroValue0
 t24 := Tryz.underlying29
 a24 := Tryz.isAgg29
 z24 := Tryz.sizeOf29
 v24 := Tryz.zeroValue29
 t26 := Tryz.underlying9
 a26 := Tryz.isAgg9
 z26 := Tryz.sizeOf9
 v26 := Tryz.zeroValue9
 t28 := Tryz.underlying181
 a28 := Tryz.isAgg181
 z28 := Tryz.sizeOf181
 v28 := Tryz.zeroValue181
 i26 := by kernel_rfl }
end Go.Proofs
