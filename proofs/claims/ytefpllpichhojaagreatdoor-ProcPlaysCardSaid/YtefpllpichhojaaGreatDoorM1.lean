/- Several texts of mine, one behind the other: Base, Env, Frame, Own, RecSpec, Keep, FrameB, Read, ReadW, ReachOf, Runs, Maps, MapRange, EachSpec, Sign, Name, PathSpec. -/
import Derived.WalkKit
import Derived.Lib.Split
import Derived.Lib.SplitLaws
import Derived.Lib.Strings
import Derived.Lib.Hide
import Derived.Test.YtefpllpichhojaaGreatDoorProg
import Derived.ChangeAgain
import Derived.BigQuiet
import Derived.Deep.QuietTactic
import Derived.Handy
import Derived.Shelf.Vars
import Derived.Test.YtefpllpichhojaaGreatDoorCards
import Derived.Test.YtefpllpichhojaaGreatDoorTie
import Derived.ProofKit
import Derived.OpenShut
import Derived.Deep.DeepHandedRow
import Derived.Lib.LaidTab
import Derived.SliceStrings
import Derived.ChangeSlices
import Derived.Deep.Slices
import Derived.Deep.Fields
import Derived.DataReads
import Derived.Maps.OwnSet
import Derived.Maps.Keyed
import Derived.Maps.RangeWalk
import Derived.Maps.OwnOps
import Derived.WalkSpells
import Derived.WalkLawsBesides
import Derived.BigGuardPart
namespace Go.Proofs.YtefpllpichhojaaGreatDoor
open Go.RowKit
def bs (l : List UInt8) : ByteArray := ⟨l.toArray⟩
theorem bs_data (l : List UInt8) : (bs l).data.toList = l := by simp [bs]
theorem bs_of (s : ByteArray) : bs s.data.toList = s := by cases s; simp [bs]
theorem bs_size (l : List UInt8) : (bs l).size = l.length := by simp [bs, ByteArray.size]
theorem size_len (s : ByteArray) : s.data.toList.length = s.size := by simp
theorem eq_bs {s : ByteArray} {l : List UInt8} (h : s.data.toList = l) : s = bs l := by rw [← h, bs_of]
theorem extract_bs (s : ByteArray) (a b : Nat) : s.extract a b = bs ((s.data.toList.drop a).take (b - a)) := by
 apply eq_bs; rw [← ByteArray.toList_eq, Lib.extract_toList]
theorem bs_append (a b : List UInt8) : bs a ++ bs b = bs (a ++ b) := by
 apply eq_bs
 simp [bs]
theorem ret_bool {a b : Bool} (h : a = b) : Ending.returned (.bool a) = .returned (.bool b) := by rw [h]
theorem ret_str {a b : ByteArray} (h : a = b) : Ending.returned (.string a) = .returned (.string b) := by rw [h]
def splitOn (c : UInt8) : List UInt8 → List (List UInt8)
 | [] => [[]]
 | x :: r => if x = c then [] :: splitOn c r else
   match splitOn c r with
   | [] => [[x]]
   | p :: q => (x :: p) :: q
theorem splitOn_ne (c : UInt8) (l : List UInt8) : splitOn c l ≠ [] := by
 cases l with
 | nil => simp [splitOn]
 | cons x r => unfold splitOn; split <;> try simp
               split <;> simp
theorem splitOn_cons_eq (c : UInt8) (r : List UInt8) : splitOn c (c :: r) = [] :: splitOn c r := by simp [splitOn]
theorem splitOn_append (c : UInt8) (a r : List UInt8) (ha : c ∉ a) : splitOn c (a ++ c :: r) = a :: splitOn c r := by
 induction a with
 | nil => simp [splitOn]
 | cons x a ih =>
   have h1 : x ≠ c := fun e => ha (by simp [e])
   have h2 : c ∉ a := fun e => ha (by simp [e])
   rw [List.cons_append, splitOn, if_neg h1, ih h2]
theorem splitOn_none (c : UInt8) (a : List UInt8) (ha : c ∉ a) : splitOn c a = [a] := by
 induction a with
 | nil => rfl
 | cons x a ih =>
   have h1 : x ≠ c := fun e => ha (by simp [e])
   have h2 : c ∉ a := fun e => ha (by simp [e])
   rw [splitOn, if_neg h1, ih h2]
theorem splitOn_mem (c : UInt8) (l : List UInt8) : ∀ p ∈ splitOn c l, c ∉ p := by
 induction l with
 | nil => intro p hp; simp [splitOn] at hp; subst hp; simp
 | cons x r ih =>
   intro p hp
   unfold splitOn at hp
   split at hp
   · rcases List.mem_cons.1 hp with rfl | hp
     · simp
     · exact ih p hp
   · rename_i hx
     split at hp
     · simp at hp; subst hp; simp; exact fun e => hx e.symm
     · rename_i q qs hq
       rcases List.mem_cons.1 hp with rfl | hp
       · intro e
         rcases List.mem_cons.1 e with e | e
         · exact hx e.symm
         · exact ih q (by rw [hq]; simp) e
       · exact ih p (by rw [hq]; simp [hp])
def glue (c : UInt8) (L : List (List UInt8)) : List UInt8 := (L.map (c :: ·)).flatten
theorem glue_cons (c : UInt8) (p : List UInt8) (L) : glue c (p :: L) = c :: p ++ glue c L := by simp [glue]
theorem glue_append (c : UInt8) (A B) : glue c (A ++ B) = glue c A ++ glue c B := by simp [glue]
theorem glue_splitOn (c : UInt8) (l : List UInt8) : glue c (splitOn c l) = c :: l := by
 induction l with
 | nil => rfl
 | cons x r ih =>
   unfold splitOn
   split
   · rename_i h; subst h; rw [glue_cons, ih]; rfl
   · split
     · rename_i h; exact absurd h (splitOn_ne c r)
     · rename_i p q h
       rw [h, glue_cons] at ih
       rw [glue_cons]
       simp at ih ⊢
       exact ih
theorem splitOn_glue (c : UInt8) (p : List UInt8) (L : List (List UInt8)) (hp : c ∉ p) (h : ∀ q ∈ L, c ∉ q) : splitOn c (p ++ glue c L) = p :: L := by
 induction L generalizing p with
 | nil => simp [glue, splitOn_none c p hp]
 | cons q L ih =>
   rw [glue_cons, List.cons_append, splitOn_append c p _ hp, ih q (h q (by simp)) (fun r hr => h r (by simp [hr]))]
theorem splitOn_length_pos (c : UInt8) (l : List UInt8) : 1 ≤ (splitOn c l).length := by
 have := splitOn_ne c l
 cases h : splitOn c l with
 | nil => exact absurd h this
 | cons => simp
theorem index_cons_ne (b c : UInt8) (l : List UInt8) (h : b ≠ c) : Lib.index (b :: l) [c] = if Lib.index l [c] == -1 then -1 else Lib.index l [c] + 1 := by
 have hp : ([c] : List UInt8).isPrefixOf (b :: l) = false := by simp [List.isPrefixOf, Ne.symm h]
 rw [Lib.index, hp]; simp
theorem index_cons_eq (c : UInt8) (l : List UInt8) : Lib.index (c :: l) [c] = 0 := by rw [Lib.index]; simp [List.isPrefixOf]
theorem index_count (c : UInt8) (l : List UInt8) : Lib.index l [c] = -1 ↔ Lib.count l [c] = 0 := by
 constructor
 · exact fun h => Lib.count_miss h
 · intro h
   have hge := Lib.index_ge l [c]
   by_cases hm : Lib.index l [c] = -1
   · exact hm
   · obtain ⟨j, hj⟩ : ∃ j : Nat, Lib.index l [c] = j := ⟨(Lib.index l [c]).toNat, by omega⟩
     rw [Lib.count_hit (by simp) hj] at h
     omega
theorem splitK_on (c : UInt8) : ∀ (l : List UInt8), Lib.splitK [c] 0 (Lib.count l [c]) l = splitOn c l
 | [] => by rw [Lib.count_one]; rfl
 | b :: l => by
   have ih := splitK_on c l
   by_cases h : b = c
   · subst h
     rw [Lib.count_cons_eq, Nat.add_comm, Lib.splitK, index_cons_eq, splitOn_cons_eq]
     simp [ih]
   · rw [Lib.count_cons_ne b c l h, splitOn, if_neg h]
     cases hk : Lib.count l [c] with
     | zero =>
       rw [hk] at ih
       rw [← ih]; rfl
     | succ k =>
       rw [hk] at ih
       have hm : Lib.index l [c] ≠ -1 := fun e => by have := (index_count c l).1 e; omega
       have hge := Lib.index_ge l [c]
       obtain ⟨j, hj⟩ : ∃ j : Nat, Lib.index l [c] = j := ⟨(Lib.index l [c]).toNat, by omega⟩
       have hix : Lib.index (b :: l) [c] = ((j + 1 : Nat) : Int) := by rw [index_cons_ne b c l h, if_neg (fun e => hm (beq_iff_eq.1 e)), hj]; omega
       rw [← ih, Lib.splitK, Lib.splitK, hix, hj]
       have e1 : (((j + 1 : Nat) : Int) == -1) = false := by rw [beq_eq_false_iff_ne]; omega
       have e2 : (((j : Nat) : Int) == -1) = false := by rw [beq_eq_false_iff_ne]; omega
       rw [e1, e2]
       simp
theorem splitB_on (c : UInt8) (s : ByteArray) : Lib.splitB (bs [c]) 0 (Lib.countB s (bs [c])) s = (splitOn c s.data.toList).map bs := by
 have h := Lib.splitB_data (bs [c]) 0 (Lib.countB s (bs [c])) s
 have hc : Lib.countB s (bs [c]) = Lib.count s.data.toList [c] := by unfold Lib.countB; rw [bs_data]
 rw [hc] at h ⊢
 rw [bs_data, splitK_on] at h
 rw [← h, List.map_map]
 conv => lhs; rw [← List.map_id (Lib.splitB (bs [c]) 0 (Lib.count s.data.toList [c]) s)]
 apply List.map_congr_left
 intro x _
 simp [bs_of]
theorem countB_on (c : UInt8) (s : ByteArray) : Lib.countB s (bs [c]) + 1 = (splitOn c s.data.toList).length := by
 have h := Lib.splitB_all (bs [c]) (by rw [bs_size]; simp) 0 (Lib.countB s (bs [c])) s rfl
 rw [splitB_on, List.length_map] at h
 exact h.symm
end Go.Proofs.YtefpllpichhojaaGreatDoor
namespace Go.Proofs.YtefpllpichhojaaGreatDoor
open Go.RowKit
def Ext (w w' : World) : Prop := Below w.heap.size w w'
theorem Ext.refl (w : World) : Ext w w := Below.refl _ _
theorem Ext.trans {a b c : World} (h : Ext a b) (k : Ext b c) : Ext a c := Below.trans h (Below.mono k h.size)
theorem Ext.alloc (w : World) (o : Obj) : Ext w (w.alloc o) := (Below.refl _ _).alloc (Nat.le_refl _) _
theorem Ext.drew {a b : World} (h : Ext a b) : Ext a b.drew := Below.drew h
theorem Ext.drewN {a b : World} (h : Ext a b) (n : Nat) : Ext a (b.drewN n) := ⟨h.os, h.tape, h.output, h.size, h.block⟩
theorem Ext.size {w w' : World} (h : Ext w w') : w.heap.size ≤ w'.heap.size := Below.size h
theorem Ext.cell {w w' : World} (h : Ext w w') {p : Addr} {v : Value} (hc : w.cell? p = some v) : w'.cell? p = some v := by
 have hp : p.block < w.heap.size := by
  rcases Nat.lt_or_ge p.block w.heap.size with hl | hl
  · exact hl
  · have e : w.heap[p.block]? = none := Array.getElem?_eq_none hl
    simp [World.cell?, e] at hc
 rw [Below.cell h hp]; exact hc
theorem Ext.heap {w w' : World} (h : Ext w w') {b : Nat} {o : Obj} (hc : w.heap[b]? = some o) : w'.heap[b]? = some o := by
 have hp : b < w.heap.size := by
  rcases Nat.lt_or_ge b w.heap.size with hl | hl
  · exact hl
  · rw [Array.getElem?_eq_none hl] at hc; cases hc
 rw [h.block b hp]; exact hc
structure Env (w : World) : Prop where
 word : ∃ m cs, w.heap[0]? = some (.cells cs 3) ∧ cs[0]? = some (.int .i64 m)
theorem Env.of_shaped {w : World} (h : w.ShapedOpen Tryz.prog) : Env w := by
 have h0 : ((begin Tryz.prog (fun _ _ => 0) default).world.heap[0]?).bind Obj.row? = some (#[.int .i64 0], 3) := by kernel_rfl
 obtain ⟨m, hm⟩ := Go.Proofs.cell_of_shapedOpen_int (zero := #[.int .i64 0]) (t := 3) h (of_decide_eq_true (by kernel_rfl)) h0 rfl (by kernel_rfl) (by kernel_rfl) Tryz.underlying3
 obtain ⟨cs, hh, _, _⟩ := h.1 0 _ _ (of_decide_eq_true (by kernel_rfl)) h0
 refine ⟨m, cs, hh, ?_⟩
 simp only [World.cell?, hh] at hm
 simpa using hm
theorem Env.cell {w : World} (h : Env w) : ∃ m, w.cell? ⟨0, 0, none⟩ = some (.int .i64 m) := by
 obtain ⟨m, cs, hh, hc⟩ := h.word
 refine ⟨m, ?_⟩
 simp only [World.cell?, hh]
 simpa using hc
theorem Env.ext {w w' : World} (h : Env w) (k : Ext w w') : Env w' := by
 obtain ⟨m, cs, hh, hc⟩ := h.word
 exact ⟨m, cs, k.heap hh, hc⟩
def Strs (w : World) (a : Option Addr) (L : List (List UInt8)) : Prop :=
 L = [] ∨ ∃ g off, a = some ⟨g, off, none⟩ ∧ g < w.heap.size ∧ ∀ i, i < L.length → w.cell? ⟨g, off + i, none⟩ = some (.string (bs (L.getD i [])))
theorem Strs.nil (w : World) (a : Option Addr) : Strs w a [] := Or.inl rfl
theorem Strs.ext {w w' : World} {a : Option Addr} {L : List (List UInt8)} (h : Strs w a L) (k : Ext w w') : Strs w' a L := by
 rcases h with h | ⟨g, off, ha, hg, hc⟩
 · exact Or.inl h
 · exact Or.inr ⟨g, off, ha, Nat.lt_of_lt_of_le hg k.size, fun i hi => k.cell (hc i hi)⟩
theorem Strs.at {w : World} {a : Option Addr} {L : List (List UInt8)} (h : Strs w a L) (hL : L ≠ []) :
 ∃ g off, a = some ⟨g, off, none⟩ ∧ g < w.heap.size ∧ ∀ i, i < L.length → w.cell? ⟨g, off + i, none⟩ = some (.string (bs (L.getD i []))) :=
 h.resolve_left hL
theorem Strs.at0 {w : World} {b : Nat} {L : List (List UInt8)} (h : Strs w (some ⟨b, 0, none⟩) L) :
 ∀ i, i < L.length → w.cell? ⟨b, i, none⟩ = some (.string (bs (L.getD i []))) := by
 intro i hi
 rcases h with h | ⟨g, off, ha, _, hc⟩
 · rw [h] at hi; simp at hi
 · have ha := Option.some.inj ha
   obtain ⟨rfl, rfl⟩ : g = b ∧ off = 0 := by constructor <;> (cases ha; rfl)
   have := hc i hi
   rwa [Nat.zero_add] at this
theorem Strs.made (w : World) (L : List (List UInt8)) (t : TypeId) : Strs (w.alloc (.cells ((L.map bs).map Value.string).toArray t)) (some ⟨w.heap.size, 0, none⟩) L := by
 refine Or.inr ⟨w.heap.size, 0, rfl, by simp, fun i hi => ?_⟩
 have h : (w.alloc (.cells ((L.map bs).map Value.string).toArray t)).heap[w.heap.size]? = some (.cells ((L.map bs).map Value.string).toArray t (0, 0)) := by
  show (w.heap.push _)[w.heap.size]? = _
  simp
 unfold World.cell?
 simp only [h]
 simp [hi]
end Go.Proofs.YtefpllpichhojaaGreatDoor
namespace Go.Proofs.YtefpllpichhojaaGreatDoor
open Go.RowKit Go.WideShapes Go.ChangeShapes
section
variable {H : Type} {enc : TypeId × Value → H}
theorem trodAll_ext {P : Program} (hl : laidOutB P = true) {W W' : World} (hb : Ext W W') : ∀ (ts : List TypeId) (vs : List Value) (ds : List (DataW H)) (ps : List MemPlace),
 (ts.all fun t => P.readableRec t && decide (t < P.types.size)) = true →
 DataW.TrodAll enc P W 0 (fun _ => true) true ts vs ds ps → (∀ x ∈ ps, x.block < W.heap.size) →
 DataW.TrodAll enc P W' 0 (fun b => decide (b < W.heap.size)) true ts vs ds ps
 | [], [], [], _, _, h, _ => h
 | t :: ts, v :: vs, d :: ds, ps, hr, h, hlt => by
   obtain ⟨p, q, h1, h2, rfl⟩ := h
   simp only [List.all_cons, Bool.and_eq_true, decide_eq_true_eq] at hr
   exact ⟨p, q, Below.trod hl hr.1.1 hr.1.2 h1 hb (fun x hx => hlt x (List.mem_append_left _ hx)),
    trodAll_ext hl hb ts vs ds q hr.2 h2 (fun x hx => hlt x (List.mem_append_right _ hx)), rfl⟩
 | [], _ :: _, _, _, _, h, _ => h.elim
 | [], [], _ :: _, _, _, h, _ => h.elim
 | _ :: _, [], _, _, _, h, _ => h.elim
 | _ :: _, _ :: _, [], _, _, h, _ => h.elim
theorem law_post {P : Program} {f : Func} {s : ChangeSpec} {tb : TypeId} {W W' : World} {args : Array Value} {ds gs : List (DataW H)} {before : List MemPlace}
 (hl : laidOutB P = true) (hr : (f.params.toList.all fun t => P.readableRec t && decide (t < P.types.size)) = true)
 (hv : s.vars = []) (hres : f.resultTypes = #[tb]) (htb : P.underlying tb = some .bool)
 (hW : DataW.Whole enc P f.params.toList s.vars false W args.toList ds gs before)
 (hfn : s.fn H (ds ++ gs) = { results := [.lit (.bool true)], args := ds }) (hb : Ext W W') :
 s.post enc P f false true false false W args (.bool true) W' := by
 have hW' := hW
 have hlt := hW.lt
 obtain ⟨p, q, hA, hV, rfl, _, _⟩ := hW
 rw [hv] at hV
 have hq : gs = [] ∧ q = [] := by
  cases gs with
  | nil => exact ⟨rfl, hV⟩
  | cons _ _ => exact hV.elim
 obtain ⟨rfl, rfl⟩ := hq
 refine ⟨ds, [], p ++ [], [], p, [], hW', ?_, ?_, ?_, ?_, fun h => by cases h⟩
 · rw [hfn, hres]
   exact trodAll_cons_mk (shut_bool htb true) trodAll_mk0
 · rw [hfn]
   exact trodAll_ext hl hb _ _ _ _ hr hA (fun x hx => hlt x (List.mem_append_left _ hx))
 · rw [hfn, hv]; rfl
 · exact Below.frame hb _
end
theorem stand_ins {P : Program} {ps : Array TypeId} (h : (ps.toList.all fun t => !P.wantsStandIn t) = true) : ∀ (j : Nat) t, ps[j]? = some t → P.wantsStandIn t = false := by
 intro j t ht
 have hm : t ∈ ps.toList := by
  have := Array.mem_of_getElem? ht
  simpa using this
 have := List.all_eq_true.1 h t hm
 simpa using this
def layCells (w : World) (b : Nat) (cs : Array Value) : World :=
 { w with heap := w.heap.modify b fun
     | .cells _ t frozen => .cells cs t frozen
     | o => o }
theorem own : ownKnob Tryz.prog.godebug = none := by kernel_rfl
theorem laidOutP : laidOutB Tryz.prog = true := by kernel_rfl
def cellsFirst : Array Value := (Go.Pinned.utf8FirstZ.map fun (n : Nat) => Value.int .u8 (n : Int)).toArray
def cellsRanges : Array Value := ([128, 191, 160, 191, 128, 159, 144, 191, 128, 143, 0, 0, 0, 0, 0, 0, 0, 0, 0, 0, 0, 0, 0, 0, 0, 0, 0, 0, 0, 0, 0, 0].map fun (n : Int) => Value.int .u8 n).toArray
noncomputable def laidUtf8 (os : Os) : World :=
 layCells (layCells (World.holding Tryz.prog os ⟨#[], #[], []⟩) 1 cellsFirst) 2 cellsRanges
end Go.Proofs.YtefpllpichhojaaGreatDoor
namespace Go.Proofs.YtefpllpichhojaaGreatDoor
open Go.RowKit
end Go.Proofs.YtefpllpichhojaaGreatDoor
namespace Go.Proofs.YtefpllpichhojaaGreatDoor
abbrev RSt := List UInt8 × Bool
def byteAt (l : List UInt8) (i : Nat) : Nat := (l.getD i 0).toNat
def le32 (l : List UInt8) : Nat := byteAt l 0 + 256 * byteAt l 1 + 65536 * byteAt l 2 + 16777216 * byteAt l 3
def num4 (n : Nat) : List UInt8 := [UInt8.ofNat n, UInt8.ofNat (n / 256), UInt8.ofNat (n / 65536), UInt8.ofNat (n / 16777216)]
theorem num4_len (n : Nat) : (num4 n).length = 4 := rfl
theorem le32_lt (l : List UInt8) : le32 l < 4294967296 := by
 unfold le32 byteAt
 have h0 := (l.getD 0 0).toNat_lt
 have h1 := (l.getD 1 0).toNat_lt
 have h2 := (l.getD 2 0).toNat_lt
 have h3 := (l.getD 3 0).toNat_lt
 omega
theorem u8_ofNat_eq {n : Nat} {b : UInt8} (h : n % 256 = b.toNat) : UInt8.ofNat n = b := by
 apply UInt8.toNat_inj.1
 rw [UInt8.toNat_ofNat']
 exact h
theorem num4_le32 {l : List UInt8} (h : 4 ≤ l.length) : num4 (le32 l) ++ l.drop 4 = l := by
 match l, h with
 | a :: b :: c :: d :: r, _ =>
   have ha := a.toNat_lt
   have hb := b.toNat_lt
   have hc := c.toNat_lt
   have hd := d.toNat_lt
   have e : le32 (a :: b :: c :: d :: r) = a.toNat + 256 * b.toNat + 65536 * c.toNat + 16777216 * d.toNat := rfl
   have e0 : UInt8.ofNat (le32 (a :: b :: c :: d :: r)) = a := u8_ofNat_eq (by rw [e]; omega)
   have e1 : UInt8.ofNat (le32 (a :: b :: c :: d :: r) / 256) = b := u8_ofNat_eq (by rw [e]; omega)
   have e2 : UInt8.ofNat (le32 (a :: b :: c :: d :: r) / 65536) = c := u8_ofNat_eq (by rw [e]; omega)
   have e3 : UInt8.ofNat (le32 (a :: b :: c :: d :: r) / 16777216) = d := u8_ofNat_eq (by rw [e]; omega)
   unfold num4
   rw [e0, e1, e2, e3]
   rfl
def rNum (most : Nat) (s : RSt) : Nat × RSt :=
 if s.1.length < 4 then (0, ([], true)) else
 if most < le32 s.1 then (0, ([], true)) else (le32 s.1, (s.1.drop 4, s.2))
def rRaw (most : Nat) (s : RSt) : List UInt8 × RSt :=
 if (rNum most s).2.1.length < (rNum most s).1 then ([], ([], true))
 else ((rNum most s).2.1.take (rNum most s).1, ((rNum most s).2.1.drop (rNum most s).1, (rNum most s).2.2))
def raw4 (l : List UInt8) : List UInt8 := num4 l.length ++ l
theorem rNum_good {most : Nat} {s : RSt} {n : Nat} {l : List UInt8} (h : rNum most s = (n, (l, false))) : s.2 = false ∧ s.1 = num4 n ++ l ∧ n ≤ most ∧ n < 4294967296 := by
 unfold rNum at h
 split at h
 · simp at h
 · split at h
   · simp at h
   · simp only [Prod.mk.injEq] at h
     obtain ⟨h1, h2, h3⟩ := h
     subst h1 h2
     exact ⟨h3, (num4_le32 (by omega)).symm, by omega, le32_lt _⟩
theorem rNum_le (most : Nat) (s : RSt) : (rNum most s).1 ≤ most := by
 unfold rNum; split
 · simp
 · split
   · simp
   · simp; omega
def rDone (s : RSt) : Bool := !s.2 && decide (s.1.length = 0)
end Go.Proofs.YtefpllpichhojaaGreatDoor
namespace Go.Proofs.YtefpllpichhojaaGreatDoor
open Go.RowKit
def Bytes (w : World) (a : Option Addr) (l : List UInt8) : Prop :=
 l = [] ∨ ∃ g off, a = some ⟨g, off, none⟩ ∧ g < w.heap.size ∧ ∀ i, i < l.length → w.cell? ⟨g, off + i, none⟩ = some (.int .u8 (byteAt l i : Nat))
theorem Bytes.ext {w w' : World} {a : Option Addr} {l : List UInt8} (h : Bytes w a l) (k : Ext w w') : Bytes w' a l := by
 rcases h with h | ⟨g, off, ha, hg, hc⟩
 · exact Or.inl h
 · exact Or.inr ⟨g, off, ha, Nat.lt_of_lt_of_le hg k.size, fun i hi => k.cell (hc i hi)⟩
theorem Bytes.at {w : World} {a : Option Addr} {l : List UInt8} (h : Bytes w a l) (hL : l ≠ []) :
 ∃ g off, a = some ⟨g, off, none⟩ ∧ g < w.heap.size ∧ ∀ i, i < l.length → w.cell? ⟨g, off + i, none⟩ = some (.int .u8 (byteAt l i : Nat)) :=
 h.resolve_left hL
structure But (R : Nat) (w w' : World) : Prop where
 os : w'.os = w.os
 tape : w'.tape = w.tape
 output : w'.output = w.output
 size : w.heap.size ≤ w'.heap.size
 block : ∀ k, k < w.heap.size → k ≠ R → w'.heap[k]? = w.heap[k]?
theorem But.refl (R : Nat) (w : World) : But R w w := ⟨rfl, rfl, rfl, Nat.le_refl _, fun _ _ _ => rfl⟩
theorem But.trans {R : Nat} {a b c : World} (h : But R a b) (k : But R b c) : But R a c :=
 ⟨k.os.trans h.os, k.tape.trans h.tape, k.output.trans h.output, Nat.le_trans h.size k.size, fun i hi hn => (k.block i (Nat.lt_of_lt_of_le hi h.size) hn).trans (h.block i hi hn)⟩
theorem But.drewN {R : Nat} {a b : World} (h : But R a b) (n : Nat) : But R a (b.drewN n) := ⟨h.os, h.tape, h.output, h.size, h.block⟩
theorem But.setCell {R : Nat} {a b : World} (h : But R a b) (i : Nat) (v : Value) : But R a (b.setCell ⟨R, i, none⟩ v) :=
 h.trans ⟨rfl, rfl, rfl, by simp [World.setCell], fun k _ hk => Below.heap_setCell _ _ _ _ hk⟩
theorem But.ext {R : Nat} {w a b : World} (h : Ext w a) (k : But R a b) (hR : w.heap.size ≤ R) : Ext w b :=
 ⟨k.os.trans h.os, k.tape.trans h.tape, k.output.trans h.output, Nat.le_trans h.size k.size, fun i hi => (k.block i (Nat.lt_of_lt_of_le hi h.size) (by omega)).trans (h.block i hi)⟩
theorem But.cell {R : Nat} {w w' : World} (k : But R w w') {g o : Nat} {v : Value} (hg : g ≠ R) (hv : w.cell? ⟨g, o, none⟩ = some v) : w'.cell? ⟨g, o, none⟩ = some v := by
 have hlt : g < w.heap.size := by
  rcases Nat.lt_or_ge g w.heap.size with hl | hl
  · exact hl
  · have e : w.heap[g]? = none := Array.getElem?_eq_none hl
    simp [World.cell?, e] at hv
 rw [World.cell?_of_block (w := w) (w' := w') (a := ⟨g, o, none⟩) (k.block g hlt hg)]; exact hv
theorem setCell_row {w : World} {R i : Nat} {cs : Array Value} {t : TypeId} {fr : Nat × Nat} (hg : w.heap[R]? = some (.cells cs t fr)) (v : Value) :
 (w.setCell ⟨R, i, none⟩ v).heap[R]? = some (.cells (cs.setIfInBounds i v) t fr) := by
 simp only [World.setCell, Array.getElem?_modify, hg]
 simp
structure Keep (S : Nat → Prop) (w w' : World) : Prop where
 os : w'.os = w.os
 tape : w'.tape = w.tape
 output : w'.output = w.output
 size : w.heap.size ≤ w'.heap.size
 block : ∀ k, k < w.heap.size → S k → w'.heap[k]? = w.heap[k]?
theorem Keep.refl (S : Nat → Prop) (w : World) : Keep S w w := ⟨rfl, rfl, rfl, Nat.le_refl _, fun _ _ _ => rfl⟩
theorem Keep.trans {S : Nat → Prop} {a b c : World} (h : Keep S a b) (k : Keep S b c) : Keep S a c :=
 ⟨k.os.trans h.os, k.tape.trans h.tape, k.output.trans h.output, Nat.le_trans h.size k.size, fun i hi hn => (k.block i (Nat.lt_of_lt_of_le hi h.size) hn).trans (h.block i hi hn)⟩
theorem Keep.mono {S T : Nat → Prop} {a b : World} (h : Keep S a b) (hT : ∀ k, k < a.heap.size → T k → S k) : Keep T a b := ⟨h.os, h.tape, h.output, h.size, fun k hk hS => h.block k hk (hT k hk hS)⟩
theorem Keep.of_ext {S : Nat → Prop} {a b : World} (h : Ext a b) : Keep S a b := ⟨h.os, h.tape, h.output, h.size, fun k hk _ => h.block k hk⟩
theorem Keep.of_below {B : Nat} {a b : World} (h : Below B a b) : Keep (· < B) a b := ⟨h.os, h.tape, h.output, h.size, fun k _ hS => h.block k hS⟩
theorem Keep.of_but {R : Nat} {a b : World} (h : But R a b) : Keep (· ≠ R) a b := ⟨h.os, h.tape, h.output, h.size, fun k hk hS => h.block k hk hS⟩
theorem Keep.of_grown {row : Option Nat} {a b : World} (h : a.grownBy b row) : Keep (fun k => some k ≠ row) a b := ⟨h.os, h.tape, h.output, h.size, fun k hk hS => h.block k hk hS⟩
theorem Keep.ext {a b : World} (h : Keep (fun _ => True) a b) : Ext a b := ⟨h.os, h.tape, h.output, h.size, fun k hk => h.block k hk trivial⟩
theorem Keep.heap {S : Nat → Prop} {w w' : World} (h : Keep S w w') {g : Nat} {o : Obj} (hS : S g) (hg : w.heap[g]? = some o) : w'.heap[g]? = some o :=
 (h.block g (Array.getElem?_eq_some_iff.1 hg).1 hS).trans hg
theorem lt_of_cell {w : World} {g o : Nat} {v : Value} (hv : w.cell? ⟨g, o, none⟩ = some v) : g < w.heap.size := by
 rcases Nat.lt_or_ge g w.heap.size with hl | hl
 · exact hl
 · have e : w.heap[g]? = none := Array.getElem?_eq_none hl
   simp [World.cell?, e] at hv
theorem Keep.cell {S : Nat → Prop} {w w' : World} (k : Keep S w w') {g o : Nat} {v : Value} (hg : S g) (hv : w.cell? ⟨g, o, none⟩ = some v) : w'.cell? ⟨g, o, none⟩ = some v := by
 rw [World.cell?_of_block (w := w) (w' := w') (a := ⟨g, o, none⟩) (k.block g (lt_of_cell hv) hg)]; exact hv
def Row (S : Nat → Prop) (w : World) (a : Option Addr) (cs : List Value) : Prop :=
 cs = [] ∨ ∃ g off, a = some ⟨g, off, none⟩ ∧ g < w.heap.size ∧ S g ∧ ∀ i, i < cs.length → w.cell? ⟨g, off + i, none⟩ = cs[i]?
theorem Row.keep {S : Nat → Prop} {w w' : World} {a : Option Addr} {cs : List Value} (h : Row S w a cs) (k : Keep S w w') : Row S w' a cs := by
 rcases h with h | ⟨g, off, ha, hg, hS, hc⟩
 · exact Or.inl h
 · refine Or.inr ⟨g, off, ha, Nat.lt_of_lt_of_le hg k.size, hS, fun i hi => ?_⟩
   have := hc i hi
   rw [List.getElem?_eq_getElem hi] at this ⊢
   exact k.cell hS this
theorem Row.mono {S T : Nat → Prop} {w : World} {a : Option Addr} {cs : List Value} (h : Row S w a cs) (hT : ∀ k, k < w.heap.size → S k → T k) : Row T w a cs := by
 rcases h with h | ⟨g, off, ha, hg, hS, hc⟩
 · exact Or.inl h
 · exact Or.inr ⟨g, off, ha, hg, hT g hg hS, hc⟩
theorem Row.at {S : Nat → Prop} {w : World} {a : Option Addr} {cs : List Value} (h : Row S w a cs) (hL : cs ≠ []) :
 ∃ g off, a = some ⟨g, off, none⟩ ∧ g < w.heap.size ∧ S g ∧ ∀ i, i < cs.length → w.cell? ⟨g, off + i, none⟩ = cs[i]? := h.resolve_left hL
def byteV (l : List UInt8) : List Value := l.map fun b => .int .u8 (b.toNat : Int)
def BytesS (S : Nat → Prop) (w : World) (a : Option Addr) (l : List UInt8) : Prop := Row S w a (byteV l)
theorem byteV_at {l : List UInt8} {i : Nat} (hi : i < l.length) : (byteV l)[i]? = some (.int .u8 (byteAt l i : Nat)) := by
 simp [byteV, byteAt, hi]
theorem BytesS.bytes {S : Nat → Prop} {w : World} {a : Option Addr} {l : List UInt8} (h : BytesS S w a l) : Bytes w a l := by
 rcases h with h | ⟨g, off, ha, hg, hS, hc⟩
 · left; simpa [byteV] using h
 · refine Or.inr ⟨g, off, ha, hg, fun i hi => ?_⟩
   rw [hc i (by simpa [byteV] using hi), byteV_at hi]
theorem Bytes.row {w : World} {a : Option Addr} {l : List UInt8} (h : Bytes w a l) : BytesS (fun _ => True) w a l := by
 rcases h with h | ⟨g, off, ha, hg, hc⟩
 · left; simp [byteV, h]
 · refine Or.inr ⟨g, off, ha, hg, trivial, fun i hi => ?_⟩
   have hi' : i < l.length := by simpa [byteV] using hi
   rw [hc i hi', byteV_at hi']
theorem cell_new (w : World) (cs : Array Value) (t : TypeId) (i : Nat) (v : Value) (h : cs[i]? = some v) : (w.alloc (.cells cs t)).cell? ⟨w.heap.size, i, none⟩ = some v := by
 rw [cell_of_row _ _ _ _ _ _ (heap_alloc_new w _)]; exact h
theorem ext_below {a b c d : World} {B : Nat} (hB : a.heap.size = B) (h : Ext a b) (h2 : Ext b c) (h3 : Below B c d) : Ext a d := by
 subst hB
 exact Below.trans (h.trans h2) h3
theorem blk_cell {w : World} {R : Nat} {cs : Array Value} {t : TypeId} (hg : w.heap[R]? = some (.cells cs t (0, 0))) (i : Nat) (v : Value) (hi : cs[i]? = some v) : w.cell? ⟨R, i, none⟩ = some v := by
 rw [cell_of_row _ _ _ _ _ _ hg]; exact hi
theorem blk_free {w : World} {R : Nat} {cs : Array Value} {t : TypeId} (hg : w.heap[R]? = some (.cells cs t (0, 0))) (i : Nat) : w.frozen? ⟨R, i, none⟩ = false := by
 unfold World.frozen?; simp only [hg]; simp
theorem Keep.setCell {S : Nat → Prop} {a b : World} (h : Keep S a b) {R : Nat} (hR : ∀ k, S k → k ≠ R) (i : Nat) (v : Value) : Keep S a (b.setCell ⟨R, i, none⟩ v) :=
 h.trans ⟨rfl, rfl, rfl, by simp [World.setCell], fun k _ hS => Below.heap_setCell _ _ _ _ (hR k hS)⟩
theorem ownsRow_keep {S : Nat → Prop} {w w' : World} {base e size n : Nat} {v : Value} {xs : List Value} (h : w.ownsRow base e size v n xs) (k : Keep S w w') (hS : ∀ g cur, v.ownBlock = some g → base ≤ g → w.heap[g]? = some (.cells cur e (0, 0)) → S g) : w'.ownsRow base e size v n xs := by
 refine ⟨h.1, ?_⟩
 rcases h.2 with h1 | ⟨g, c, cur, h1, hb, hg, r⟩
 · exact Or.inl h1
 · exact Or.inr ⟨g, c, cur, h1, hb, k.heap (hS g cur (by rw [h1]; rfl) hb hg) hg, r⟩
theorem Keep.ext_lt {a b : World} (h : Keep (· < a.heap.size) a b) : Ext a b := ⟨h.os, h.tape, h.output, h.size, fun k hk => h.block k hk hk⟩
end Go.Proofs.YtefpllpichhojaaGreatDoor
namespace Go.Proofs.YtefpllpichhojaaGreatDoor
open Go.RowKit Go.WideShapes Go.ChangeShapes
theorem addr_plain {W : World} {a : Addr} {v : Value} (h : W.cell? a = some v) : ∃ g off, a = ⟨g, off, none⟩ ∧ g < W.heap.size := by
 have hspot : a.spot = none := by
  cases hs : a.spot with
  | none => rfl
  | some x =>
    simp only [World.cell?] at h
    split at h
    · rw [hs] at h; simp at h
    · cases h
 have hblk : a.block < W.heap.size := by
  rcases Nat.lt_or_ge a.block W.heap.size with h1 | h1
  · exact h1
  · have e : W.heap[a.block]? = none := Array.getElem?_eq_none h1
    simp [World.cell?, e] at h
 obtain ⟨g, off, sp⟩ := a
 simp only at hspot hblk
 subst hspot
 exact ⟨g, off, rfl, hblk⟩
theorem add_plain (g off n : Nat) : (⟨g, off, none⟩ : Addr).add n = ⟨g, off + n, none⟩ := by
 unfold Addr.add; split
 · rename_i h0; subst h0; rfl
 · rfl
end Go.Proofs.YtefpllpichhojaaGreatDoor
namespace Go.Proofs.YtefpllpichhojaaGreatDoor
open Go.RowKit Go.WideShapes Go.ChangeShapes Go.Deep
def SliceOf {α : Type} (C : Nat) (R : World → List Value → α → Prop) (w : World) (a : Option Addr) (L : List α) : Prop :=
 L = [] ∨ ∃ g off, a = some ⟨g, off, none⟩ ∧ g < w.heap.size ∧ ∀ i (hi : i < L.length), ∃ cs, cs.length = C ∧ (∀ j, j < C → w.cell? ⟨g, off + i * C + j, none⟩ = cs[j]?) ∧ R w cs L[i]
theorem read_list {α : Type} {P : Nat → α → Prop} : ∀ (m : Nat), (∀ i, i < m → ∃ x, P i x) → ∃ L : List α, L.length = m ∧ ∀ i (hi : i < L.length), P i L[i]
 | 0, _ => ⟨[], rfl, fun i hi => by simp at hi⟩
 | m + 1, h => by
   obtain ⟨L, h1, h2⟩ := read_list m (fun i hi => h i (by omega))
   obtain ⟨x, hx⟩ := h m (by omega)
   refine ⟨L ++ [x], by simp [h1], fun i hi => ?_⟩
   by_cases hl : i < L.length
   · rw [List.getElem_append_left hl]; exact h2 i hl
   · have : i = m := by simp at hi; omega
     subst this
     rw [List.getElem_append_right (by omega)]
     simpa [h1] using hx
section
variable {H : Type} {enc : TypeId × Value → H} {P : Program} {w : World} {base : Nat} {spare : Nat → Bool} {held : Bool}
theorem read_struct {t : TypeId} {fs : Array Field} {fuel : Nat} {cs : List Value} {x : DataW H × List MemPlace} (ht : P.underlying t = some (.struct fs)) (hone : oneCellFields P fs = true) (hC : P.cellsOf t = fs.size)
 (h : DataW.trod enc P w base spare held fuel t cs = some x) :
 ∃ (ys : List (DataW H × List MemPlace)) (n : Nat), x.1 = .agg (ys.map (·.1)) ∧ cs.length = fs.size ∧ ys.length = fs.size ∧
   ∀ (j : Nat) (f : Field), fs[j]? = some f → ∃ v y, cs[j]? = some v ∧ ys[j]? = some y ∧ DataW.trod enc P w base spare held n f.type [v] = some y := by
 obtain ⟨ys, n, _, hx, hlen, hyl, hf⟩ := DataW.trod_struct ht h
 refine ⟨ys, n, by rw [hx], by rw [hlen, hC], hyl, fun j f hj => ?_⟩
 obtain ⟨ho, hk⟩ := hone_of hone j f hj
 have hjl : j < fs.size := (Array.getElem?_eq_some_iff.1 hj).1
 have h1 := hf j f hj
 rw [ho, hk] at h1
 have hj2 : j < cs.length := by omega
 have hone' : (cs.drop j).take 1 = [cs[j]'hj2] := by
  rw [List.drop_eq_getElem_cons hj2]; rfl
 rw [hone'] at h1
 have hys : ys[j]? = some (ys[j]'(by omega)) := List.getElem?_eq_getElem (by omega)
 exact ⟨_, _, List.getElem?_eq_getElem hj2, hys, h1.trans hys⟩
end
section
variable {H : Type} {enc : TypeId × Value → H} {w : World} {base : Nat} {spare : Nat → Bool} {held : Bool}
end
end Go.Proofs.YtefpllpichhojaaGreatDoor
namespace Go.Proofs.YtefpllpichhojaaGreatDoor
open Go.RowKit Go.WideShapes Go.ChangeShapes Go.Deep
section
variable {H : Type} {enc : TypeId × Value → H} {P : Program} {w : World} {base : Nat} {spare : Nat → Bool} {held : Bool}
def InReach (P : Program) (t : TypeId) (d : DataW H) : Prop := ∀ n ∈ DataW.weights P t d, n ≤ reachBytes
theorem mem_weightsAll {e : TypeId} {n : Nat} : ∀ {l : List (DataW H)} {d : DataW H}, d ∈ l → n ∈ DataW.weights P e d → n ∈ DataW.weightsAll P e l
 | x :: l, d, hd, hn => by
   rw [DataW.weightsAll, List.mem_append]
   rcases List.mem_cons.1 hd with rfl | h
   · exact Or.inl hn
   · exact Or.inr (mem_weightsAll h hn)
theorem mem_weightsEach {n : Nat} : ∀ {ts : List TypeId} {l : List (DataW H)} {j : Nat} {t : TypeId} {d : DataW H}, ts[j]? = some t → l[j]? = some d → n ∈ DataW.weights P t d → n ∈ DataW.weightsEach P ts l
 | t0 :: ts, d0 :: l, 0, t, d, h1, h2, hn => by
   simp at h1 h2
   subst h1 h2
   rw [DataW.weightsEach, List.mem_append]
   exact Or.inl hn
 | t0 :: ts, d0 :: l, j + 1, t, d, h1, h2, hn => by
   simp at h1 h2
   rw [DataW.weightsEach, List.mem_append]
   exact Or.inr (mem_weightsEach h1 h2 hn)
 | [], _, j, _, _, h1, _, _ => by simp at h1
 | _ :: _, [], j, _, _, _, h2, _ => by simp at h2
theorem read_slice_w {α : Type} {R : World → List Value → α → Prop} {t e : TypeId} {C fuel : Nat} {cs : List Value} {x : DataW H × List MemPlace} (ht : P.underlying t = some (.slice e)) (hC : P.cellsOf e = C) (hCp : 0 < C) (hw : InReach P t x.1)
 (he : ∀ n cs y, DataW.trod enc P w base spare held n e cs = some y → InReach P e y.1 → ∃ v, R w cs v)
 (h : DataW.trod enc P w base spare held fuel t cs = some x) :
 ∃ (a : Option Addr) (L : List α) (c : Nat), cs = [.slice a L.length c] ∧ L.length ≤ c ∧ SliceOf C R w a L ∧ L.length * P.bytesOf e ≤ reachBytes := by
 subst hC
 rcases open_slice ht h with ⟨h1, h2⟩ | ⟨a, len, cap, m, n, D, Pl, hcs, _, hl, _, hm, hx, hi⟩
 · subst h1 h2
   exact ⟨none, [], 0, rfl, Nat.le_refl _, Or.inl rfl, by simp⟩
 · subst hx hcs
   have hlm : len ≤ m := by rw [hm]; split <;> omega
   have hwt : DataW.weights P t (.slice ((List.range len).map D) ((List.range (m - len)).map fun j => D (len + j))) = (((List.range len).map D).length + ((List.range (m - len)).map fun j => D (len + j)).length) * P.bytesOf e :: (DataW.weightsAll P e ((List.range len).map D) ++ DataW.weightsAll P e ((List.range (m - len)).map fun j => D (len + j))) := by
    rw [DataW.weights, ht]
   unfold InReach at hw
   simp only at hw
   rw [hwt] at hw
   have hb := hw _ List.mem_cons_self
   simp only [List.length_map, List.length_range] at hb
   obtain ⟨L, h1, h2⟩ := read_list (P := fun i v => ∃ cs', w.cells? base (a.add (i * P.cellsOf e)) (P.cellsOf e) = some cs' ∧ R w cs' v) len (fun i hi' => by
    obtain ⟨cs', k1, k2⟩ := hi i (by omega)
    obtain ⟨v, k3⟩ := he n cs' _ k2 (fun q hq => hw q (List.mem_cons_of_mem _ (List.mem_append.2 (Or.inl (mem_weightsAll (List.mem_map.2 ⟨i, List.mem_range.2 hi', rfl⟩) hq)))))
    exact ⟨v, cs', k1, k3⟩)
   refine ⟨some a, L, cap, by rw [h1], by omega, ?_, ?_⟩
   · by_cases hL : L = []
     · exact Or.inl hL
     · have hpos : 0 < L.length := List.length_pos_iff.2 hL
       obtain ⟨cs', k1, _⟩ := h2 0 hpos
       obtain ⟨_, k3, k4⟩ := World.cells?_some k1
       have hc0 := k4 0 hCp
       have e0 : (a.add (0 * P.cellsOf e)).add 0 = a := by simp [Addr.add]
       rw [e0, List.getElem?_eq_getElem (by omega)] at hc0
       obtain ⟨g, off, rfl, hlt⟩ := addr_plain hc0
       refine Or.inr ⟨g, off, rfl, hlt, fun i hi' => ?_⟩
       obtain ⟨cs', k1, k2⟩ := h2 i hi'
       obtain ⟨_, k3, k4⟩ := World.cells?_some k1
       refine ⟨cs', k3, fun j hj => ?_, k2⟩
       have := k4 j hj
       rwa [add_plain, add_plain] at this
   · rw [h1]
     exact Nat.le_trans (Nat.mul_le_mul_right _ (by omega)) hb
theorem reach_field {t : TypeId} {fs : Array Field} {ys : List (DataW H × List MemPlace)} {d : DataW H} (ht : P.underlying t = some (.struct fs)) (hx : d = .agg (ys.map (·.1))) (hw : InReach P t d) {j : Nat} {f : Field} {y : DataW H × List MemPlace} (hf : fs[j]? = some f) (hy : ys[j]? = some y) : InReach P f.type y.1 := by
 intro n hn
 refine hw n ?_
 rw [hx, DataW.weights, ht]
 exact mem_weightsEach (j := j) (by simp [hf]) (by simp [hy]) hn
end
end Go.Proofs.YtefpllpichhojaaGreatDoor
namespace Go.Proofs.YtefpllpichhojaaGreatDoor
open Go.RowKit Go.WideShapes Go.ChangeShapes Go.Deep
theorem reach_of_all {H : Type} {P : Program} {params : Array TypeId} {vt : List TypeId} {ds gs : List (DataW H)} (h : (DataW.weightsEach P (params.toList ++ vt) (ds ++ gs)).all (· ≤ reachBytes) = true) :
 ∀ (j : Nat) t d, params[j]? = some t → ds[j]? = some d → InReach P t d := by
 intro j t d h1 h2 n hn
 have h3 : (params.toList ++ vt)[j]? = some t := by
  rw [List.getElem?_append_left]
  · simpa using h1
  · obtain ⟨h, _⟩ := Array.getElem?_eq_some_iff.1 h1
    simpa using h
 have h4 : (ds ++ gs)[j]? = some d := by
  rw [List.getElem?_append_left]
  · exact h2
  · exact (List.getElem?_eq_some_iff.1 h2).1
 have := (List.all_eq_true.1 h) n (mem_weightsEach h3 h4 hn)
 simpa using this
end Go.Proofs.YtefpllpichhojaaGreatDoor
namespace Go.Proofs.YtefpllpichhojaaGreatDoor
open Go.RowKit
theorem flat_at {α : Type} {F : α → List Value} {m : Nat} (hm : ∀ x, (F x).length = m) : ∀ (L : List α) (i r : Nat) (hi : i < L.length), r < m → (L.flatMap F)[i * m + r]? = (F L[i])[r]?
 | [], i, r, hi, _ => by simp at hi
 | x :: L, 0, r, _, hr => by
   rw [List.flatMap_cons, List.getElem?_append_left (by rw [hm]; omega)]
   simp
 | x :: L, i + 1, r, hi, hr => by
   have ih := flat_at hm L i r (by simpa using hi) hr
   rw [List.flatMap_cons, List.getElem?_append_right (by rw [hm, Nat.succ_mul]; omega), hm]
   have e : (i + 1) * m + r - m = i * m + r := by rw [Nat.succ_mul]; omega
   rw [e, ih]
   simp
theorem flat_lenm {α : Type} {F : α → List Value} {m : Nat} (hm : ∀ x, (F x).length = m) : ∀ (L : List α), (L.flatMap F).length = L.length * m
 | [] => by simp
 | x :: L => by rw [List.flatMap_cons, List.length_append, hm, flat_lenm hm L, List.length_cons, Nat.succ_mul]; omega
def RunM (w : World) (a : Option Addr) (us : List Value) : Prop := us = [] ∨ ∃ g off, a = some ⟨g, off, none⟩ ∧ g < w.heap.size ∧ ∀ j u, us[j]? = some u → w.cell? ⟨g, off + j, none⟩ = some u
def Fresh (base : Nat) (a : Option Addr) : Prop := ∀ ad, a = some ad → base ≤ ad.block
theorem run_of_row {w : World} {base E m n : Nat} {v : Value} {us : List Value} (h : w.ownsRow base E m v n us) : ∃ a c, v = .slice a n c ∧ n ≤ c ∧ RunM w a us ∧ Fresh base a := by
 have hl := h.1
 rcases h.2 with ⟨h1, h2⟩ | ⟨g, c, cur, h1, hbg, hg, hn, hm, hs, ht⟩
 · exact ⟨none, 0, by rw [h1, h2], by omega, Or.inl (List.eq_nil_of_length_eq_zero (by rw [hl, h2]; simp)), fun ad h => by cases h⟩
 · refine ⟨_, c, h1, hn, Or.inr ⟨g, 0, rfl, (Array.getElem?_eq_some_iff.1 hg).1, fun j u hj => ?_⟩, fun ad h => by cases h; exact hbg⟩
   rw [← ht, List.getElem?_take] at hj
   rw [Nat.zero_add]
   split at hj
   · exact blk_cell hg _ _ (by simpa using hj)
   · cases hj
theorem RunM.ext {w w' : World} {a : Option Addr} {us : List Value} (h : RunM w a us) (k : Ext w w') : RunM w' a us := by
 rcases h with h | ⟨g, off, ha, hg, hc⟩
 · exact Or.inl h
 · exact Or.inr ⟨g, off, ha, Nat.lt_of_lt_of_le hg k.size, fun j u hj => k.cell (hc j u hj)⟩
theorem RunM.plain {w : World} {ad : Addr} {us : List Value} (h : RunM w (some ad) us) : ∀ j u, us[j]? = some u → w.cell? (ad.add j) = some u := by
 intro j u hj
 rcases h with h | ⟨g, off, ha, _, hc⟩
 · rw [h] at hj; simp at hj
 · have ha := Option.some.inj ha
   subst ha
   have e : (⟨g, off, none⟩ : Addr).add j = ⟨g, off + j, none⟩ := by
    unfold Addr.add; split
    · rename_i h0; subst h0; rfl
    · rfl
   rw [e]; exact hc j u hj
end Go.Proofs.YtefpllpichhojaaGreatDoor
namespace Go.Proofs.YtefpllpichhojaaGreatDoor
open Go.RowKit
def selfR : Value → Option (DataW Value × List MemPlace) := fun v => some (.held v, [])
def MapF {α : Type} (c : α → Lit) (w : World) (k : TypeId) (b n : Nat) (f : α → Option Value) : Prop :=
 ∃ D : DataW Value, w.ownsMap Tryz.prog k selfR b n D ∧ Maps.IsMap D ∧ ∀ x, (∀ z : Value, D.atKey (c x) (.held z) = .held ((f x).getD z)) ∧ Maps.has D (c x) = (f x).isSome
section
variable {α : Type} {c : α → Lit} {w : World} {k : TypeId} {b n : Nat} {f : α → Option Value}
theorem MapF.lt (h : MapF c w k b n f) : b < w.heap.size := by obtain ⟨D, h1, _⟩ := h; exact h1.lt
theorem MapF.made (c : α → Lit) (w : World) (k : TypeId) : MapF c (w.alloc (.map #[] 0)) k w.heap.size 0 (fun _ => none) :=
 ⟨_, World.ownsMap_made w _ k selfR, Maps.isMap_empty, fun _ => ⟨fun _ => rfl, rfl⟩⟩
theorem MapF.keep {S : Nat → Prop} {w' : World} (h : MapF c w k b n f) (kp : Keep S w w') (hS : S b) : MapF c w' k b n f := by
 obtain ⟨D, h1, h2, h3⟩ := h
 have hb := h1.lt
 obtain ⟨es, clock, g1, g2, g3, g4⟩ := h1
 exact ⟨D, ⟨es, clock, (kp.block b hb hS).trans g1, g2, g3, g4⟩, h2, h3⟩
theorem MapF.ext {w' : World} (h : MapF c w k b n f) (kp : Ext w w') : MapF c w' k b n f := h.keep (Keep.of_ext (S := fun _ => True) kp) trivial
theorem MapF.same {g : α → Option Value} (h : MapF c w k b n f) (e : f = g) : MapF c w k b n g := e ▸ h
theorem MapF.mono {m : Nat} (h : MapF c w k b n f) (hm : n ≤ m) : MapF c w k b m f := by
 obtain ⟨D, h1, h2⟩ := h; exact ⟨D, h1.mono hm, h2⟩
theorem MapF.lookup {t e : TypeId} {z : Value} (h : MapF c w k b n f) (K : Maps.Keyed Tryz.prog k) (ht : Tryz.prog.underlying t = some (.map k e)) (hz : (zeroValue e).run Tryz.prog w = .ok z w) {key : Value} {kl : α} (hkey : keyOf Tryz.prog k key = some (c kl)) :
 (Instr.lookup t (.map (some b)) key false).run Tryz.prog w = .ok ((f kl).getD z) w := by
 obtain ⟨D, h1, h2, h3⟩ := h
 obtain ⟨v, ps, hr, hv⟩ := h1.lookup K ht hz (zd := .held z) (zp := []) rfl hkey
 rw [hr]
 have : DataW.held v = D.atKey (c kl) (.held z) := (Prod.mk.inj (Option.some.inj hv)).1
 rw [(h3 kl).1 z] at this
 rw [DataW.held.inj this]
theorem MapF.store {t e : TypeId} (h : MapF c w k b n f) (K : Maps.Keyed Tryz.prog k) (ht : Tryz.prog.underlying t = some (.map k e)) (hn : n < maxLen) (hc : ∀ x y, c x = c y → x = y) [DecidableEq α] {key : Value} (v : Value) {kl : α} (hkey : keyOf Tryz.prog k key = some (c kl)) :
 ∃ w', (Instr.mapUpdate t (.map (some b)) key v).run Tryz.prog w = .ok () w' ∧ MapF c w' k b (n + 1) (fun x => if x = kl then some v else f x) ∧ Keep (· ≠ b) w w' := by
 obtain ⟨D, h1, h2, h3⟩ := h
 obtain ⟨w', hr, ho, hg⟩ := h1.update K ht hn hkey (val := v) (d := .held v) (ps := []) rfl
 refine ⟨w', hr, ⟨_, ho, h2.put _ _, fun x => ?_⟩, (Keep.of_grown hg).mono (fun k _ hk => by intro e; exact hk (by injection e))⟩
 by_cases hx : x = kl
 · subst hx
   simp only [if_true]
   exact ⟨fun z => Maps.atKey_put_same h2 (K.key hkey) _ _, Maps.has_put_same h2 (K.key hkey) _⟩
 · simp only [if_neg hx]
   exact ⟨fun z => by rw [Maps.atKey_put_other (fun e => hx (hc _ _ e))]; exact (h3 x).1 z, by rw [Maps.has_put_other (fun e => hx (hc _ _ e))]; exact (h3 x).2⟩
theorem MapF.drop {t e : TypeId} (h : MapF c w k b n f) (K : Maps.Keyed Tryz.prog k) (ht : Tryz.prog.underlying t = some (.map k e)) (hc : ∀ x y, c x = c y → x = y) [DecidableEq α] {key : Value} {kl : α} (hkey : keyOf Tryz.prog k key = some (c kl)) (ty : TypeId) :
 ∃ w', (Builtin.delete_ #[t, k] ty #[.map (some b), key]).run Tryz.prog w = .ok (.tuple #[]) w' ∧ MapF c w' k b n (fun x => if x = kl then none else f x) ∧ Keep (· ≠ b) w w' := by
 obtain ⟨D, h1, h2, h3⟩ := h
 obtain ⟨w', hr, ho, hg⟩ := h1.drop K ht hkey ty
 refine ⟨w', hr, ⟨_, ho, h2.del _, fun x => ?_⟩, (Keep.of_grown hg.grown).mono (fun k _ hk => by intro e; exact hk (by injection e))⟩
 by_cases hx : x = kl
 · subst hx
   simp only [if_true]
   exact ⟨fun z => Maps.atKey_del_same _, Maps.has_del_same⟩
 · simp only [if_neg hx]
   exact ⟨fun z => by rw [Maps.atKey_del_other (fun e => hx (hc _ _ e))]; exact (h3 x).1 z, by rw [Maps.has_del_other (fun e => hx (hc _ _ e))]; exact (h3 x).2⟩
end
theorem str_keyed : Maps.Keyed Tryz.prog 9 := Maps.string_keyed Tryz.underlying9
theorem key_str (s : ByteArray) (hs : s.size ≤ maxLen) : keyOf Tryz.prog 9 (.string s) = some (.string s.data.toList) := by
 unfold keyOf
 rw [Tryz.underlying9]
 simp [mapKey, Tryz.underlying9, hs]
end Go.Proofs.YtefpllpichhojaaGreatDoor
namespace Go.Proofs.YtefpllpichhojaaGreatDoor
open Go.RowKit
theorem Keep.andThen {S T : Nat → Prop} {a b c : World} (h : Keep S a b) (k : Keep T b c) (hT : ∀ j, j < a.heap.size → S j → T j) : Keep S a c :=
 ⟨k.os.trans h.os, k.tape.trans h.tape, k.output.trans h.output, Nat.le_trans h.size k.size, fun j hj hS => (k.block j (Nat.lt_of_lt_of_le hj h.size) (hT j hj hS)).trans (h.block j hj hS)⟩
def MapG {α : Type} (c : α → Lit) (w : World) (k : TypeId) (b r n : Nat) (f : α → Option Value) (left : α → Bool) (cnt : Nat) : Prop :=
 ∃ (D : DataW Value) (lf : Lit → Bool), w.ranges Tryz.prog k selfR b r n D lf cnt ∧ Maps.IsMap D ∧ (∀ x, (∀ z : Value, D.atKey (c x) (.held z) = .held ((f x).getD z)) ∧ Maps.has D (c x) = (f x).isSome) ∧ ∀ x, lf (c x) = left x ∧ (left x = true → (f x).isSome = true)
section
variable {α : Type} {c : α → Lit} {w : World} {k : TypeId} {b r n cnt : Nat} {f : α → Option Value} {left : α → Bool}
theorem MapG.map (h : MapG c w k b r n f left cnt) : MapF c w k b n f := by
 obtain ⟨D, lf, h1, h2, h3, h4⟩ := h
 exact ⟨D, h1.owns, h2, h3⟩
theorem MapG.count (h : MapG c w k b r n f left cnt) : w.rangeLeft b r = cnt := by
 obtain ⟨D, lf, h1, _⟩ := h
 exact h1.left_eq
theorem MapG.lt (h : MapG c w k b r n f left cnt) : r < w.heap.size := by
 obtain ⟨D, lf, h1, _⟩ := h
 exact h1.lt
theorem MapG.keep {S : Nat → Prop} {w' : World} (h : MapG c w k b r n f left cnt) (kp : Keep S w w') (hb : S b) (hr : S r) : MapG c w' k b r n f left cnt := by
 have hrl := h.lt
 have hbl := h.map.lt
 obtain ⟨D, lf, h1, h2, h3, h4⟩ := h
 refine ⟨D, lf, ?_, h2, h3, h4⟩
 obtain ⟨es, clock, since, seen, c0, g1, g2, g3, g4, g5, g6⟩ := h1
 exact ⟨es, clock, since, seen, c0, (kp.block b hbl hb).trans g1, g2, g3, g4, (kp.block r hrl hr).trans g5, g6⟩
theorem MapG.ext {w' : World} (h : MapG c w k b r n f left cnt) (kp : Ext w w') : MapG c w' k b r n f left cnt := h.keep (Keep.of_ext (S := fun _ => True) kp) trivial trivial
variable {ops : Array Oper} {rest : List Oper} {o : Oper} {a : Act} {Q : Exit → Act → World → Prop}
theorem wpList_range_F (hg : o.guard = none) (m : Operand) (t : TypeId) (hop : o.op = Op.range t m) (e : TypeId) (K : Maps.Keyed Tryz.prog k) (ht : Tryz.prog.underlying t = some (.map k e))
 (b n : Nat) (f : α → Option Value) (hm : a.eval m = .map (some b)) (h : MapF c w k b n f)
 (hK : ∀ w' cnt, MapG c w' k b w.heap.size n f (fun x => (f x).isSome) cnt → Ext w w' → w'.heap.size = w.heap.size + 1 → wpList Tryz.prog ops Q rest (a.put o.dst (.pointer (some ⟨w.heap.size, 0, none⟩))) w') :
 wpList Tryz.prog ops Q (o :: rest) a w := by
 obtain ⟨D, h1, h2, h3⟩ := h
 refine wpList_range_own _ hg m t hop k e K ht selfR b n D hm h1 ?_
 intro w' r1 r2 r3
 exact hK w' _ ⟨D, Maps.has D, r1, h2, h3, fun x => ⟨(h3 x).2, fun h => h⟩⟩ ⟨r2.os, r2.tape, r2.output, r2.size, fun j hj => r2.block j hj (by simp)⟩ r3
theorem wpList_next_F [DecidableEq α] (hg : o.guard = none) (it : Operand) (hop : o.op = Op.next it false) (K : Maps.Keyed Tryz.prog k) (mk : α → Value) (hc : ∀ x y, c x = c y → x = y)
 (inv : ∀ key kl, keyOf Tryz.prog k key = some kl → ∃ x, key = mk x ∧ kl = c x) (b r n : Nat) (f : α → Option Value) (left : α → Bool) (cnt : Nat)
 (hit : a.eval it = .pointer (some ⟨r, 0, none⟩)) (h : MapG c w k b r n f left cnt)
 (hDone : (∀ x, left x = false) → wpList Tryz.prog ops Q rest (a.put o.dst (.tuple #[.bool false])) w)
 (hMore : ∀ (x : α) (v : Value) (w' : World) (cnt' : Nat), keyOf Tryz.prog k (mk x) = some (c x) → left x = true → f x = some v → MapG c w' k b r n f (fun z => left z && !decide (z = x)) cnt' → cnt' < cnt → Keep (· ≠ r) w w' → w'.heap.size = w.heap.size →
  (Instr.entry (.pointer (some ⟨r, 0, none⟩))).run Tryz.prog w' = .ok (.tuple #[mk x, v]) w' → wpList Tryz.prog ops Q rest (a.put o.dst (.tuple #[.bool true, mk x, v])) w') :
 wpList Tryz.prog ops Q (o :: rest) a w := by
 obtain ⟨D, lf, h1, h2, h3, h4⟩ := h
 refine wpList_next_ranges _ hg it hop k K selfR (id : Value → Value) (id : Value → Value) (fun key _ _ => ⟨key, rfl⟩) (fun v _ _ => ⟨v, rfl⟩) b r n D lf cnt hit h1 ?_ ?_
 · intro _ hl
   exact hDone fun x => by rw [← (h4 x).1]; exact hl _
 · intro key v kl y w' cnt' hkey hlk hv hat hrg hlt hgr hsz hen
   obtain ⟨x, rfl, rfl⟩ := inv key kl hkey
   have hlx : left x = true := by rw [← (h4 x).1]; exact hlk
   have hy : y = (.held v, []) := (Option.some.inj hv).symm
   have hfx : f x = some v := by
    obtain ⟨u, hu⟩ := Option.isSome_iff_exists.1 ((h4 x).2 hlx)
    have e1 := (h3 x).1 v
    rw [hat (.held v), hy, hu] at e1
    rw [hu]
    exact congrArg some (DataW.held.inj e1).symm
   have hself : (c x).sameKey (c x) = true := WideAt.sameKey_self (K.key hkey)
   refine hMore x v w' cnt' hkey hlx hfx ⟨D, _, hrg, h2, h3, fun z => ?_⟩ hlt ((Keep.of_grown hgr).mono (fun j _ hj => by intro e; exact hj (by injection e))) hsz hen
   by_cases hz : z = x
   · subst hz
     rw [hself]
     simp
   · have hne : (c z).sameKey (c x) = false := Maps.sameKey_ne (fun e => hz (hc _ _ e))
     rw [hne]
     simp only [decide_eq_false hz, Bool.not_false, Bool.and_true]
     exact h4 z
end
section
variable {α : Type} {c : α → Lit} {w : World} {k : TypeId} {b n : Nat} {f : α → Option Value} {ops : Array Oper} {rest : List Oper} {o : Oper} {a : Act} {Q : Exit → Act → World → Prop}
theorem wpList_store_F [DecidableEq α] (hg : o.guard = none) (m x v : Operand) (t : TypeId) (hop : o.op = Op.mapUpdate t m x v) (e : TypeId) (K : Maps.Keyed Tryz.prog k) (ht : Tryz.prog.underlying t = some (.map k e))
 (b n : Nat) (f : α → Option Value) (hm : a.eval m = .map (some b)) (h : MapF c w k b n f) (hn : n < maxLen) (hc : ∀ x y, c x = c y → x = y) (key val : Value) (kl : α) (hx : a.eval x = key) (hv : a.eval v = val) (hkey : keyOf Tryz.prog k key = some (c kl))
 (hK : ∀ w', MapF c w' k b (n + 1) (fun z => if z = kl then some val else f z) → Keep (· ≠ b) w w' → wpList Tryz.prog ops Q rest (a.put o.dst undef) w') :
 wpList Tryz.prog ops Q (o :: rest) a w := by
 refine wpList_plain hg fun K' hK' => ?_
 obtain ⟨w', hrun, r1, r2⟩ := h.store K ht hn hc val hkey
 unfold Oper.wp
 simp [execOp, hop, hm, hx, hv, hrun, Result.andThen]
 exact hK' _ _ (hK w' r1 r2)
theorem wpList_look_F (hg : o.guard = none) (m x : Operand) (t : TypeId) (hop : o.op = Op.lookup t m x false) (e : TypeId) (K : Maps.Keyed Tryz.prog k) (ht : Tryz.prog.underlying t = some (.map k e)) (z : Value) (hz : (zeroValue e).run Tryz.prog w = .ok z w)
 (b n : Nat) (f : α → Option Value) (hm : a.eval m = .map (some b)) (h : MapF c w k b n f) (key : Value) (kl : α) (hx : a.eval x = key) (hkey : keyOf Tryz.prog k key = some (c kl))
 (hK : wpList Tryz.prog ops Q rest (a.put o.dst ((f kl).getD z)) w) :
 wpList Tryz.prog ops Q (o :: rest) a w := by
 refine wpList_plain hg fun K' hK' => ?_
 have hrun := h.lookup K ht hz hkey
 unfold Oper.wp
 simp [execOp, hop, hm, hx, hrun, Result.andThen]
 exact hK' _ _ hK
end
def keyS (x : List UInt8) : Lit := .string x
theorem keyS_inj (x y : List UInt8) (h : keyS x = keyS y) : x = y := by unfold keyS at h; exact Lit.string.inj h
theorem MapF.block {α : Type} {c : α → Lit} {w : World} {k : TypeId} {b n : Nat} {f : α → Option Value} (h : MapF c w k b n f) : ∃ es cl, w.heap[b]? = some (.map es cl) := by
 obtain ⟨D, ⟨es, cl, hb, _⟩, _⟩ := h
 exact ⟨es, cl, hb⟩
theorem key_by {x : List UInt8} (hx : x.length ≤ 100000) : keyOf Tryz.prog 9 (.string (bs x)) = some (keyS x) := by
 have := key_str (bs x) (by rw [bs_size]; unfold maxLen; omega)
 rw [bs_data] at this
 exact this
theorem wpList_delete_F {α : Type} {c : α → Lit} {w : World} {k : TypeId} {ops : Array Oper} {rest : List Oper} {o : Oper} {a : Act} {Q : Exit → Act → World → Prop} [DecidableEq α] (hg : o.guard = none) (m x : Operand) (t : TypeId) (hop : o.op = Op.call { callee := Callee.builtin Builtin.delete, args := #[m, x], argTypes := #[t, k] }) (e : TypeId) (K : Maps.Keyed Tryz.prog k) (ht : Tryz.prog.underlying t = some (.map k e))
 (b n : Nat) (f : α → Option Value) (hm : a.eval m = .map (some b)) (h : MapF c w k b n f) (hc : ∀ x y, c x = c y → x = y) (key : Value) (kl : α) (hx : a.eval x = key) (hkey : keyOf Tryz.prog k key = some (c kl))
 (hK : ∀ w', MapF c w' k b n (fun z => if z = kl then none else f z) → Keep (· ≠ b) w w' → wpList Tryz.prog ops Q rest (a.put o.dst (.tuple #[])) w') :
 wpList Tryz.prog ops Q (o :: rest) a w := by
 refine wpList_plain hg fun K' hK' => ?_
 obtain ⟨w', hrun, r1, r2⟩ := h.drop K ht hc hkey o.type
 unfold Oper.wp
 simp [execOp, hop, resolve, invoke, builtin, hm, hx, hrun, Result.andThen]
 exact hK' _ _ (hK w' r1 r2)
end Go.Proofs.YtefpllpichhojaaGreatDoor
namespace Go.Proofs.YtefpllpichhojaaGreatDoor
variable {α : Type}
def rAll (one : RSt → α × RSt) : Nat → RSt → List α × RSt
 | 0, s => ([], s)
 | f + 1, s => if s.1.length = 0 then ([], s) else ((one s).1 :: (rAll one f (one s).2).1, (rAll one f (one s).2).2)
def rEach (one : RSt → α × RSt) (s : RSt) : List α × RSt := rAll one s.1.length s
def u32 (n : Int) : Nat := (n % 4294967296).toNat
theorem u32_lt (n : Int) : u32 n < 4294967296 := by unfold u32; omega
theorem u32_of {n : Nat} (h : n < 4294967296) : u32 (n : Int) = n := by unfold u32; omega
def numI (n : Int) : List UInt8 := num4 (u32 n)
theorem numI_len (n : Int) : (numI n).length = 4 := rfl
theorem raw4_len (l : List UInt8) : (raw4 l).length = 4 + l.length := by simp [raw4, num4_len]
end Go.Proofs.YtefpllpichhojaaGreatDoor
namespace Go.Proofs.YtefpllpichhojaaGreatDoor
open Go.RowKit
def signB (c : Int) : Bool := decide ((97 ≤ c ∧ c ≤ 122) ∨ (48 ≤ c ∧ c ≤ 57) ∨ c = 45 ∨ c = 46 ∨ c = 95)
theorem signB_t {c : Int} (h : (97 ≤ c ∧ c ≤ 122) ∨ (48 ≤ c ∧ c ≤ 57) ∨ c = 45 ∨ c = 46 ∨ c = 95) : signB c = true := decide_eq_true h
theorem signB_f {c : Int} (h : ¬((97 ≤ c ∧ c ≤ 122) ∨ (48 ≤ c ∧ c ≤ 57) ∨ c = 45 ∨ c = 46 ∨ c = 95)) : signB c = false := decide_eq_false h
theorem sign_any (c : Int) (w : World) :
 Calls Tryz.prog 212 #[.int .i32 c] w fun e w' => e = .returned (.bool (signB c)) ∧ w = w' := by
 go_enter Tryz.func212, Tryz.ntmps212
 go_wp2
 all_goals go_ret
 all_goals refine ⟨ret_bool ?_, rfl⟩
 all_goals first
  | exact (signB_t (by omega)).symm
  | (show (c == 95) = signB c; by_cases h : c = 95
     · rw [signB_t (by omega)]; simpa using h
     · rw [signB_f (by omega)]; simpa using h)
end Go.Proofs.YtefpllpichhojaaGreatDoor
namespace Go.Proofs.YtefpllpichhojaaGreatDoor
open Go.RowKit
def signs (l : List UInt8) : Bool := l.all fun b => signB (b.toNat : Int)
def nameL (l : List UInt8) : Bool := decide (1 ≤ l.length ∧ l.length ≤ 12 ∧ l ≠ [46] ∧ l ≠ [46, 46]) && signs l
theorem width_pos (s : ByteArray) (pos : Nat) (h : pos < s.size) : 1 ≤ (Utf8.decode s pos).2 := by
 by_cases ha : (s[pos]'h).toNat < 128
 · rw [decode_ascii s pos h ha]
   exact Nat.le_refl _
 · exact (decode_high s pos h (by omega)).2
theorem signB_lt {c : Int} (h : signB c = true) : c < 128 := by
 have := of_decide_eq_true h; omega
def okTo (s : ByteArray) (pos : Nat) : Prop := pos ≤ s.size ∧ signs (s.data.toList.take pos) = true
theorem okTo_zero (s : ByteArray) : okTo s 0 := ⟨Nat.zero_le _, by simp [signs]⟩
theorem signs_append (a b : List UInt8) : signs (a ++ b) = (signs a && signs b) := by simp [signs]
theorem signs_cons (a : UInt8) (b : List UInt8) : signs (a :: b) = (signB (a.toNat : Int) && signs b) := by simp [signs]
theorem split_at (s : ByteArray) (pos : Nat) (h : pos < s.size) : s.data.toList = s.data.toList.take pos ++ s[pos] :: s.data.toList.drop (pos + 1) := by
 have h' : pos < s.data.toList.length := by simpa using h
 conv => lhs; rw [← List.take_append_drop pos s.data.toList]
 rw [List.drop_eq_getElem_cons h']; rfl
theorem take_snoc (s : ByteArray) (k : Nat) (h : k < s.size) : s.data.toList.take (k + 1) = s.data.toList.take k ++ [s[k]] := by
 rw [List.take_succ_eq_append_getElem (by simpa using h)]; rfl
theorem decode_sign (s : ByteArray) (pos : Nat) (h : pos < s.size) (hs : signB ((Utf8.decode s pos).1 : Int) = true) : Utf8.decode s pos = ((s[pos]'h).toNat, 1) := by
 by_cases ha : (s[pos]'h).toNat < 128
 · exact decode_ascii s pos h ha
 · have := (decode_high s pos h (by omega)).1
   have := signB_lt hs
   omega
theorem okTo_step (s : ByteArray) (pos : Nat) (h : pos < s.size) (ho : okTo s pos) (hs : signB ((Utf8.decode s pos).1 : Int) = true) : okTo s (pos + (Utf8.decode s pos).2) := by
 have e := decode_sign s pos h hs
 rw [e] at hs ⊢
 refine ⟨by simp; omega, ?_⟩
 show signs (List.take (pos + 1) _) = true
 rw [take_snoc s pos h, signs_append, ho.2, signs_cons, hs]; simp [signs]
theorem nameL_bad (s : ByteArray) (pos : Nat) (h : pos < s.size) (hs : signB ((Utf8.decode s pos).1 : Int) = false) : nameL s.data.toList = false := by
 have : signs s.data.toList = false := by
  rw [split_at s pos h, signs_append, signs_cons]
  have : signB ((s[pos]'h).toNat : Int) = false := by
   by_cases ha : (s[pos]'h).toNat < 128
   · rw [decode_ascii s pos h ha] at hs; exact hs
   · exact signB_f (by omega)
  rw [this]; simp
 simp [nameL, this]
theorem nameL_good (s : ByteArray) (pos : Nat) (h : ¬ pos < s.size) (ho : okTo s pos) (h1 : 1 ≤ s.size) (h2 : s.size ≤ 12) (h3 : s.toList ≠ [46]) (h4 : s.toList ≠ [46, 46]) : nameL s.data.toList = true := by
 have : s.data.toList.take pos = s.data.toList := List.take_of_length_le (by simp; omega)
 have h5 := ho.2
 rw [this] at h5
 rw [ByteArray.toList_eq] at h3 h4
 simp [nameL, h5, h3, h4, h1, h2]
theorem nameL_empty (s : ByteArray) (h : s.toList.isEmpty = true) : nameL s.data.toList = false := by
 rw [ByteArray.toList_eq] at h; simp at h; simp [nameL, h]
theorem nameL_long (s : ByteArray) (h : 12 < s.size) : nameL s.data.toList = false := by
 have : ¬ s.size ≤ 12 := by omega
 simp [nameL, this]
theorem nameL_dot (s : ByteArray) (h : s.toList = [46]) : nameL s.data.toList = false := by
 rw [ByteArray.toList_eq] at h; simp [nameL, h]
theorem nameL_dots (s : ByteArray) (h : (s.toList == [46, 46]) = true) : nameL s.data.toList = false := by
 have h := beq_iff_eq.1 h
 rw [ByteArray.toList_eq] at h; simp [nameL, h]
theorem size_pos_of (s : ByteArray) (h : s.toList.isEmpty = false) : 1 ≤ s.size := by
 rw [ByteArray.toList_eq] at h; 
 rcases Nat.eq_zero_or_pos s.size with h0 | h0
 · have : s.data.toList = [] := by apply List.eq_nil_of_length_eq_zero; simpa using h0
   rw [this] at h; simp at h
 · exact h0
theorem name_any (s : ByteArray) (w : World) :
 Calls Tryz.prog 185 #[.string s] w fun e w' => e = .returned (.bool (nameL s.data.toList)) ∧ Below w.heap.size w w' := by
 go_enter Tryz.func185, Tryz.ntmps185
 go_wp2_with fail
 · go_ret; exact ⟨ret_bool (nameL_empty s ‹_›).symm, Below.refl _ _⟩
 · go_ret; exact ⟨ret_bool (nameL_long s (by omega)).symm, Below.refl _ _⟩
 · go_ret; exact ⟨ret_bool (nameL_dot s ‹_›).symm, Below.refl _ _⟩
 · go_ret; exact ⟨ret_bool (nameL_dots s ‹_›).symm, Below.refl _ _⟩
 · have h1 := size_pos_of s ‹_›
   go_loopw [] (fun w' => ∃ (pos : Nat), w' = w.iter s pos ∧ okTo s pos) (fun w' => s.size - w'.iterPos w.heap.size)
   case atStart => exact ⟨0, rfl, okTo_zero s⟩
   case round =>
    obtain ⟨pos, rfl, ho⟩ := hrel
    by_cases hp : pos < s.size
    · have hnx : ∀ ty, (Instr.next (.pointer (some ⟨w.heap.size, 0, none⟩)) true ty).run Tryz.prog (w.iter s pos) = _ := fun ty => run_next_any w s pos ty hp
      have hwd := width_pos s pos hp
      cases hs : signB ((Utf8.decode s pos).1 : Int)
      · go_wp2_with (go_at_call 212; refine (sign_any _ _).mono ?_; rintro e w' ⟨rfl, rfl⟩)
        go_ret
        exact ⟨ret_bool (nameL_bad s pos hp hs).symm, (Below.refl _ _).alloc (Nat.le_refl _) _⟩
      · go_wp2_with (go_at_call 212; refine (sign_any _ _).mono ?_; rintro e w' ⟨rfl, rfl⟩)
        go_roundw
        case rel => exact ⟨_, rfl, okTo_step s pos hp ho hs⟩
        case measure => simp; omega
    · have hnx : ∀ ty, (Instr.next (.pointer (some ⟨w.heap.size, 0, none⟩)) true ty).run Tryz.prog (w.iter s pos) = _ := fun ty => run_next_end w s pos ty hp
      go_wp2
      go_ret
      exact ⟨ret_bool (nameL_good s pos hp ho h1 (by omega) ‹_› (by simpa using ‹(s.toList == [46, 46]) = false›)).symm, (Below.refl _ _).alloc (Nat.le_refl _) _⟩
end Go.Proofs.YtefpllpichhojaaGreatDoor
namespace Go.Proofs.YtefpllpichhojaaGreatDoor
def pathL (l : List UInt8) : Option (List (List UInt8)) :=
 if l = [47] then some []
 else if 40 < l.length ∨ l.head? ≠ some 47 then none
 else if 5 < (splitOn 47 l.tail).length then none
 else if (splitOn 47 l.tail).all nameL then some (splitOn 47 l.tail) else none
theorem pathL_root : pathL [47] = some [] := by simp [pathL]
theorem pathL_long {l : List UInt8} (h : 40 < l.length) : pathL l = none := by
 have h1 : l ≠ [47] := fun e => by rw [e] at h; simp at h
 simp [pathL, h1, h]
theorem pathL_head {l : List UInt8} (h1 : l ≠ [47]) (h : l.head? ≠ some 47) : pathL l = none := by
 simp [pathL, h1, h]
theorem pathL_many {l : List UInt8} (h1 : l ≠ [47]) (h : 5 < (splitOn 47 l.tail).length) : pathL l = none := by
 simp only [pathL, if_neg h1, if_pos h]; split <;> rfl
theorem pathL_bad {l : List UInt8} (h1 : l ≠ [47]) (h : (splitOn 47 l.tail).all nameL = false) : pathL l = none := by
 simp only [pathL, if_neg h1, h]; split
 · rfl
 · split <;> rfl
theorem pathL_good {l : List UInt8} (h1 : l ≠ [47]) (h2 : l.length ≤ 40) (h3 : l.head? = some 47) (h4 : (splitOn 47 l.tail).length ≤ 5) (h5 : (splitOn 47 l.tail).all nameL = true) :
 pathL l = some (splitOn 47 l.tail) := by
 unfold pathL; rw [if_neg h1, if_neg (by simp [h3]; omega), if_neg (by omega), if_pos h5]
theorem all_getD {L : List (List UInt8)} {k : Nat} (hk : k < L.length) (h : nameL (L.getD k []) = false) : L.all nameL = false := by
 rw [List.all_eq_false]
 exact ⟨L.getD k [], by simp [hk], by rw [h]; simp⟩
theorem all_take_step {L : List (List UInt8)} {k : Nat} (hk : k < L.length) (h0 : (L.take k).all nameL = true) (h : nameL (L.getD k []) = true) : (L.take (k + 1)).all nameL = true := by
 rw [List.take_succ_eq_append_getElem hk, List.all_append, h0]
 simp at h ⊢
 simpa [hk] using h
theorem signs_no47 {l : List UInt8} (h : signs l = true) : (47 : UInt8) ∉ l := by
 intro hm
 have := (List.all_eq_true.1 h) 47 hm
 exact absurd this (by decide)
theorem nameL_no47 {l : List UInt8} (h : nameL l = true) : (47 : UInt8) ∉ l := by
 unfold nameL at h; simp only [Bool.and_eq_true] at h; exact signs_no47 h.2
theorem pathL_facts {l : List UInt8} {L : List (List UInt8)} (h : pathL l = some L) :
 L.length ≤ 5 ∧ L.all nameL = true ∧ l.length ≤ 40 ∧ (l = [47] ∧ L = [] ∨ l ≠ [47] ∧ L ≠ [] ∧ glue 47 L = l ∧ L = splitOn 47 l.tail) := by
 unfold pathL at h
 split at h
 · rename_i h1; cases h; subst h1; exact ⟨by simp, by simp, by simp, Or.inl ⟨rfl, rfl⟩⟩
 · rename_i h1
   split at h
   · cases h
   · rename_i h2
     split at h
     · cases h
     · rename_i h3
       split at h
       · rename_i h4
         have h := Option.some.inj h
         subst h
         have h2' := not_or.1 h2
         refine ⟨by omega, h4, by omega, Or.inr ⟨h1, splitOn_ne _ _, ?_, rfl⟩⟩
         rw [glue_splitOn]
         have h5 : l.head? = some 47 := by simpa using h2'.2
         cases l with
         | nil => cases h5
         | cons x r => simp at h5; subst h5; rfl
       · cases h
theorem glue_take_len (c : UInt8) (L : List (List UInt8)) (k : Nat) : (glue c (L.take k)).length ≤ (glue c L).length := by
 conv => rhs; rw [← List.take_append_drop k L]
 rw [glue_append, List.length_append]; omega
def joinP (L : List (List UInt8)) : List UInt8 := if L = [] then [47] else glue 47 L
theorem joinP_cons (p : List UInt8) (L) : joinP (p :: L) = glue 47 (p :: L) := by simp [joinP]
theorem joinP_len (L : List (List UInt8)) : (joinP L).length ≤ (glue 47 L).length + 1 := by
 unfold joinP; split
 · simp
 · omega
theorem joinP_pathL {l : List UInt8} {L : List (List UInt8)} (h : pathL l = some L) : joinP L = l := by
 rcases (pathL_facts h).2.2.2 with ⟨h1, h2⟩ | ⟨_, h2, h3, _⟩
 · rw [h1, h2]; rfl
 · unfold joinP; rw [if_neg h2]; exact h3
end Go.Proofs.YtefpllpichhojaaGreatDoor
