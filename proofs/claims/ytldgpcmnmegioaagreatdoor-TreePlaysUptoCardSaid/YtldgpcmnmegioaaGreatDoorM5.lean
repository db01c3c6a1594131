/- Several texts of mine, one behind the other: TreeRead, TreeList, TreeLoose, TreeAt, Rec, Bytes, RunAny, TreeReap, TreeRef, TreeLike. -/
import Derived.Test.YtldgpcmnmegioaaGreatDoorM2
import Derived.Test.YtldgpcmnmegioaaGreatDoorCloneY
import Derived.Test.YtldgpcmnmegioaaGreatDoorTreeFileM
import Derived.Test.YtldgpcmnmegioaaGreatDoorM3
import Derived.Shelf.SlIter.Nil
import Derived.Shelf.SortM.Plain
import Derived.Shelf.SortM.SortNone
import Derived.Shelf.AbstractIn
import Derived.Test.YtldgpcmnmegioaaGreatDoorTreeUsed
import Derived.Test.YtldgpcmnmegioaaGreatDoorRuns
import Derived.Sort.OwnSortedInts
import Derived.Shelf.SlicesE.Clone
import Derived.Deep.AppendLies
import Derived.Test.YtldgpcmnmegioaaGreatDoorTreeNew
import Derived.Test.YtldgpcmnmegioaaGreatDoorTreeDo
import Derived.BigQuiet
import Derived.Deep.QuietTactic
import Derived.Test.YtldgpcmnmegioaaGreatDoorMapKeys
import Derived.Maps.AppendAt
import Derived.Test.YtldgpcmnmegioaaGreatDoorTreeOnce
namespace Go.Proofs.YtldgpcmnmegioaaGreatDoor
open Go.RowKit
section
variable {base tb mb N L : Nat} {T : TreeD} {A : Int → NodeA}
/-- What Read answers: what is wrong, or bytes. -/
def ReadI (T : TreeD) (i : Int) (w : World) (e : Ending) (w' : World) : Prop :=
  (if i = 0 then e = .returned (.tuple #[.slice none 0 0, .int .i64 8])
   else if (T.node i).dir = true then e = .returned (.tuple #[.slice none 0 0, .int .i64 10])
   else ∃ a c, e = .returned (.tuple #[.slice a (T.node i).data.length c, .int .i64 0]) ∧ (T.node i).data.length ≤ c ∧ DataM w' a (T.node i).data) ∧ Ext w w'
set_option maxRecDepth 100000 in
set_option maxHeartbeats 3200000 in
theorem tree_Read (p : By) (w : World) (hE : Env w) (hT : TreeM w base tb mb N T A) (hg : GoodT T) (hf : FitT T L) (hL : L ≤ 1000000000) :
    Calls Tryz.prog 21 #[.pointer (some ⟨tb, 0, none⟩), .string (bs p)] w (ReadI T (findT T p) w) := by
  obtain ⟨R, hR⟩ : ∃ R, R = ReadI T (findT T p) w := ⟨_, rfl⟩
  rw [← hR]
  have hnx := hf.next
  have hfind := tree_find p w hE hT hg (by omega)
  have hmem := hg.find_mem (p := p)
  generalize findT T p = i at hR hfind hmem
  have HR := Lib.hid hR; clear hR
  have HFIND := Lib.hid hfind; clear hfind hE
  by_cases hz : i = 0
  · subst hz
    clear hmem hT hg hf
    go_enter Tryz.func21, Tryz.ntmps21
    go_wp2_with (go_at_call 32; refine HFIND.out.mono ?_; rintro e w1 ⟨rfl, hx⟩; have HX := Lib.hid hx; clear hx)
    rw [HR.out]
    unfold ReadI
    rw [if_pos rfl]
    exact ⟨rfl, HX.out⟩
  · have hm := hmem hz
    have hlow := hg.low i hm
    have hdl := hf.data i hm
    have HM := Lib.hid hm
    have HT := Lib.hid hT
    clear hmem hm hT hg hf
    cases hd : (T.node i).dir with
    | true =>
      have HD := Lib.hid hd; clear hd
      go_enter Tryz.func21, Tryz.ntmps21
      go_wp2_with (go_at_call 32; refine HFIND.out.mono ?_; rintro e w1 ⟨rfl, hx⟩; have c1 := blk_cell (HT.out.ext hx).top 0 (Value.map (some mb)) rfl; have hlk := (HT.out.ext hx).look HM.out (by omega) (by omega); have c2 := blk_cell ((HT.out.ext hx).node i HM.out).1 0 (Value.bool (T.node i).dir) rfl; rw [HD.out] at c2; have HX := Lib.hid hx; clear hx)
      rw [HR.out]
      unfold ReadI
      rw [if_neg hz, if_pos HD.out]
      exact ⟨rfl, HX.out⟩
    | false =>
      have HD := Lib.hid hd; clear hd
      go_enter Tryz.func21, Tryz.ntmps21
      go_wp2_with (first
        | (go_at_call 32; refine HFIND.out.mono ?_; rintro e w1 ⟨rfl, hx⟩; have c1 := blk_cell (HT.out.ext hx).top 0 (Value.map (some mb)) rfl; have hlk := (HT.out.ext hx).look HM.out (by omega) (by omega); have c2 := blk_cell ((HT.out.ext hx).node i HM.out).1 0 (Value.bool (T.node i).dir) rfl; rw [HD.out] at c2; have c4 := blk_cell ((HT.out.ext hx).node i HM.out).1 2 (Value.slice (A i).da (T.node i).data.length (A i).dc) rfl; have HB := Lib.hid ((HT.out.ext hx).node i HM.out).2.1.bytes; have HX := Lib.hid hx; clear hx)
        | (go_at_call 51; refine (clone_y (A i).da (A i).dc (T.node i).data _ HB.out (by omega)).mono ?_; rintro e w2 ⟨ca, cc, rfl, hcc, hdm, _, hx⟩; have HDM := Lib.hid hdm; have HX2 := Lib.hid hx; clear hdm hx))
      rw [HR.out]
      unfold ReadI
      rw [if_neg hz, if_neg (by rw [HD.out]; simp)]
      exact ⟨⟨ca, cc, rfl, hcc, HDM.out⟩, HX.out.trans HX2.out⟩
end
end Go.Proofs.YtldgpcmnmegioaaGreatDoor
namespace Go.Proofs.YtldgpcmnmegioaaGreatDoor
open Go.RowKit Go.Maps Go.Sort Go.Shelf
theorem sorts_namesT (m : Nat) : AnyZ.SortsIn Tryz.prog Tryz.sorted_string_ren Fence.wide m :=
  ⟨fun blk off cap ss W hH hblk hsz => callsIn_wide.2 (AnyM.slices_Sort_string Tryz.sort_string blk off cap ss W hH hblk hsz),
   fun p cap W => callsIn_wide.2 (AnyM.slices_Sort_string_none Tryz.sort_string p cap W)⟩
/-- A directory's names, in order. -/
def NamesK (k : By → Option Int) (ss : List By) : Prop := ss.Pairwise (fun x y => x ≤ y) ∧ ss.Nodup ∧ ∀ x, x ∈ ss ↔ (k x).isSome = true
section
variable {base tb mb N L : Nat} {T : TreeD} {A : Int → NodeA}
/-- What List answers. -/
def ListI (T : TreeD) (i : Int) (w : World) (e : Ending) (w' : World) : Prop :=
  (if i = 0 then e = .returned (.tuple #[.slice none 0 0, .int .i64 8])
   else if (T.node i).dir = true then ∃ a c ss, e = .returned (.tuple #[.slice a ss.length c, .int .i64 0]) ∧ ss.length ≤ c ∧ NamesK (T.node i).kids ss ∧ Strs w' a ss
   else e = .returned (.tuple #[.slice none 0 0, .int .i64 11])) ∧ Ext w w'
set_option maxRecDepth 100000 in
set_option maxHeartbeats 3200000 in
theorem tree_List (p : By) (w : World) (hE : Env w) (hT : TreeM w base tb mb N T A) (hg : GoodT T) (hf : FitT T L) (hL : L ≤ 1000000000) (hN : N ≤ 1000000000) :
    Calls Tryz.prog 22 #[.pointer (some ⟨tb, 0, none⟩), .string (bs p)] w (ListI T (findT T p) w) := by
  obtain ⟨R, hR⟩ : ∃ R, R = ListI T (findT T p) w := ⟨_, rfl⟩
  rw [← hR]
  have hnx := hf.next
  have hfind := tree_find p w hE hT hg (by omega)
  have hmem := hg.find_mem (p := p)
  generalize findT T p = i at hR hfind hmem
  have HR := Lib.hid hR; clear hR
  have HFIND := Lib.hid hfind; clear hfind hE
  by_cases hz : i = 0
  · subst hz
    clear hmem hT hg hf
    go_enter Tryz.func22, Tryz.ntmps22
    go_wp2_with (go_at_call 32; refine HFIND.out.mono ?_; rintro e w1 ⟨rfl, hx⟩; have HX := Lib.hid hx; clear hx)
    rw [HR.out]
    unfold ListI
    rw [if_pos rfl]
    exact ⟨rfl, HX.out⟩
  · have hm := hmem hz
    have hlow := hg.low i hm
    have HM := Lib.hid hm
    have HT := Lib.hid hT
    clear hmem hm hT hg hf
    cases hd : (T.node i).dir with
    | false =>
      have HD := Lib.hid hd; clear hd
      go_enter Tryz.func22, Tryz.ntmps22
      go_wp2_with (go_at_call 32; refine HFIND.out.mono ?_; rintro e w1 ⟨rfl, hx⟩; have c1 := blk_cell (HT.out.ext hx).top 0 (Value.map (some mb)) rfl; have hlk := (HT.out.ext hx).look HM.out (by omega) (by omega); have c2 := blk_cell ((HT.out.ext hx).node i HM.out).1 0 (Value.bool (T.node i).dir) rfl; rw [HD.out] at c2; have HX := Lib.hid hx; clear hx)
      rw [HR.out]
      unfold ListI
      rw [if_neg hz, if_neg (by rw [HD.out]; simp)]
      exact ⟨rfl, HX.out⟩
    | true =>
      have HD := Lib.hid hd; clear hd
      obtain ⟨b, hb, hm, _⟩ := HT.out.kidmap HM.out HD.out
      have HKB := Lib.hid hb; clear hb
      refine (callsIn_wide (n := 6)).1 ?_
      have cK : ∀ mb W, CallsIn Fence.wide 5 Tryz.prog 53 #[.map mb] W fun e w' => e = .returned (.func (.func 65) #[] #[.pointer (some ⟨W.heap.size, 0, none⟩)]) ∧ w' = W.alloc (.cells #[.map mb] 69) := fun mb W => AnyZ.keys_in Tryz.keys_int Fence.wide 5 trivial rfl mb W
      have hfF : Fence.wide.fn 32 := trivial
      have hfK : Fence.wide.fn 53 := trivial
      have hfS : Fence.wide.fn 52 := trivial
      refine callsIn_of_wp Tryz.func22 rfl trivial ?_ rfl
      simp only [Tryz.ntmps22, List.size_toArray, List.length_cons, List.length_nil, Nat.reduceAdd, Nat.reduceSub, Array.replicate_succ, Array.replicate_zero, List.push_toArray, List.append_toArray, List.nil_append, List.cons_append]
      gi_wp2_with (first
        | (gi_at_call 32; refine (callsIn_wide.2 HFIND.out).mono ?_; rintro e w1 ⟨rfl, hx⟩; have c1 := blk_cell (HT.out.ext hx).top 0 (Value.map (some mb)) rfl; have hlk := (HT.out.ext hx).look HM.out (by omega) (by omega); have c2 := blk_cell ((HT.out.ext hx).node i HM.out).1 0 (Value.bool (T.node i).dir) rfl; rw [HD.out] at c2; have c3 := blk_cell ((HT.out.ext hx).node i HM.out).1 3 (Value.map (A i).kb) rfl; rw [HKB.out] at c3; have HX := Lib.hid hx; clear hx)
        | (gi_at_call 53; refine (cK _ _).mono ?_; rintro e w' ⟨rfl, rfl⟩)
        | (gi_at_call 52; refine Hid.out ?_))
      refine Lib.hid ?_
      obtain ⟨D, h1, h2, h3⟩ := hm.ext HX.out
      have hsz := h1.size_le
      have hbl := h1.lt
      have hseq : SeqGives Fence.wide 2 Tryz.prog 65 #[.pointer (some ⟨w1.heap.size, 0, none⟩)] encStr (fun ss => ss.Perm (strKeys D)) (Maps.size D) (w1.alloc (.cells #[.map (some b)] 69)) :=
        AnyZ.keys_gives (ρ := Tryz.keys_int_ren) { Tryz.keys_int with } Fence.wide _ trivial rfl (by omega) w1.heap.size b N D _ (by simp) (by simp) (by
          obtain ⟨es, clock, hb, Ft, hs, hD⟩ := h1
          exact ⟨es, clock, (Below.heap_alloc _ _ b hbl).trans hb, Ft, hs, hD⟩)
      have cS := AnyZ.sorted_in Tryz.sorted_string Fence.wide 5 trivial trivial trivial trivial rfl (by omega) (sorts_namesT _) (enters_of Tryz.func64 (by kernel_rfl) rfl) 65 #[.pointer (some ⟨w1.heap.size, 0, none⟩)] trivial (enters_of Tryz.func65 (by kernel_rfl) rfl) _ _ (by unfold maxLen; omega) (by omega) _ hseq
      change CallsIn _ _ Tryz.prog 52 _ _ _ at cS
      refine cS.mono ?_
      rintro e w' ⟨v, ss, rfl, hS, hrow, hnil, hb⟩
      have hrow' := ownsRow_base_a (base' := w1.heap.size) hrow (by simp)
      have hbb : Ext w1 w' := ((Below.refl _ w1).alloc (Nat.le_refl _) _).trans (hb.mono (by simp))
      obtain ⟨g1, g2, g3⟩ := sorted_names h1 (f := kidsF (T.node i).kids) (fun x => (h3 x).2) hS
      have hl : (ss.mergeSort leB).length = ss.length := (List.mergeSort_perm ss leB).length_eq
      have hv : ∃ a c, v = .slice a ss.length c := by
        rcases hrow'.2 with ⟨q1, q2⟩ | ⟨g, c, cur, q1, _⟩
        · exact ⟨none, 0, by rw [q1, q2]⟩
        · exact ⟨_, c, q1⟩
      obtain ⟨a, c, rfl⟩ := hv
      have hO : OwnS w' w1.heap.size a c (ss.mergeSort leB) := by
        unfold OwnS
        rw [hl]
        exact hrow'
      have HO := Lib.hid hO
      have HNK : Hid (NamesK (T.node i).kids (ss.mergeSort leB)) := Lib.hid ⟨g1, g2, fun x => by
        rw [g3 x]
        unfold kidsF
        cases (T.node i).kids x <;> simp⟩
      have HBB := Lib.hid hbb
      have HLN := Lib.hid hl
      clear h1 h2 h3 hsz hbl hseq cS hS hrow hnil hb hrow' g1 g2 g3 hO hbb hl cK
      gi_wp2_with fail
      rw [HR.out]
      unfold ListI
      rw [if_neg hz, if_pos HD.out]
      refine ⟨⟨a, c, ss.mergeSort leB, ?_, ?_, HNK.out, ?_⟩, HX.out.trans HBB.out⟩
      · rw [HLN.out]; rfl
      · exact HO.out.strs.2
      · exact HO.out.strs.1
end
end Go.Proofs.YtldgpcmnmegioaaGreatDoor
namespace Go.Proofs.YtldgpcmnmegioaaGreatDoor
open Go.RowKit Go.Sort Go.Shelf
def intV (X : List Int) : List Value := X.map (Value.int .i64)
theorem intV_one (X : List Int) : ∀ u ∈ intV X, u.oneCell' = true := by
  intro u hu
  obtain ⟨b, _, rfl⟩ := List.mem_map.1 hu
  rfl
/-- Numbers in a row of the call's own. -/
def OwnIs (w : World) (base : Nat) (a : Option Addr) (cap : Nat) (X : List Int) : Prop := w.ownsRow base 3 1 (.slice a X.length cap) X.length (intV X)
theorem OwnIs.none (w : World) (base : Nat) : OwnIs w base none 0 [] := World.ownsRow_nil _ _ _ _
theorem sort_ints (base : Nat) (a : Option Addr) (c : Nat) (X : List Int) (w : World) (hO : OwnIs w base a c X) (hb : base ≤ w.heap.size) (hl : X.length ≤ 1099511627776) :
    Calls Tryz.prog 54 #[.slice a X.length c] w fun e w' => e = .returned (.tuple #[]) ∧ OwnIs w' base a c (X.mergeSort fun x y => decide (x ≤ y)) ∧ Below base w w' := by
  have hl2 : (X.mergeSort fun x y => decide (x ≤ y)).length = X.length := (List.mergeSort_perm X _).length_eq
  rcases hO.2 with ⟨h1, h2⟩ | ⟨g, c', cur, h1, hbg, hg, hn, hm, hs, ht⟩
  · have h0 : X = [] := List.eq_nil_of_length_eq_zero h2
    subst h0
    refine (AnyM.slices_Sort_int_none Tryz.sort_int a c w).mono ?_
    rintro e w' ⟨he, hw⟩
    subst hw
    exact ⟨he, by simpa using hO, Below.refl _ _⟩
  · obtain ⟨rfl, rfl⟩ : a = some ⟨g, 0, none⟩ ∧ c = c' := by cases h1; exact ⟨rfl, rfl⟩
    have hgl : g < w.heap.size := (Array.getElem?_eq_some_iff.1 hg).1
    rw [Nat.mul_one] at ht
    refine (AnyM.slices_Sort_int Tryz.sort_int g 0 c X w (holds_of_blockI hg ht) hgl (by omega)).mono ?_
    rintro e w' ⟨he, n, os, hw⟩
    subst hw
    refine ⟨he, ?_, (Below.refl base w).grown (grownBy_sortedI _) hb (fun k hk => by cases hk; exact hbg)⟩
    unfold OwnIs
    rw [hl2]
    exact ownsRow_sortedI hl2 hbg hg hn hm hs
theorem info_intL : (Tryz.prog.info? 3).map (fun i => (i.zero, i.size, i.bytes)) = some (some (.int .i64 0), 1, 8) := by kernel_rfl
theorem one_plain {w : World} {g : Nat} {v : Value} {t : TypeId} (h : w.heap[g]? = some (.cells #[v] t (0, 0))) : ∀ j u, [v][j]? = some u → w.cell? ((⟨g, 0, none⟩ : Addr).add j) = some u := by
  intro j u hj
  have : j = 0 := by
    have := (List.getElem?_eq_some_iff.1 hj).1
    simpa using this
  subst this
  have e : (⟨g, 0, none⟩ : Addr).add 0 = ⟨g, 0, none⟩ := rfl
  rw [e]
  exact blk_cell h 0 u hj
section
variable {base tb mb N L : Nat} {T : TreeD} {A : Int → NodeA}
def isLoose (T : TreeD) (i : Int) : Bool := decide ((T.node i).links = 0)
set_option maxRecDepth 100000 in
set_option maxHeartbeats 6400000 in
theorem tree_Loose (w : World) (hT : TreeM w base tb mb N T A) (hg : GoodT T) (hf : FitT T L) (hL : L ≤ 1000000000) :
    Calls Tryz.prog 23 #[.pointer (some ⟨tb, 0, none⟩)] w fun e w' => ∃ a c, e = .returned (.slice a (looseT T).length c) ∧ OwnIs w' w.heap.size a c (looseT T) ∧ Ext w w' := by
  obtain ⟨R, hR⟩ : ∃ R : Ending → World → Prop, R = fun e w' => ∃ a c, e = .returned (.slice a (looseT T).length c) ∧ OwnIs w' w.heap.size a c (looseT T) ∧ Ext w w' := ⟨_, rfl⟩
  rw [← hR]
  have HR := Lib.hid hR; clear hR
  have c1 := blk_cell hT.top 0 (Value.map (some mb)) rfl
  have HT := Lib.hid hT; clear hT
  have HG := Lib.hid hg; clear hg
  have HF := Lib.hid hf; clear hf
  obtain ⟨i0, hi, hz, hsz, hby⟩ := info_parts info_intL
  have HI := Lib.hid hi; clear hi
  have HZ := Lib.hid hz; clear hz
  have HS := Lib.hid hsz; clear hsz
  have HBY := Lib.hid hby; clear hby
  go_enter Tryz.func23, Tryz.ntmps23
  go_wp2_with (first
    | (at_range; refine wpList_range_F rfl _ 72 rfl 68 int_keyedA Tryz.underlying72 mb N (nodeF T A) rfl HT.out.map ?_; intro w0 c0 hg0 hx0 hs0)
    | go_in)
  go_frame
  have hml := HT.out.map.lt
  obtain ⟨r, hr⟩ : ∃ r, r = w.heap.size := ⟨_, rfl⟩
  rw [← hr] at hg0 hml ⊢
  have hrw : w.heap.size ≤ r := by rw [hr]; exact Nat.le_refl _
  have HR0 := Lib.hid hr; clear hr
  have hs1 : w0.heap.size = r + 1 := by have := HR0.out; omega
  obtain ⟨S, hS⟩ : ∃ S, S = w0.heap.size := ⟨_, rfl⟩
  have hSr : S = r + 1 := by omega
  have HX0 := Lib.hid hx0
  have HG0 := Lib.hid hg0
  have HO0 := Lib.hid (OwnIs.none w0 S)
  have HSZ : Hid (S ≤ w0.heap.size) := Lib.hid (by rw [hS]; exact Nat.le_refl _)
  clear hx0 hg0 hs0 c1 hs1 hS
  go_loopw [3] (fun v wr => ∃ (left : Int → Bool) (cnt : Nat) (X : List Int) (a : Option Addr) (c : Nat), v = .slice a X.length c ∧ X.length ≤ L ∧ Hid (MapG keyI wr 3 mb r N (nodeF T A) left cnt) ∧ Hid (X.Perm ((seenT T.ids left).filter (isLoose T))) ∧ Hid (OwnIs wr S a c X) ∧ Hid (Ext w wr) ∧ Hid (S ≤ wr.heap.size)) (fun _ wr => wr.rangeLeft mb r)
  case atStart =>
    refine ⟨_, c0, [], none, 0, rfl, Nat.zero_le _, HG0, Lib.hid ?_, HO0, HX0, HSZ⟩
    rw [seen_none (fun x hx => (nodeF_ids T A x).1 hx)]
    exact List.Perm.refl _
  case round =>
    clear HG0 HX0 HO0 HSZ
    obtain ⟨left, cnt, X, a, c, rfl, hXL, hg, hp, hO, hX, hSw⟩ := hrel
    have HGC := Lib.hid hg.out.count
    go_wp2_with (first
      | (at_next; refine wpList_next_F rfl _ rfl int_keyedA (fun x => .int .i64 x) keyI_inj inv_int mb r N (nodeF T A) left cnt rfl hg.out ?_ ?_)
      | go_in)
    rotate_left
    · intro x v w1' cnt1 hkey hlp hfp hg1 hlt1 hk1 hs1 hen
      obtain ⟨hxm, rfl⟩ := nodeF_some hfp
      have hx1' : Ext w w1' := ((Keep.of_ext (S := fun j => j < w.heap.size) hX.out).andThen hk1 (fun j hj _ => by show j ≠ r; omega)).ext_lt
      have c2 := blk_cell ((HT.out.ext hx1').node x hxm).1 1 (Value.int .i64 (T.node x).links) rfl
      obtain ⟨im, is, iq, ic, hir⟩ := hg.out.iterL
      have hO1 : OwnIs w1' S a c X := ownsRow_keep hO.out hk1 (fun g cur _ _ h3 => by show g ≠ r; intro e; rw [e, hir] at h3; cases h3)
      have hnew := seen_filter HG.out.nodup hxm hlp (isLoose T) hp.out
      have hlen : ((seenT T.ids fun z => left z && !decide (z = x)).filter (isLoose T)).length ≤ L := Nat.le_trans (List.length_filter_le _ _) (Nat.le_trans seen_len HF.out.count)
      rw [← hnew.length_eq] at hlen
      have HNEW := Lib.hid hnew; clear hnew
      have HG1 := Lib.hid hg1
      have HX1' := Lib.hid hx1'
      have HLT1 := Lib.hid hlt1
      have HO1 := Lib.hid hO1
      have HSW : Hid (S ≤ w1'.heap.size) := Lib.hid (Nat.le_trans hSw.out hk1.size)
      clear hg1 hx1' hk1 hs1 hkey hlp hfp hlt1 hir hO1 hxm hp hO hg hX hSw
      by_cases h0 : (T.node x).links = 0
      · have hil : isLoose T x = true := by unfold isLoose; rw [decide_eq_true_eq]; exact h0
        have HIL := Lib.hid hil; clear hil
        rw [HIL.out] at hlen
        simp only [if_true, List.length_append, List.length_cons, List.length_nil] at hlen
        rw [h0] at c2
        go_wp2_with (at_builtin; refine Hid.out ?_)
        refine Lib.hid ?_
        have hx2 := Ext.alloc w1' (.cells #[.int .i64 x] 3)
        have hb2 := heap_alloc_new w1' (.cells #[.int .i64 x] 3)
        have hs2 := World.size_alloc w1' (.cells #[.int .i64 x] 3)
        have HX2 := Lib.hid hx2
        have hO2 := ownsRow_keep HO1.out (Keep.of_ext (S := fun _ => True) hx2) (fun _ _ _ _ _ => trivial)
        have hSW := HSW.out
        refine wpList_append_own _ rfl _ _ 33 rfl S 3 i0 (.int .i64 0) 1 8 Tryz.underlying33 HI.out HZ.out HS.out HBY.out rfl (by decide) (.slice a X.length c) X.length (intV X) rfl hO2 ⟨w1'.heap.size, 0, none⟩ 1 1 [.int .i64 x] rfl rfl (one_plain hb2) (intV_one [x]) (by unfold maxLen; omega) (by omega) (by omega) ?_
        intro v' w3 hown hgrow hnil
        obtain ⟨a', c', rfl, hcc, _, _⟩ := run_of_row hown
        have hO3 : OwnIs w3 S a' c' (X ++ [x]) := by
          unfold OwnIs intV
          rw [List.length_append, List.map_append]
          exact hown
        have hob : ∀ g, (Value.slice a X.length c).ownBlock = some g → S ≤ g := fun g e => (World.ownsRow.lt hO2 g e).1
        have hg3 : MapG keyI w3 3 mb r N (nodeF T A) (fun z => left z && !decide (z = x)) cnt1 := (HG1.out.ext HX2.out).keep (Keep.of_grown hgrow) (fun e => by have := hob mb e.symm; omega) (fun e => by have := hob r e.symm; omega)
        have hx3 : Ext w w3 := ((Keep.of_ext (S := fun j => j < w.heap.size) (HX1'.out.trans HX2.out)).andThen (Keep.of_grown hgrow) (fun j hj _ e => by have := hob j e.symm; omega)).ext_lt
        have hn := HNEW.out
        rw [HIL.out, if_pos rfl] at hn
        have HO3 := Lib.hid hO3
        have HG3 := Lib.hid hg3
        have HX3 := Lib.hid hx3
        have HN := Lib.hid hn
        have HSW3 : Hid (S ≤ w3.heap.size) := Lib.hid (by have := hgrow.size; omega)
        clear hown hgrow hnil hO3 hob hg3 hx3 hn hO2 hb2 hs2 hx2 hSW
        go_wp2_with fail
        go_roundw
        case rel => exact ⟨_, cnt1, X ++ [x], a', c', by simp, by simpa using hlen, HG3, HN, HO3, HX3, HSW3⟩
        case measure =>
          rw [HG3.out.count, HGC.out]
          exact HLT1.out
      · have hil : isLoose T x = false := by unfold isLoose; rw [decide_eq_false_iff_not]; exact h0
        have hn := HNEW.out
        rw [hil, if_neg (by simp)] at hn
        have HN := Lib.hid hn; clear hn hil
        go_wp2_with fail
        go_roundw
        case rel => exact ⟨_, cnt1, X, a, c, rfl, hXL, HG1, HN, HO1, HX1', HSW⟩
        case measure =>
          rw [HG1.out.count, HGC.out]
          exact HLT1.out
    · intro hall
      have hp := hp.out
      rw [seen_all hall] at hp
      have hlo : X.mergeSort (fun x y => decide (x ≤ y)) = looseT T := by
        unfold looseT
        have h1 : ∀ a b c : Int, decide (a ≤ b) = true → decide (b ≤ c) = true → decide (a ≤ c) = true := fun a b c h1 h2 => by simp only [decide_eq_true_eq] at *; omega
        have h2 : ∀ a b : Int, (decide (a ≤ b) || decide (b ≤ a)) = true := fun a b => by simp only [Bool.or_eq_true, decide_eq_true_eq]; omega
        have s1 := List.pairwise_mergeSort h1 h2 X
        have s2 := List.pairwise_mergeSort h1 h2 (T.ids.filter fun i => decide ((T.node i).links = 0))
        exact ((List.mergeSort_perm X _).trans (hp.trans (List.mergeSort_perm _ _).symm)).eq_of_pairwise (fun a b _ _ k1 k2 => by simp only [decide_eq_true_eq] at k1 k2; omega) s1 s2
      have hll : (looseT T).length = X.length := by rw [← hlo]; exact (List.mergeSort_perm X _).length_eq
      have hst := sort_ints S a c X wr hO.out hSw.out (by omega)
      rw [hlo] at hst
      have HST := Lib.hid hst; clear hst
      have HLL := Lib.hid hll; clear hll hlo hp hall
      go_wp2_with (go_at_call 54; refine HST.out.mono ?_; rintro E w6 ⟨rfl, hO6, hb6⟩; have HO6 := Lib.hid hO6; have HB6 := Lib.hid hb6; clear hO6 hb6)
      rw [HR.out]
      refine ⟨a, c, by rw [HLL.out]; rfl, ownsRow_base_a HO6.out (by omega), ?_⟩
      exact ((Keep.of_ext (S := fun j => j < w.heap.size) hX.out).trans ((Keep.of_below HB6.out).mono (fun j _ (hj : j < w.heap.size) => by show j < S; omega))).ext_lt
end
end Go.Proofs.YtldgpcmnmegioaaGreatDoor
namespace Go.Proofs.YtldgpcmnmegioaaGreatDoor
open Go.RowKit
/-- A tree lies at an address. -/
def TreeAt (w : World) (base tb N : Nat) (T : TreeD) : Prop := GoodT T ∧ FitT T N ∧ ∃ mb A, TreeM w base tb mb N T A
section
variable {w w' : World} {base tb N : Nat} {T : TreeD}
theorem TreeAt.ext (h : TreeAt w base tb N T) (k : Ext w w') : TreeAt w' base tb N T := by
  obtain ⟨h1, h2, mb, A, h3⟩ := h
  exact ⟨h1, h2, mb, A, h3.ext k⟩
theorem TreeAt.low (h : TreeAt w base tb N T) : base ≤ tb ∧ tb < w.heap.size := by
  obtain ⟨h1, h2, mb, A, h3⟩ := h
  exact ⟨h3.low.1, (Array.getElem?_eq_some_iff.1 h3.top).1⟩
/-- Another tree is turned. -/
theorem TreeAt.other {ub M base' : Nat} {U : TreeD} (h : TreeAt w base tb N T) (hu : TreeAt w base' ub M U) (hne : tb ≠ ub) (k : Keep (· ≠ ub) w w') : TreeAt w' base tb N T := by
  obtain ⟨h1, h2, mb, A, h3⟩ := h
  obtain ⟨_, _, um, B, hu3⟩ := hu
  refine ⟨h1, h2, mb, A, h3.keep k (datas_cells hu3.top (by decide)) hne (h3.map_ne hu3.top) fun i hi => ⟨fun e => ?_, fun b hb => h3.kid_ne hi hb hu3.top⟩⟩
  have h4 := (h3.node i hi).1
  rw [e, hu3.top] at h4
  injection (Option.some.inj h4) with _ h5
  exact absurd h5 (by decide)
theorem ext_do {wa wb : World} (h : Ext w wa) (hb : w.heap.size ≤ tb) (k : Keep (· ≠ tb) wa wb) : Ext w wb :=
  ((Keep.of_ext (S := fun j => j < w.heap.size) h).andThen k (fun j hj _ => by show j ≠ tb; omega)).ext_lt
theorem at_New (q : Int) (w : World) : Calls Tryz.prog 7 #[.int .i64 q] w fun e w' => ∃ tb, e = .returned (.pointer (some ⟨tb, 0, none⟩)) ∧ TreeAt w' w.heap.size tb 2 (newT q) ∧ Ext w w' :=
  (tree_New q w).mono fun e w' ⟨tb, mb, A, he, hm, hx⟩ => ⟨tb, he, ⟨newT_good q, newT_fit q, mb, A, hm.mono (by omega)⟩, hx⟩
theorem at_Do (a : Option Addr) (c : Nat) (L : List (OpD × OpA)) (hE : Env w) (h : TreeAt w base tb N T) (hL : OpsL w a L) (hN : N + 2 * L.length ≤ 1000000000) :
    Calls Tryz.prog 12 #[.pointer (some ⟨tb, 0, none⟩), .slice a L.length c] w fun e w' => e = .returned (.int .i64 (doT T (L.map Prod.fst)).2) ∧ TreeAt w' base tb (N + 2 * L.length) (doT T (L.map Prod.fst)).1 ∧ Keep (· ≠ tb) w w' := by
  obtain ⟨h1, h2, mb, A, h3⟩ := h
  refine (tree_Do a c L w hE h3 h1 h2 (Nat.le_refl _) hN hL).mono ?_
  rintro e w' ⟨he, ⟨mb', A', hm⟩, hk⟩
  exact ⟨he, ⟨doT_good h1 _, (doT_fit h2 _).mono (by rw [List.length_map]; omega), mb', A', hm⟩, hk⟩
theorem at_Clone (h : TreeAt w base tb N T) (hN : N ≤ 1000000000) :
    Calls Tryz.prog 30 #[.pointer (some ⟨tb, 0, none⟩)] w fun e w' => ∃ ub, e = .returned (.pointer (some ⟨ub, 0, none⟩)) ∧ TreeAt w' w.heap.size ub N T ∧ Ext w w' := by
  obtain ⟨h1, h2, mb, A, h3⟩ := h
  refine (tree_Clone w h3 h1 h2 (Nat.le_refl _) hN).mono ?_
  rintro e w' ⟨ub, um, A', he, hm, hx⟩
  exact ⟨ub, he, ⟨h1, h2, um, A', hm⟩, hx⟩
theorem at_Find (p : By) (hE : Env w) (h : TreeAt w base tb N T) (hN : N ≤ 1000000000) :
    Calls Tryz.prog 13 #[.pointer (some ⟨tb, 0, none⟩), .string (bs p)] w fun e w' => e = .returned (.tuple #[.int .i64 (findT T p), .bool (decide (findT T p ≠ 0))]) ∧ Ext w w' := by
  obtain ⟨h1, h2, mb, A, h3⟩ := h
  exact tree_Find p w hE h3 h1 (by have := h2.next; omega)
theorem at_Dir (p : By) (hE : Env w) (h : TreeAt w base tb N T) (hN : N ≤ 1000000000) :
    Calls Tryz.prog 26 #[.pointer (some ⟨tb, 0, none⟩), .string (bs p)] w fun e w' => e = .returned (.bool (decide (findT T p ≠ 0) && (T.node (findT T p)).dir)) ∧ Ext w w' := by
  obtain ⟨h1, h2, mb, A, h3⟩ := h
  exact tree_Dir p w hE h3 h1 (by have := h2.next; omega)
theorem at_Read (p : By) (hE : Env w) (h : TreeAt w base tb N T) (hN : N ≤ 1000000000) :
    Calls Tryz.prog 21 #[.pointer (some ⟨tb, 0, none⟩), .string (bs p)] w (ReadI T (findT T p) w) := by
  obtain ⟨h1, h2, mb, A, h3⟩ := h
  exact tree_Read p w hE h3 h1 h2 hN
theorem at_List (p : By) (hE : Env w) (h : TreeAt w base tb N T) (hN : N ≤ 1000000000) :
    Calls Tryz.prog 22 #[.pointer (some ⟨tb, 0, none⟩), .string (bs p)] w (ListI T (findT T p) w) := by
  obtain ⟨h1, h2, mb, A, h3⟩ := h
  exact tree_List p w hE h3 h1 h2 hN hN
theorem at_Nodes (h : TreeAt w base tb N T) :
    Calls Tryz.prog 25 #[.pointer (some ⟨tb, 0, none⟩)] w fun e w' => e = .returned (.int .i64 T.ids.length) ∧ Ext w w' := by
  obtain ⟨h1, h2, mb, A, h3⟩ := h
  exact tree_Nodes w h3 h1.nodup
theorem at_Used (h : TreeAt w base tb N T) (hN : N ≤ 1000000000) :
    Calls Tryz.prog 24 #[.pointer (some ⟨tb, 0, none⟩)] w fun e w' => e = .returned (.int .i64 (usedT T)) ∧ Ext w w' := by
  obtain ⟨h1, h2, mb, A, h3⟩ := h
  exact tree_Used w h3 h1 h2 (by omega)
theorem at_Loose (h : TreeAt w base tb N T) (hN : N ≤ 1000000000) :
    Calls Tryz.prog 23 #[.pointer (some ⟨tb, 0, none⟩)] w fun e w' => ∃ a c, e = .returned (.slice a (looseT T).length c) ∧ OwnIs w' w.heap.size a c (looseT T) ∧ Ext w w' := by
  obtain ⟨h1, h2, mb, A, h3⟩ := h
  exact tree_Loose w h3 h1 h2 hN
end
/-- An operation as cells. -/
def opV (x : OpD × OpA) : List Value := [.int .i64 x.1.kind, .string (bs x.1.path), .string (bs x.1.dest), .slice x.2.oa x.1.data.length x.2.oc]
theorem ops_blk {w : World} {g : Nat} {L : List (OpD × OpA)} (hg : w.heap[g]? = some (.cells (L.flatMap opV).toArray 38 (0, 0))) (hb : ∀ x ∈ L, Bytes w x.2.oa x.1.data) : OpsL w (some ⟨g, 0, none⟩) L := by
  refine Or.inr ⟨g, 0, rfl, (Array.getElem?_eq_some_iff.1 hg).1, fun i hi => ?_⟩
  have eL : L.getD i oz = L[i] := by simp [List.getD_eq_getElem?_getD, List.getElem?_eq_getElem hi]
  rw [eL]
  have hcell : ∀ r u, r < 4 → (opV L[i])[r]? = some u → w.cell? ⟨g, 0 + i * 4 + r, none⟩ = some u := by
    intro r u hr hu
    refine blk_cell hg _ u ?_
    have := flat_at (F := opV) (m := 4) (fun _ => rfl) L i r hi hr
    rw [hu] at this
    rw [Nat.zero_add]
    simpa using this
  exact ⟨⟨hcell 0 _ (by omega) rfl, hcell 1 _ (by omega) rfl, hcell 2 _ (by omega) rfl, hcell 3 _ (by omega) rfl⟩, hb _ (List.getElem_mem hi)⟩
/-- Bytes in a block. -/
theorem bytes_blk {w : World} {g : Nat} {l : By} {t : TypeId} {fr : Nat × Nat} (hg : w.heap[g]? = some (.cells (byteV l).toArray t fr)) : Bytes w (some ⟨g, 0, none⟩) l := by
  refine Or.inr ⟨g, 0, rfl, (Array.getElem?_eq_some_iff.1 hg).1, fun i hi => ?_⟩
  rw [Nat.zero_add]
  have h : w.cell? ⟨g, i, none⟩ = (byteV l).toArray[i]? := by simp [World.cell?, hg]
  rw [h]
  simpa using byteV_at hi
end Go.Proofs.YtldgpcmnmegioaaGreatDoor
namespace Go.Proofs.YtldgpcmnmegioaaGreatDoor
open Go.RowKit
/-- A reader stands in this block, its bytes in blocks of a kind. -/
def Rd (S : Nat → Prop) (w : World) (R : Nat) (s : RSt) : Prop :=
  ∃ a c, w.heap[R]? = some (.cells #[.slice a s.1.length c, .bool s.2] 113 (0, 0)) ∧ s.1.length ≤ c ∧ BytesS S w a s.1
theorem Rd.lt {S : Nat → Prop} {w : World} {R : Nat} {s : RSt} (h : Rd S w R s) : R < w.heap.size := by
  obtain ⟨a, c, hg, _⟩ := h
  exact (Array.getElem?_eq_some_iff.1 hg).1
theorem cell_not {S : Nat → Prop} {w : World} {R : Nat} {s : RSt} (h : Rd S w R s) {g o : Nat} {v : Value} (hv : w.cell? ⟨g, o, none⟩ = some v) (h1 : ∀ a n c, v ≠ .slice a n c) (h2 : ∀ b, v ≠ .bool b) : g ≠ R := by
  rintro rfl
  obtain ⟨a, c, hg, _⟩ := h
  unfold World.cell? at hv
  simp only [hg] at hv
  match o, hv with
  | 0, hv => simp at hv; exact h1 _ _ _ hv.symm
  | 1, hv => simp at hv; exact h2 _ hv.symm
  | o + 2, hv => simp at hv
theorem Bytes.but {S : Nat → Prop} {w w' : World} {R : Nat} {s : RSt} {a : Option Addr} {l : List UInt8} (hR : Rd S w R s) (h : Bytes w a l) (k : But R w w') : Bytes w' a l := by
  rcases h with h | ⟨g, off, ha, hg, hc⟩
  · exact Or.inl h
  · refine Or.inr ⟨g, off, ha, Nat.lt_of_lt_of_le hg k.size, fun i hi => k.cell ?_ (hc i hi)⟩
    exact cell_not hR (hc i hi) (by intros; simp) (by intros; simp)
theorem BytesS.but {S T : Nat → Prop} {w w' : World} {R : Nat} {s : RSt} {a : Option Addr} {l : List UInt8} (hR : Rd S w R s) (h : BytesS T w a l) (k : But R w w') : BytesS T w' a l := by
  rcases h with h | ⟨g, off, ha, hg, hS, hc⟩
  · exact Or.inl h
  · refine Or.inr ⟨g, off, ha, Nat.lt_of_lt_of_le hg k.size, hS, fun i hi => ?_⟩
    have hi' : i < l.length := by simpa [byteV] using hi
    have h1 := hc i hi
    rw [byteV_at hi'] at h1 ⊢
    exact k.cell (cell_not hR h1 (by intros; simp) (by intros; simp)) h1
theorem Rd.but {S T : Nat → Prop} {w w' : World} {R Q : Nat} {s t : RSt} (hR : Rd S w R s) (h : Rd T w Q t) (k : But R w w') (hne : Q ≠ R) : Rd T w' Q t := by
  have hlt := h.lt
  obtain ⟨a, c, hg, hc, hb⟩ := h
  exact ⟨a, c, (k.block Q hlt hne).trans hg, hc, hb.but hR k⟩
theorem Rd.ext {S : Nat → Prop} {w w' : World} {Q : Nat} {t : RSt} (h : Rd S w Q t) (k : Ext w w') : Rd S w' Q t := by
  obtain ⟨a, c, hg, hc, hb⟩ := h
  exact ⟨a, c, k.heap hg, hc, Row.keep hb (Keep.of_ext k)⟩
theorem Rd.keep {S T : Nat → Prop} {w w' : World} {Q : Nat} {t : RSt} (h : Rd S w Q t) (k : Keep T w w') (hQ : T Q) (hS : ∀ g, g < w.heap.size → S g → T g) : Rd S w' Q t := by
  obtain ⟨a, c, hg, hc, hb⟩ := h
  refine ⟨a, c, k.heap hQ hg, hc, ?_⟩
  rcases hb with hb | ⟨g, off, ha, hlt, hSg, hcell⟩
  · exact Or.inl hb
  · refine Or.inr ⟨g, off, ha, Nat.lt_of_lt_of_le hlt k.size, hSg, fun i hi => ?_⟩
    have := hcell i hi
    rw [List.getElem?_eq_getElem hi] at this ⊢
    exact k.cell (hS g hlt hSg) this
theorem Rd.mono {S T : Nat → Prop} {w : World} {Q : Nat} {t : RSt} (h : Rd S w Q t) (hT : ∀ g, g < w.heap.size → S g → T g) : Rd T w Q t := by
  obtain ⟨a, c, hg, hc, hb⟩ := h
  exact ⟨a, c, hg, hc, Row.mono hb hT⟩
theorem rd_num_bad {S : Nat → Prop} {w : World} {R : Nat} {s : RSt} (h : Rd S w R s) : But R w ((w.setCell ⟨R, 1, none⟩ (.bool true)).setCell ⟨R, 0, none⟩ (.slice none 0 0)) ∧ Rd S ((w.setCell ⟨R, 1, none⟩ (.bool true)).setCell ⟨R, 0, none⟩ (.slice none 0 0)) R ([], true) := by
  obtain ⟨a, c, hg, hc, hb⟩ := h
  refine ⟨((But.refl R w).setCell 1 _).setCell 0 _, none, 0, ?_, Nat.le_refl _, Or.inl rfl⟩
  rw [setCell_row (setCell_row hg _)]
  rfl
theorem rd_cut {S : Nat → Prop} {w : World} {R g off c k : Nat} {s : RSt} {a' : Option Addr} {c' : Nat} (hg : w.heap[R]? = some (.cells #[.slice (some ⟨g, off, none⟩) s.1.length c, .bool s.2] 113 (0, 0))) (hc : s.1.length ≤ c) (hb : BytesS S w (some ⟨g, off, none⟩) s.1) (hk : k ≤ s.1.length)
    (ha : s.1.length = k ∨ a' = some ⟨g, off + k, none⟩) (hc' : s.1.length - k ≤ c') :
    But R w (w.setCell ⟨R, 0, none⟩ (.slice a' (s.1.length - k) c')) ∧ Rd S (w.setCell ⟨R, 0, none⟩ (.slice a' (s.1.length - k) c')) R (s.1.drop k, s.2) := by
  have hB : But R w (w.setCell ⟨R, 0, none⟩ (.slice a' (s.1.length - k) c')) := (But.refl R w).setCell 0 _
  have hR : Rd S w R s := ⟨_, _, hg, hc, hb⟩
  refine ⟨hB, a', c', ?_, by simpa using hc', ?_⟩
  · rw [setCell_row hg]; simp
  · rcases ha with h | rfl
    · left; simp [byteV, h]
    · have hb2 := hb.but hR hB
      rcases hb2 with h | ⟨g', off', ha, hlt, hSg, hcell⟩
      · left
        have : s.1 = [] := by simpa [byteV] using h
        simp [byteV, this]
      · have ha := Option.some.inj ha
        obtain ⟨rfl, rfl⟩ : g = g' ∧ off = off' := by constructor <;> (cases ha; rfl)
        right
        refine ⟨g, off + k, rfl, hlt, hSg, fun i hi => ?_⟩
        have hi' : k + i < s.1.length := by simp [byteV] at hi; omega
        have := hcell (k + i) (by simpa [byteV] using hi')
        rw [← Nat.add_assoc] at this
        rw [this]
        simp [byteV, List.getElem?_drop]
theorem rd_facts {w : World} {R : Nat} {v0 v1 : Value} {t : TypeId} (hg : w.heap[R]? = some (.cells #[v0, v1] t (0, 0))) :
    w.cell? ⟨R, 0, none⟩ = some v0 ∧ w.cell? ⟨R, 1, none⟩ = some v1 ∧ w.frozen? ⟨R, 0, none⟩ = false ∧ w.frozen? ⟨R, 1, none⟩ = false := by
  refine ⟨?_, ?_, ?_, ?_⟩
  · unfold World.cell?; simp only [hg]; simp
  · unfold World.cell?; simp only [hg]; simp
  · unfold World.frozen?; simp only [hg]; simp
  · unfold World.frozen?; simp only [hg]; simp
end Go.Proofs.YtldgpcmnmegioaaGreatDoor
namespace Go.Proofs.YtldgpcmnmegioaaGreatDoor
open Go.RowKit
theorem run_append_tx {P : Program} {t tx ty e e' : TypeId} (ht : P.underlying t = some (.slice e)) (htx : P.underlying tx = some (.slice e')) (v x : Value) (w : World) :
    (Builtin.append_ #[t, tx] ty #[v, x]).run P w = (Builtin.append_ #[t, t] ty #[v, x]).run P w := by
  cases v with
  | slice base n c =>
    unfold Builtin.append_
    cases hi : P.info? e with
    | none => simp [run_underlying ht, run_underlying htx, sizeOf, typeInfo, hi]
    | some i => simp [run_underlying ht, run_underlying htx, sizeOf, typeInfo, hi]
  | _ => simp [Builtin.append_, run_underlying ht]
/-- Bytes that the call has gathered so far. -/
def OwnB (w : World) (base : Nat) (a : Option Addr) (cap : Nat) (D : List UInt8) : Prop := w.ownsRow base 5 1 (.slice a D.length cap) D.length (D.map fun b => .int .u8 (b.toNat : Int))
theorem OwnB.bytes {w : World} {base : Nat} {a : Option Addr} {cap : Nat} {D : List UInt8} (h : OwnB w base a cap D) : Bytes w a D ∧ D.length ≤ cap := by
  rcases h.2 with ⟨h1, h2⟩ | ⟨g, c, cur, h1, _, hg, hn, _⟩
  · have : D = [] := List.eq_nil_of_length_eq_zero h2
    subst this; exact ⟨Or.inl rfl, Nat.zero_le _⟩
  · simp only [Value.slice.injEq] at h1
    obtain ⟨rfl, _, rfl⟩ := h1
    refine ⟨Or.inr ⟨g, 0, rfl, (Array.getElem?_eq_some_iff.1 hg).1, fun i hi => ?_⟩, hn⟩
    rw [Nat.zero_add, World.ownsRow.cellAt h i (by omega)]
    simp [hi, byteAt]
theorem ownsRow_row {w : World} {base e n : Nat} {a : Option Addr} {cap : Nat} {xs : List Value} (h : w.ownsRow base e 1 (.slice a n cap) n xs) : Row (fun _ => True) w a xs := by
  rcases h.2 with ⟨_, h2⟩ | ⟨g, c, cur, h1, _, hg, hn, _⟩
  · have := h.1
    exact Or.inl (List.eq_nil_of_length_eq_zero (by omega))
  · simp only [Value.slice.injEq] at h1
    obtain ⟨rfl, _, rfl⟩ := h1
    refine Or.inr ⟨g, 0, rfl, (Array.getElem?_eq_some_iff.1 hg).1, trivial, fun i hi => ?_⟩
    have hi' : i < n * 1 := by have := h.1; omega
    rw [Nat.zero_add, World.ownsRow.cellAt h i hi', List.getElem?_eq_getElem hi]
/-- Bytes that a call has just made lie in no older block. -/
theorem OwnB.fresh {w : World} {base : Nat} {a : Option Addr} {cap : Nat} {l : List UInt8} (h : OwnB w base a cap l) {S : Nat → Prop} (hS : ∀ k, base ≤ k → S k) : BytesS S w a l := by
  have hr := ownsRow_row h
  rcases hr with hr | ⟨g, off, ha, hg, _, hc⟩
  · exact Or.inl hr
  · refine Or.inr ⟨g, off, ha, hg, hS g ?_, hc⟩
    rcases h.2 with ⟨h1, h2⟩ | ⟨g', c, cur, h1, hb, _⟩
    · rw [ha] at h1; cases h1
    · rw [ha] at h1
      simp only [Value.slice.injEq, Option.some.injEq, Addr.mk.injEq] at h1
      rw [h1.1.1]; exact hb
theorem OwnB.base {w : World} {base b2 : Nat} {a : Option Addr} {cap : Nat} {D : List UInt8} (h : OwnB w base a cap D) (hb : b2 ≤ base) : OwnB w b2 a cap D :=
  ⟨h.1, h.2.imp id (fun ⟨g, c, cur, h1, h2, h3⟩ => ⟨g, c, cur, h1, Nat.le_trans hb h2, h3⟩)⟩
theorem OwnB.but_lt {w w' : World} {base R : Nat} {a : Option Addr} {cap : Nat} {D : List UInt8} (h : OwnB w base a cap D) (k : But R w w') (hR : R < base) : OwnB w' base a cap D :=
  ⟨h.1, h.2.imp id (fun ⟨g, c, cur, h1, h2, h3, h4⟩ => ⟨g, c, cur, h1, h2, (k.block g (Array.getElem?_eq_some_iff.1 h3).1 (by omega)).trans h3, h4⟩)⟩
theorem OwnB.nil (w : World) (base : Nat) : OwnB w base none 0 [] := World.ownsRow_nil _ _ _ _
theorem OwnB.ext {w w' : World} {base : Nat} {a : Option Addr} {cap : Nat} {D : List UInt8} (h : OwnB w base a cap D) (k : Ext w w') : OwnB w' base a cap D := by
  refine ⟨h.1, ?_⟩
  rcases h.2 with h1 | ⟨g, c, cur, h1, hb, hg, r⟩
  · exact Or.inl h1
  · exact Or.inr ⟨g, c, cur, h1, hb, k.heap hg, r⟩
theorem info_byte : (Tryz.prog.info? 5).map (fun i => (i.zero, i.size, i.bytes)) = some (some (.int .u8 0), 1, 1) := by kernel_rfl
theorem run_append_of_nil {P : Program} (w : World) (base : Nat) (t ty e : TypeId) (i : TypeInfo) (size : Nat) (ht : P.underlying t = some (.slice e)) (hi : P.info? e = some i)
    (v : Value) (n : Nat) (xs : List Value) (hown : w.ownsRow base e size v n xs) (c : Nat) : (Builtin.append_ #[t, t] ty #[v, .slice none 0 c]).run P w = .ok v w := by
  rcases hown.2 with ⟨rfl, rfl⟩ | ⟨g, cap, cur, rfl, _, _, hnc, _⟩
  · simp [Builtin.append_, run_underlying ht, sizeOf, typeInfo, hi, Builtin.lenOf, Builtin.firstCells]
  · simp [Builtin.append_, run_underlying ht, sizeOf, typeInfo, hi, Builtin.lenOf, Builtin.firstCells, hnc, storeCells]
/-- 'append(out, b...)'. -/
theorem append_bytes0 {w : World} {ops : Array Oper} {rest : List Oper} {o : Oper} {a : Act} {Q : Exit → Act → World → Prop} (hgd : o.guard = none) (s x : Operand) (tx : TypeId)
    (ho : o.op = .call { callee := .builtin .append, args := #[s, x], argTypes := #[36, tx] }) (htx : Tryz.prog.underlying tx = some (.slice 5))
    (base : Nat) (ad : Option Addr) (cap : Nat) (D p : List UInt8) (hs : a.eval s = .slice ad D.length cap) (hown : OwnB w base ad cap D)
    (b : Option Addr) (c : Nat) (hx : a.eval x = .slice b p.length c) (hb : Bytes w b p)
    (h63 : D.length + p.length ≤ 1099511627776) (hbase : base ≤ w.heap.size)
    (h : ∀ ad' cap' w', OwnB w' base ad' cap' (D ++ p) → Below base w w' →
      wpList Tryz.prog ops Q rest (a.put o.dst (.slice ad' (D.length + p.length) cap')) w') :
    wpList Tryz.prog ops Q (o :: rest) a w := by
  obtain ⟨i, hi0, hz, hsz, hby⟩ := info_parts info_byte
  cases b with
  | none =>
    have hp : p = [] := by
      rcases hb with hb | ⟨g, off, ha, _⟩
      · exact hb
      · cases ha
    subst hp
    refine wpList_plain hgd fun K hK => ?_
    have hr := run_append_of_nil (P := Tryz.prog) w base 36 o.type 5 i 1 Tryz.underlying36 hi0 _ D.length _ hown c
    have hr2 := (run_append_tx (ty := o.type) Tryz.underlying36 htx (.slice ad D.length cap) (.slice none 0 c) w).trans hr
    unfold Oper.wp execOp
    simp only [ho, resolve, invoke, builtin, Sem.run_bind, Sem.run_pure, Result.andThen_ok, List.map_toArray, List.map_cons, List.map_nil, hs, hx, List.length_nil, hr2]
    refine hK _ _ ?_
    have := h ad cap w (by rw [List.append_nil]; exact hown) (Below.refl _ _)
    simpa using this
  | some bd =>
    refine wpList_plain hgd fun K hK => ?_
    have hcells : ∀ j u, (p.map fun b => Value.int .u8 (b.toNat : Int))[j]? = some u → w.cell? (bd.add j) = some u := by
      intro j u hj
      rcases hb with hb | ⟨g, off, ha, _, hc⟩
      · subst hb; simp at hj
      · have ha := Option.some.inj ha
        subst ha
        have hj' : j < p.length := by
          have := (List.getElem?_eq_some_iff.1 hj).1
          simpa using this
        have e : (⟨g, off, none⟩ : Addr).add j = ⟨g, off + j, none⟩ := by
          unfold Addr.add; split
          · rename_i h0; subst h0; rfl
          · rfl
        rw [e, hc j hj']
        simp [hj'] at hj
        rw [← hj]; simp [byteAt, hj']
    obtain ⟨v', w', hr, h2, h3, h4⟩ := run_append_own (P := Tryz.prog) w base 36 o.type 5 i (.int .u8 0) 1 1 Tryz.underlying36 hi0 hz hsz hby rfl (by decide) _ D.length _ hown bd p.length c _ (by simp) hcells
      (by intro u hu; simp at hu; obtain ⟨b, _, rfl⟩ := hu; rfl) (by unfold maxLen; omega) (by omega) hbase
    have hr2 := (run_append_tx (ty := o.type) Tryz.underlying36 htx (.slice ad D.length cap) (.slice (some bd) p.length c) w).trans hr
    have hbel : Below base w w' := (Below.refl _ _).grown h3 hbase (fun k hk => (World.ownsRow.lt hown k hk).1)
    unfold Oper.wp execOp
    simp only [ho, resolve, invoke, builtin, Sem.run_bind, Sem.run_pure, Result.andThen_ok, List.map_toArray, List.map_cons, List.map_nil, hs, hx, hr2]
    refine hK _ _ ?_
    rcases h2.2 with ⟨h5, h6⟩ | ⟨g, cap', cur, rfl, hg1, hg2, hg3, hg4⟩
    · subst h5
      have hD : D = [] := List.eq_nil_of_length_eq_zero (by omega)
      have hp : p = [] := List.eq_nil_of_length_eq_zero (by omega)
      subst hD hp
      exact h none 0 w' (OwnB.nil _ _) hbel
    · refine h (some ⟨g, 0, none⟩) cap' w' ?_ hbel
      unfold OwnB
      rw [List.length_append, List.map_append]
      exact h2
/-- The same, with the lengths by names. -/
theorem append_bytes {w : World} {ops : Array Oper} {rest : List Oper} {o : Oper} {a : Act} {Q : Exit → Act → World → Prop} (hgd : o.guard = none) (s x : Operand) (tx : TypeId)
    (ho : o.op = .call { callee := .builtin .append, args := #[s, x], argTypes := #[36, tx] }) (htx : Tryz.prog.underlying tx = some (.slice 5))
    (base : Nat) (ad : Option Addr) (cap : Nat) (D p : List UInt8) (k m : Nat) (hk : D.length = k) (hm : p.length = m) (hs : a.eval s = .slice ad k cap) (hown : OwnB w base ad cap D)
    (b : Option Addr) (c : Nat) (hx : a.eval x = .slice b m c) (hb : Bytes w b p)
    (h63 : k + m ≤ 1099511627776) (hbase : base ≤ w.heap.size)
    (h : ∀ ad' cap' w', OwnB w' base ad' cap' (D ++ p) → Below base w w' →
      wpList Tryz.prog ops Q rest (a.put o.dst (.slice ad' (k + m) cap')) w') :
    wpList Tryz.prog ops Q (o :: rest) a w := by
  subst hk hm
  exact append_bytes0 hgd s x tx ho htx base ad cap D p hs hown b c hx hb h63 hbase h
end Go.Proofs.YtldgpcmnmegioaaGreatDoor
namespace Go.Proofs.YtldgpcmnmegioaaGreatDoor
open Go.RowKit
theorem runM_of {α : Type} {F : α → List Value} {m : Nat} (hm : ∀ x, (F x).length = m) (hp : 0 < m) {w : World} {g off : Nat} (hg : g < w.heap.size) {L : List α}
    (h : ∀ i (hi : i < L.length) r u, (F L[i])[r]? = some u → w.cell? ⟨g, off + i * m + r, none⟩ = some u) : RunM w (some ⟨g, off, none⟩) (L.flatMap F) := by
  refine Or.inr ⟨g, off, rfl, hg, fun j u hj => ?_⟩
  have hjl := (List.getElem?_eq_some_iff.1 hj).1
  rw [flat_lenm hm] at hjl
  have hi : j / m < L.length := Nat.div_lt_of_lt_mul (by rw [Nat.mul_comm]; exact hjl)
  have e := flat_at hm L (j / m) (j % m) hi (Nat.mod_lt _ hp)
  have ej : j / m * m + j % m = j := Nat.div_add_mod' j m
  rw [ej, hj] at e
  have := h (j / m) hi (j % m) u e.symm
  rwa [show off + j / m * m + j % m = off + j by omega] at this
theorem of_runM {α : Type} {F : α → List Value} {m : Nat} (hm : ∀ x, (F x).length = m) (hp : 0 < m) {w : World} {a : Option Addr} {L : List α} (h : RunM w a (L.flatMap F)) :
    L = [] ∨ ∃ g off, a = some ⟨g, off, none⟩ ∧ g < w.heap.size ∧ ∀ i (hi : i < L.length) r u, r < m → (F L[i])[r]? = some u → w.cell? ⟨g, off + i * m + r, none⟩ = some u := by
  rcases h with h | ⟨g, off, ha, hg, hc⟩
  · left
    have := flat_lenm hm L
    rw [h] at this
    have h0 : L.length * m = 0 := this.symm
    rcases Nat.mul_eq_zero.1 h0 with h1 | h1
    · exact List.eq_nil_of_length_eq_zero h1
    · omega
  · refine Or.inr ⟨g, off, ha, hg, fun i hi r u hr hu => ?_⟩
    have := hc (i * m + r) u (by rw [flat_at hm L i r hi hr]; exact hu)
    rwa [← Nat.add_assoc] at this
theorem row_apart {w : World} {base E size n : Nat} {v : Value} {xs : List Value} (h : w.ownsRow base E size v n xs) {k : Nat} {cur : Array Value} {E' : TypeId} {fr : Nat × Nat} (hk : w.heap[k]? = some (.cells cur E' fr)) (hE : E ≠ E') : some k ≠ v.ownBlock := by
  intro e
  rcases h.2 with ⟨h1, _⟩ | ⟨g, c, cur', h1, _, hg, _⟩
  · rw [h1] at e; cases e
  · rw [h1] at e
    have e' : k = g := Option.some.inj e
    subst e'
    rw [hg] at hk
    injection (Option.some.inj hk) with _ h2
    exact hE h2
/-- A row that was made with nothing in it. -/
theorem row_zero {w : World} {base E size g : Nat} (hg : w.heap[g]? = some (.cells #[] E (0, 0))) (hb : base ≤ g) : w.ownsRow base E size (.slice (some ⟨g, 0, none⟩) 0 0) 0 [] :=
  ⟨by simp, Or.inr ⟨g, 0, #[], rfl, hb, hg, Nat.le_refl _, Nat.zero_le _, by simp, by simp⟩⟩
theorem run_blk {w : World} {g : Nat} {us : List Value} {t : TypeId} (h : w.heap[g]? = some (.cells us.toArray t (0, 0))) : RunM w (some ⟨g, 0, none⟩) us :=
  Or.inr ⟨g, 0, rfl, (Array.getElem?_eq_some_iff.1 h).1, fun j u hj => by rw [Nat.zero_add]; exact blk_cell h j u (by simpa using hj)⟩
theorem addr_plus (g off n : Nat) : (⟨g, off, none⟩ : Addr).add n = ⟨g, off + n, none⟩ := by
  unfold Addr.add; split
  · rename_i h; rw [h, Nat.add_zero]
  · rfl
section
variable {ops : Array Oper} {o : Oper} {a : Act} {Q : Exit → Act → World → Prop} {W : World}
theorem wp_append_any {P : Program} {K : Act → World → Prop} (s x : Operand) (T E : TypeId) (z : Value) (size bytes : Nat)
    (ho : o.op = .call { callee := .builtin .append, args := #[s, x], argTypes := #[T, T] }) (hT : P.underlying T = some (.slice E)) (hi : (P.info? E).map (fun i => (i.zero, i.size, i.bytes)) = some (some z, size, bytes)) (hz1 : z.cells.size = size) (hsz : 0 < size)
    (base : Nat) (ad : Option Addr) (n cap : Nat) (xs : List Value) (hs : a.eval s = .slice ad n cap) (hown : W.ownsRow base E size (.slice ad n cap) n xs)
    (b : Option Addr) (m c : Nat) (ys : List Value) (hx : a.eval x = .slice b m c) (hm : ys.length = m * size) (hb : RunM W b ys) (h1 : ∀ u ∈ ys, u.oneCell' = true)
    (h63 : (n + m) * bytes ≤ 140737488355328) (hby : 0 < bytes) (hbase : base ≤ W.heap.size) (t : Nat) (ht : n + m = t)
    (h : ∀ ad' cap' w', w'.ownsRow base E size (.slice ad' t cap') t (xs ++ ys) → Keep (fun k => some k ≠ (Value.slice ad n cap).ownBlock) W w' → Below base W w' → K (a.put o.dst (.slice ad' t cap')) w') : o.wp P a W K Q := by
  obtain ⟨i, hi0, hz, hs1, hb1⟩ := info_parts hi
  subst ht
  have hmax : n + m ≤ maxLen := by
    have : n + m ≤ (n + m) * bytes := Nat.le_mul_of_pos_right _ hby
    unfold maxLen; omega
  cases b with
  | none =>
    have hp : ys = [] := by
      rcases hb with hb | ⟨g, off, ha, _⟩
      · exact hb
      · cases ha
    subst hp
    have hm0 : m = 0 := by
      rcases Nat.mul_eq_zero.1 hm.symm with h | h
      · exact h
      · omega
    subst hm0
    have hr := run_append_of_nil (P := P) W base T o.type E i size hT hi0 _ n _ hown c
    unfold Oper.wp execOp
    simp only [ho, resolve, invoke, builtin, Sem.run_bind, Sem.run_pure, Result.andThen_ok, List.map_toArray, List.map_cons, List.map_nil, hs, hx, hr]
    have := h ad cap W (by simpa using hown) (Keep.refl _ _) (Below.refl _ _)
    rw [Nat.add_zero] at this
    exact this
  | some bd =>
    have hcells : ∀ j u, ys[j]? = some u → W.cell? (bd.add j) = some u := by
      intro j u hj
      rcases hb with hb | ⟨g, off, ha, _, hc⟩
      · subst hb; simp at hj
      · have ha := Option.some.inj ha
        subst ha
        rw [addr_plus]
        exact hc j u hj
    obtain ⟨v', w', hr, h2, h3, h4⟩ := run_append_own (P := P) W base T o.type E i z size bytes hT hi0 hz hs1 hb1 hz1 hsz _ n _ hown bd m c ys hm hcells h1 hmax h63 hbase
    have hbel : Below base W w' := (Below.refl _ _).grown h3 hbase (fun k hk => (World.ownsRow.lt hown k hk).1)
    unfold Oper.wp execOp
    simp only [ho, resolve, invoke, builtin, Sem.run_bind, Sem.run_pure, Result.andThen_ok, List.map_toArray, List.map_cons, List.map_nil, hs, hx, hr]
    obtain ⟨a', c', rfl, _, _, _⟩ := run_of_row h2
    exact h a' c' w' h2 (Keep.of_grown h3) hbel
theorem wpList_append_any {P : Program} {rest : List Oper} (hgd : o.guard = none) (s x : Operand) (T E : TypeId) (z : Value) (size bytes : Nat)
    (ho : o.op = .call { callee := .builtin .append, args := #[s, x], argTypes := #[T, T] }) (hT : P.underlying T = some (.slice E)) (hi : (P.info? E).map (fun i => (i.zero, i.size, i.bytes)) = some (some z, size, bytes)) (hz1 : z.cells.size = size) (hsz : 0 < size)
    (base : Nat) (ad : Option Addr) (n cap : Nat) (xs : List Value) (hs : a.eval s = .slice ad n cap) (hown : W.ownsRow base E size (.slice ad n cap) n xs)
    (b : Option Addr) (m c : Nat) (ys : List Value) (hx : a.eval x = .slice b m c) (hm : ys.length = m * size) (hb : RunM W b ys) (h1 : ∀ u ∈ ys, u.oneCell' = true)
    (h63 : (n + m) * bytes ≤ 140737488355328) (hby : 0 < bytes) (hbase : base ≤ W.heap.size) (t : Nat) (ht : n + m = t)
    (h : ∀ ad' cap' w', w'.ownsRow base E size (.slice ad' t cap') t (xs ++ ys) → Keep (fun k => some k ≠ (Value.slice ad n cap).ownBlock) W w' → Below base W w' → wpList P ops Q rest (a.put o.dst (.slice ad' t cap')) w') : wpList P ops Q (o :: rest) a W := by
  refine wpList_plain hgd fun K hK => ?_
  exact wp_append_any s x T E z size bytes ho hT hi hz1 hsz base ad n cap xs hs hown b m c ys hx hm hb h1 h63 hby hbase t ht (fun ad' cap' w' k1 k2 k3 => hK _ _ (h ad' cap' w' k1 k2 k3))
theorem step_append_any {P : Program} {K : Act → World → Prop} {E' : Prop} (hgd : o.guard = none) (s x : Operand) (T E : TypeId) (z : Value) (size bytes : Nat)
    (ho : o.op = .call { callee := .builtin .append, args := #[s, x], argTypes := #[T, T] }) (hT : P.underlying T = some (.slice E)) (hi : (P.info? E).map (fun i => (i.zero, i.size, i.bytes)) = some (some z, size, bytes)) (hz1 : z.cells.size = size) (hsz : 0 < size)
    (base : Nat) (ad : Option Addr) (n cap : Nat) (xs : List Value) (hs : a.eval s = .slice ad n cap) (hown : W.ownsRow base E size (.slice ad n cap) n xs)
    (b : Option Addr) (m c : Nat) (ys : List Value) (hx : a.eval x = .slice b m c) (hm : ys.length = m * size) (hb : RunM W b ys) (h1 : ∀ u ∈ ys, u.oneCell' = true)
    (h63 : (n + m) * bytes ≤ 140737488355328) (hby : 0 < bytes) (hbase : base ≤ W.heap.size) (t : Nat) (ht : n + m = t)
    (h : ∀ ad' cap' w', w'.ownsRow base E size (.slice ad' t cap') t (xs ++ ys) → Keep (fun k => some k ≠ (Value.slice ad n cap).ownBlock) W w' → Below base W w' → K (a.put o.dst (.slice ad' t cap')) w') :
    if Region.wanted o (yielded ops a.tmps) = true then Oper.wp P o a W K Q else E' := by
  have hw : Region.wanted o (yielded ops a.tmps) = true := by simp [Region.wanted, hgd]
  rw [if_pos hw]
  exact wp_append_any s x T E z size bytes ho hT hi hz1 hsz base ad n cap xs hs hown b m c ys hx hm hb h1 h63 hby hbase t ht h
end
theorem runM_keep {S : Nat → Prop} {w w' : World} {a : Option Addr} {us : List Value} (h : RunM w a us) (k : Keep S w w') (hS : ∀ ad, a = some ad → S ad.block) : RunM w' a us := by
  rcases h with h | ⟨g, off, ha, hg, hc⟩
  · exact Or.inl h
  · exact Or.inr ⟨g, off, ha, Nat.lt_of_lt_of_le hg k.size, fun j u hj => k.cell (hS _ ha) (hc j u hj)⟩
theorem set2f {w : World} {R : Nat} {t : TypeId} {a0 a1 : Value} (hg : w.heap[R]? = some (.cells #[a0, a1] t (0, 0))) (v0 v1 : Value) :
    ((w.setCell ⟨R, 0, none⟩ v0).setCell ⟨R, 1, none⟩ v1).heap[R]? = some (.cells #[v0, v1] t (0, 0)) ∧ But R w ((w.setCell ⟨R, 0, none⟩ v0).setCell ⟨R, 1, none⟩ v1) :=
  ⟨setCell_row (setCell_row hg v0) v1, ((But.refl R w).setCell 0 _).setCell 1 _⟩
theorem apart_types {w : World} {k l : Nat} {cur cur' : Array Value} {E E' : TypeId} {fr fr' : Nat × Nat} (h : w.heap[k]? = some (.cells cur E fr)) (h' : w.heap[l]? = some (.cells cur' E' fr')) (hE : E ≠ E') : k ≠ l := by
  intro e
  subst e
  rw [h'] at h
  injection (Option.some.inj h) with _ h2
  exact hE h2.symm
end Go.Proofs.YtldgpcmnmegioaaGreatDoor
namespace Go.Proofs.YtldgpcmnmegioaaGreatDoor
open Go.RowKit
open Classical in
noncomputable def reapT (T : TreeD) (i : Int) : TreeD := if i ∈ T.ids ∧ (T.node i).links = 0 then delT T i else T
noncomputable def reapsT (T : TreeD) (X : List Int) : TreeD := X.foldl reapT T
theorem reapsT_take (T : TreeD) {X : List Int} {k : Nat} (hk : k < X.length) : reapsT T (X.take (k + 1)) = reapT (reapsT T (X.take k)) (X.getD k 0) := by
  unfold reapsT
  rw [List.take_succ_eq_append_getElem hk, List.foldl_append]
  simp [List.getD_eq_getElem?_getD, List.getElem?_eq_getElem hk]
theorem blk_of_cell {w : World} {g o : Nat} {v : Value} (h : w.cell? ⟨g, o, none⟩ = some v) : ∃ cs t fr, w.heap[g]? = some (.cells cs t fr) := by
  unfold World.cell? at h
  cases hg : w.heap[g]? with
  | none => simp [hg] at h
  | some ob =>
    cases ob with
    | cells cs t fr => exact ⟨cs, t, fr, rfl⟩
    | _ => simp [hg] at h
theorem runM_keepm {b : Nat} {w w' : World} {a : Option Addr} {us : List Value} (h : RunM w a us) (k : Keep (· ≠ b) w w') {es : Array MapEntry} {cl : Nat} (hb : w.heap[b]? = some (.map es cl)) : RunM w' a us := by
  rcases h with h | ⟨g, off, ha, hg, hc⟩
  · exact Or.inl h
  · cases us with
    | nil => exact Or.inl rfl
    | cons u us =>
      obtain ⟨cs, t, fr, hgc⟩ := blk_of_cell (hc 0 u rfl)
      have hne : g ≠ b := fun e => by rw [e, hb] at hgc; cases hgc
      exact Or.inr ⟨g, off, ha, Nat.lt_of_lt_of_le hg k.size, fun j u hj => k.cell hne (hc j u hj)⟩
theorem getD_memI {X : List Int} {k : Nat} (hk : k < X.length) : X.getD k 0 ∈ X := by
  have e : X.getD k 0 = X[k] := by simp [List.getD_eq_getElem?_getD, List.getElem?_eq_getElem hk]
  rw [e]; exact List.getElem_mem hk
theorem int_bne0 {a : Int} (h : a ≠ 0) : (a == 0) = false := by simp [h]
section
variable {base tb mb N L : Nat} {T : TreeD} {A : Int → NodeA}
theorem TreeM.look_none {w : World} (h : TreeM w base tb mb N T A) {i : Int} (hi : i ∉ T.ids) (h1 : -9223372036854775808 ≤ i) (h2 : i ≤ 9223372036854775807) :
    (Instr.lookup 72 (.map (some mb)) (.int .i64 i) false).run Tryz.prog w = .ok (.pointer none) w := by
  rw [h.map.lookup int_keyedA Tryz.underlying72 (Tryz.zeroValue68 w) (key_int h1 h2)]
  unfold nodeF
  rw [if_neg hi]
  rfl
set_option maxRecDepth 100000 in
set_option maxHeartbeats 6400000 in
theorem tree_Reap (X : List Int) (ra : Option Addr) (rc : Nat) (w : World) (hT : TreeM w base tb mb N T A) (hX : RunM w ra (intV X)) (hr : ∀ x ∈ X, -9223372036854775808 ≤ x ∧ x ≤ 9223372036854775807) (hl : X.length ≤ 1099511627776) :
    Calls Tryz.prog 15 #[.pointer (some ⟨tb, 0, none⟩), .slice ra X.length rc] w fun e w' => e = .returned (.tuple #[]) ∧ TreeM w' base tb mb N (reapsT T X) A ∧ Keep (· ≠ mb) w w' := by
  obtain ⟨R, hR⟩ : ∃ R : Ending → World → Prop, R = fun e w' => e = .returned (.tuple #[]) ∧ TreeM w' base tb mb N (reapsT T X) A ∧ Keep (· ≠ mb) w w' := ⟨_, rfl⟩
  rw [← hR]
  have HR := Lib.hid hR; clear hR
  have HT := Lib.hid hT; clear hT
  have HXM := Lib.hid hX; clear hX
  have HRG := Lib.hid hr; clear hr
  obtain ⟨n, hn⟩ : ∃ n, n = X.length := ⟨_, rfl⟩
  rw [← hn] at hl ⊢
  have HN := Lib.hid hn; clear hn
  go_enter Tryz.func15, Tryz.ntmps15
  go_wp2_with fail
  go_loopw [9] (fun i wr => ∃ k : Nat, i = .int .i64 k ∧ k ≤ n ∧ Hid (TreeM wr base tb mb N (reapsT T (X.take k)) A) ∧ Hid (RunM wr ra (intV X)) ∧ Hid (Keep (· ≠ mb) w wr)) (fun i _ => n - (intOf i).toNat)
  case atStart => exact ⟨0, rfl, Nat.zero_le _, HT, HXM, Lib.hid (Keep.refl _ _)⟩
  case round =>
    clear HT HXM
    obtain ⟨k, rfl, hk, HT, HXM, HK⟩ := hrel
    by_cases hlt : k < n
    · have hkL : k < X.length := by have := HN.out; omega
      have hst := reapsT_take T hkL
      have hxr := HRG.out _ (getD_memI hkL)
      have HST := Lib.hid hst; clear hst
      have hce : ∃ g off, ra = some ⟨g, off, none⟩ ∧ wr.cell? ⟨g, off + k, none⟩ = some (.int .i64 (X.getD k 0)) := by
        rcases HXM.out with h | ⟨g, off, ha, _, hc⟩
        · have : X = [] := by unfold intV at h; simpa using h
          rw [this] at hkL; simp at hkL
        · refine ⟨g, off, ha, hc k _ ?_⟩
          unfold intV
          rw [List.getElem?_map, List.getElem?_eq_getElem hkL]
          simp [List.getD_eq_getElem?_getD, List.getElem?_eq_getElem hkL]
      obtain ⟨g, off, rfl, c0⟩ := hce
      generalize X.getD k 0 = x at c0 hxr HST
      generalize reapsT T (X.take k) = U at HT HST
      have c1 := blk_cell HT.out.top 0 (Value.map (some mb)) rfl
      by_cases hx : x ∈ U.ids
      · have hlk := HT.out.look hx hxr.1 hxr.2
        have c2 := blk_cell (HT.out.node x hx).1 1 (Value.int .i64 (U.node x).links) rfl
        have HXU := Lib.hid hx; clear hx
        by_cases h0 : (U.node x).links = 0
        · have hrp : reapT U x = delT U x := by unfold reapT; rw [if_pos ⟨HXU.out, h0⟩]
          have HRP := Lib.hid hrp; clear hrp
          rw [h0] at c2
          have hki := key_int hxr.1 hxr.2
          go_wp2_with (at_delete; refine wpList_delete_F rfl _ _ 72 rfl 68 int_keyedA Tryz.underlying72 mb N _ rfl HT.out.map keyI_inj _ x rfl hki ?_; intro w5 hm5 hk5; go_frame)
          have hT5 := HT.out.del x hk5 hm5
          obtain ⟨es, cl, hmb⟩ := HT.out.map.block
          have hX5 := runM_keepm HXM.out hk5 hmb
          have HT5 := Lib.hid hT5
          have HX5 := Lib.hid hX5
          have HK5 := Lib.hid (HK.out.andThen hk5 (fun j _ hj => hj))
          clear hm5 hk5 hT5 hX5 hmb
          go_roundw
          case rel => exact ⟨k + 1, by go_num, by omega, Lib.hid (by rw [HST.out, HRP.out]; exact HT5.out), HX5, HK5⟩
          case measure => simp [intOf]; omega
        · have hrp : reapT U x = U := by unfold reapT; rw [if_neg (fun e => h0 e.2)]
          have HRP := Lib.hid hrp; clear hrp
          have hb := int_bne0 h0
          go_wp2_with fail
          go_roundw
          case rel => exact ⟨k + 1, by go_num, by omega, Lib.hid (by rw [HST.out, HRP.out]; exact HT.out), HXM, HK⟩
          case measure => simp [intOf]; omega
      · have hlk := HT.out.look_none hx hxr.1 hxr.2
        have hrp : reapT U x = U := by unfold reapT; rw [if_neg (fun e => hx e.1)]
        have HRP := Lib.hid hrp; clear hrp hx
        go_wp2_with fail
        go_roundw
        case rel => exact ⟨k + 1, by go_num, by omega, Lib.hid (by rw [HST.out, HRP.out]; exact HT.out), HXM, HK⟩
        case measure => simp [intOf]; omega
    · have hXE : X.take k = X := List.take_of_length_le (by have := HN.out; omega)
      have HXE := Lib.hid hXE; clear hXE
      go_wp2_with fail
      go_end0
      rw [HR.out]
      refine ⟨rfl, ?_, HK.out⟩
      have := HT.out
      rwa [HXE.out] at this
end
end Go.Proofs.YtldgpcmnmegioaaGreatDoor
namespace Go.Proofs.YtldgpcmnmegioaaGreatDoor
structure EntD where
  path : By
  id : Int
  dir : Bool
structure FilD where
  id : Int
  data : By
structure RefD where
  list : List EntD
  files : List FilD
  next : Int
  quota : Int
def isP (p : By) (e : EntD) : Bool := decide (e.path = p)
def newM (q : Int) : RefD := ⟨[⟨[47], 1, true⟩], [], 2, max 0 q⟩
/-- What stands at a path. -/
def entM (m : RefD) (p : By) : Option EntD := m.list.find? (isP p)
/-- The error's number of a path that something is done to. -/
def placeM (m : RefD) (p : By) : Int := match upL p with
  | none => 14
  | some (l, _) => match entM m (joinP l) with
    | none => 8
    | some e => if e.dir = true then 0 else 11
def lessM (m : RefD) (p : By) : RefD := { m with list := m.list.eraseP (isP p) }
def moreM (m : RefD) (e : EntD) : RefD := { m with list := m.list ++ [e] }
/-- Does a path stand below another one? -/
def belowP (p s : By) : Bool := decide (p.length < s.length ∧ s.take (p.length + 1) = p ++ [47])
def wroteF (i : Int) (d : By) (f : FilD) : FilD := if f.id = i then ⟨i, d⟩ else f
def stepM (m : RefD) (o : OpD) : RefD × Int :=
  if o.kind < 0 ∨ 6 < o.kind then (m, 1)
  else if placeM m o.path ≠ 0 then (m, placeM m o.path)
  else if 3500 < o.data.length then (m, 6)
  else if o.kind = 0 ∨ o.kind = 2 then
    match entM m o.path with
    | some _ => (m, 9)
    | none => (⟨m.list ++ [⟨o.path, m.next, decide (o.kind = 0)⟩], if o.kind = 2 then m.files ++ [⟨m.next, o.data⟩] else m.files, m.next + 1, m.quota⟩, 0)
  else match entM m o.path with
  | none => (m, 8)
  | some x =>
    if o.kind = 1 then
      if x.dir = false then (m, 11)
      else if m.list.any (fun e => belowP o.path e.path) = true then (m, 12)
      else (lessM m o.path, 0)
    else if x.dir = true then (m, 10)
    else if o.kind = 3 then ({ m with files := m.files.map (wroteF x.id o.data) }, 0)
    else if o.kind = 6 then (lessM m o.path, 0)
    else if placeM m o.dest ≠ 0 then (m, placeM m o.dest)
    else match entM m o.dest with
      | some j =>
        if o.kind = 4 then (m, 9)
        else if j.dir = true then (m, 10)
        else if j.id = x.id then (m, 0)
        else (moreM (lessM (lessM m o.dest) o.path) ⟨o.dest, x.id, false⟩, 0)
      | none =>
        if o.kind = 4 then (moreM m ⟨o.dest, x.id, false⟩, 0)
        else (moreM (lessM m o.path) ⟨o.dest, x.id, false⟩, 0)
def countM (m : RefD) (i : Int) : Nat := m.list.countP fun e => decide (e.id = i)
def usedM (m : RefD) : Nat := (m.files.map fun f => f.data.length).sum
def nodesM (m : RefD) : Nat := m.files.length + m.list.countP fun e => e.dir
def looseM (m : RefD) : List Int := ((m.files.map FilD.id).filter fun i => decide (countM m i = 0)).mergeSort fun x y => decide (x ≤ y)
def reapM (m : RefD) (i : Int) : RefD := if 0 < countM m i then m else { m with files := m.files.filter fun f => !decide (f.id = i) }
/-- The bytes of a file. -/
def dataM (m : RefD) (i : Int) : By := match m.files.find? fun f => decide (f.id = i) with
  | some f => f.data
  | none => []
/-- A directory's name below a path, if it stands right below it. -/
def nameM (q s : By) : Option By :=
  if q.length + 1 < s.length ∧ s.take (q.length + 1) = q ++ [47] ∧ 47 ∉ s.drop (q.length + 1) then some (s.drop (q.length + 1)) else none
def stemM (p : By) : By := if p = [47] then [] else p
def namesM (m : RefD) (p : By) : List By := m.list.filterMap fun e => nameM (stemM p) e.path
/-- Operations one by one, up to the first that is refused. -/
def runM : RefD → List OpD → RefD × Int
  | m, [] => (m, 0)
  | m, o :: l => if (stepM m o).2 = 0 then runM (stepM m o).1 l else stepM m o
/-- All of them, or none. -/
def doM (m : RefD) (l : List OpD) : RefD × Int :=
  if (runM m l).2 ≠ 0 then (m, (runM m l).2)
  else if 128 < nodesM (runM m l).1 then (m, 7)
  else if m.quota < usedM (runM m l).1 then (m, 13)
  else ((runM m l).1, 0)
end Go.Proofs.YtldgpcmnmegioaaGreatDoor
namespace Go.Proofs.YtldgpcmnmegioaaGreatDoor
theorem walk_snoc (T : TreeD) (z : By) : ∀ (l : List By) (i : Int), i ≠ 0 → walkT T i (l ++ [z]) = if walkT T i l = 0 then 0 else kidT T (walkT T i l) z
  | [], i, hi => by
    rw [List.nil_append]
    have e : walkT T i [] = i := by unfold walkT; rfl
    rw [e, if_neg hi]
    unfold walkT
    split
    · rename_i h; exact h.symm
    · unfold walkT; rfl
  | x :: l, i, hi => by
    rw [List.cons_append]
    unfold walkT
    split
    · simp
    · rename_i h; exact walk_snoc T z l _ h
theorem snoc_ind {α : Type} {P : List α → Prop} (h0 : P []) (h1 : ∀ l x, P l → P (l ++ [x])) (l : List α) : P l := by
  have : ∀ n, ∀ l : List α, l.length = n → P l := by
    intro n
    induction n with
    | zero => intro l h; rw [List.eq_nil_of_length_eq_zero h]; exact h0
    | succ n ih =>
      intro l h
      have hne : l ≠ [] := fun e => by rw [e] at h; simp at h
      rw [← List.dropLast_concat_getLast hne]
      exact h1 _ _ (ih _ (by rw [List.length_dropLast, h]; rfl))
  exact this _ l rfl
theorem snoc_ne {α : Type} {l : List α} {x z : α} : l ++ [x] ++ [z] ≠ l ++ [x] := fun e => by
  have := congrArg List.length e; simp at this
theorem snoc_inj {α : Type} {l m : List α} {x z : α} : l ++ [x] = m ++ [z] ↔ l = m ∧ x = z := by
  constructor
  · intro h
    have h1 := List.append_inj' h rfl
    exact ⟨h1.1, by simpa using h1.2⟩
  · rintro ⟨rfl, rfl⟩; rfl
theorem upL_iff {p : By} {l : List By} {x : By} : upL p = some (l, x) ↔ pathL p = some (l ++ [x]) := by
  unfold upL
  split
  · rename_i a q hp
    rw [hp]
    have e : (a :: q) = (a :: q).take q.length ++ [(a :: q).getD q.length []] := by
      have hlt : q.length < (a :: q).length := by simp
      have h1 := List.take_succ_eq_append_getElem hlt
      have h2 : (a :: q).getD q.length [] = (a :: q)[q.length] := by simp [List.getD_eq_getElem?_getD]
      rw [h2, ← h1]
      simp
    constructor
    · intro h; cases h; rw [← e]
    · intro h
      have h := Option.some.inj h
      rw [e] at h
      obtain ⟨h1, h2⟩ := snoc_inj.1 h
      rw [h1, h2]
  · rename_i hne
    constructor
    · intro h; cases h
    · intro h
      cases hs : l ++ [x] with
      | nil => simp at hs
      | cons a q => rw [hs] at h; exact absurd h (hne a q)
theorem joinP_inj {l m : List By} (hl : pathL (joinP l) = some l) (hm : pathL (joinP m) = some m) (h : joinP l = joinP m) : l = m := by
  rw [h, hm] at hl; exact (Option.some.inj hl).symm
section
variable {T : TreeD}
theorem GoodT.one_ne : (1 : Int) ≠ 0 := by decide
/-- A directory stands at one path alone. -/
theorem GoodT.walk_inj (h : GoodT T) (l m : List By) (hw : walkT T 1 l ≠ 0) (hd : (T.node (walkT T 1 l)).dir = true) (he : walkT T 1 l = walkT T 1 m) : l = m := by
  revert m
  refine snoc_ind (P := fun l => walkT T 1 l ≠ 0 → (T.node (walkT T 1 l)).dir = true → ∀ m, walkT T 1 l = walkT T 1 m → l = m) ?_ ?_ l hw hd
  · intro _ _ m he
    refine snoc_ind (P := fun m => walkT T 1 [] = walkT T 1 m → [] = m) (fun _ => rfl) ?_ m he
    intro m z _ he
    rw [walk_snoc T z m 1 GoodT.one_ne] at he
    split at he
    · cases he
    · rename_i hm
      have := (h.kid_mem (h.walk_mem m 1 h.root hm) (x := z) (by rw [← he]; exact GoodT.one_ne)).2.2
      exact absurd he.symm this
  · intro l x ih hw hd m he
    rw [walk_snoc T x l 1 GoodT.one_ne] at hw hd he
    split at hw
    · exact absurd rfl hw
    · rename_i hl
      rw [if_neg hl] at hd he
      have hlm := h.walk_mem l 1 h.root hl
      have hk := h.kid_mem hlm hw
      refine snoc_ind (P := fun m => kidT T (walkT T 1 l) x = walkT T 1 m → l ++ [x] = m) ?_ ?_ m he
      · intro he; exact absurd he hk.2.2
      · intro m z _ he
        rw [walk_snoc T z m 1 GoodT.one_ne] at he
        split at he
        · exact absurd he hw
        · rename_i hm
          have hmm := h.walk_mem m 1 h.root hm
          have hk2 := h.kid_mem hmm (x := z) (by rw [← he]; exact hw)
          rw [← he] at hk2
          have hs := h.sole _ hlm _ hmm x z _ hk.2.1 hk2.2.1 hd
          have hld : (T.node (walkT T 1 l)).dir = true := by
            cases hd' : (T.node (walkT T 1 l)).dir with
            | true => rfl
            | false =>
              have := h.file _ hlm hd'
              have h3 := hk.2.1
              rw [this] at h3; cases h3
          rw [ih hl hld m hs.1, hs.2]
theorem walk_same {T' : TreeD} (h : GoodT T) (hk : ∀ c ∈ T.ids, ∀ z, kidT T' c z = kidT T c z) (l : List By) : walkT T' 1 l = walkT T 1 l := by
  refine snoc_ind (P := fun l => walkT T' 1 l = walkT T 1 l) rfl ?_ l
  intro l z ih
  rw [walk_snoc T' z l 1 GoodT.one_ne, walk_snoc T z l 1 GoodT.one_ne, ih]
  split
  · rfl
  · rename_i hl
    exact hk _ (h.walk_mem l 1 h.root hl) z
theorem walk_update {T' : TreeD} (h : GoodT T) {l : List By} {x : By} {d v : Int} (hl : walkT T 1 l = d) (hd0 : d ≠ 0) (hdd : (T.node d).dir = true)
    (hk : ∀ c ∈ T.ids, ∀ z, kidT T' c z = if c = d ∧ z = x then v else kidT T c z) (hv : v ≠ 0 → ∀ z, kidT T' v z = 0) (h0 : kidT T d x ≠ 0 → ∀ z, kidT T (kidT T d x) z = 0) (l' : List By) :
    walkT T' 1 l' = if l' = l ++ [x] then v else walkT T 1 l' := by
  have hlx : walkT T 1 (l ++ [x]) = kidT T d x := by rw [walk_snoc T x l 1 GoodT.one_ne, hl, if_neg hd0]
  refine snoc_ind (P := fun l' => walkT T' 1 l' = if l' = l ++ [x] then v else walkT T 1 l') ?_ ?_ l'
  · rw [if_neg (by simp)]; rfl
  · intro m z ih
    rw [walk_snoc T' z m 1 GoodT.one_ne, ih]
    by_cases hm : m = l ++ [x]
    · subst hm
      rw [if_pos rfl, if_neg snoc_ne, walk_snoc T z _ 1 GoodT.one_ne, hlx]
      have e1 : (if v = 0 then (0 : Int) else kidT T' v z) = 0 := by
        split
        · rfl
        · rename_i hv'; exact hv hv' z
      rw [e1]
      split
      · rfl
      · rename_i hx; exact (h0 hx z).symm
    · rw [if_neg hm, walk_snoc T z m 1 GoodT.one_ne]
      by_cases hc : walkT T 1 m = 0
      · rw [if_pos hc, if_pos hc, if_neg]
        intro e
        obtain ⟨rfl, rfl⟩ := snoc_inj.1 e
        exact hd0 (by rw [← hl]; exact hc)
      · rw [if_neg hc, if_neg hc, hk _ (h.walk_mem m 1 h.root hc)]
        by_cases hmd : walkT T 1 m = d
        · have hml : m = l := h.walk_inj m l hc (by rw [hmd]; exact hdd) (by rw [hmd, hl])
          subst hml
          by_cases hz : z = x
          · rw [if_pos ⟨hmd, hz⟩, if_pos (by rw [hz])]
          · rw [if_neg (fun e => hz e.2), if_neg (fun e => hz (snoc_inj.1 e).2)]
        · rw [if_neg (fun e => hmd e.1), if_neg]
          intro e
          obtain ⟨rfl, rfl⟩ := snoc_inj.1 e
          exact hmd hl
end
/-! ### A list of paths is what a function tells -/
structure Flat (W : List By → Int) (D : Int → Bool) (L : List EntD) : Prop where
  deep : ∀ l, W l ≠ 0 → pathL (joinP l) = some l
  pnd : (L.map EntD.path).Nodup
  ent : ∀ e, e ∈ L ↔ ∃ l, W l ≠ 0 ∧ e = ⟨joinP l, W l, D (W l)⟩
theorem mem_eraseP {L : List EntD} (h : (L.map EntD.path).Nodup) (p : By) (e : EntD) : e ∈ L.eraseP (isP p) ↔ e ∈ L ∧ e.path ≠ p := by
  induction L with
  | nil => simp
  | cons a L ih =>
    rw [List.map_cons, List.nodup_cons] at h
    by_cases ha : a.path = p
    · rw [List.eraseP_cons_of_pos (by simp [isP, ha])]
      constructor
      · intro he
        refine ⟨List.mem_cons_of_mem _ he, fun e1 => h.1 ?_⟩
        rw [ha, ← e1]
        exact List.mem_map_of_mem he
      · rintro ⟨he, hp⟩
        rcases List.mem_cons.1 he with rfl | he
        · exact absurd ha hp
        · exact he
    · rw [List.eraseP_cons_of_neg (by simp [isP, ha]), List.mem_cons, ih h.2, List.mem_cons]
      constructor
      · rintro (rfl | ⟨h1, h2⟩)
        · exact ⟨Or.inl rfl, ha⟩
        · exact ⟨Or.inr h1, h2⟩
      · rintro ⟨rfl | h1, h2⟩
        · exact Or.inl rfl
        · exact Or.inr ⟨h1, h2⟩
theorem find_ent {L : List EntD} (h : (L.map EntD.path).Nodup) {p : By} {e : EntD} : L.find? (isP p) = some e ↔ e ∈ L ∧ e.path = p := by
  induction L with
  | nil => simp
  | cons a L ih =>
    rw [List.map_cons, List.nodup_cons] at h
    rw [List.find?_cons]
    by_cases ha : a.path = p
    · have : isP p a = true := by simp [isP, ha]
      rw [this]
      constructor
      · intro h1; cases h1; exact ⟨List.mem_cons_self, ha⟩
      · rintro ⟨h1, h2⟩
        rcases List.mem_cons.1 h1 with rfl | h1
        · rfl
        · exact absurd (by rw [ha, ← h2]; exact List.mem_map_of_mem h1) h.1
    · have : isP p a = false := by simp [isP, ha]
      rw [this, ih h.2]
      constructor
      · rintro ⟨h1, h2⟩; exact ⟨List.mem_cons_of_mem _ h1, h2⟩
      · rintro ⟨h1, h2⟩
        rcases List.mem_cons.1 h1 with rfl | h1
        · exact absurd h2 ha
        · exact ⟨h1, h2⟩
theorem count_less {L : List EntD} {p : By} {e : EntD} (h : L.find? (isP p) = some e) (q : EntD → Bool) : (L.eraseP (isP p)).countP q + (if q e = true then 1 else 0) = L.countP q := by
  induction L with
  | nil => simp at h
  | cons a L ih =>
    rw [List.find?_cons] at h
    cases ha : isP p a with
    | true =>
      rw [ha] at h
      cases h
      rw [List.eraseP_cons_of_pos ha, List.countP_cons]
    | false =>
      rw [ha] at h
      rw [List.eraseP_cons_of_neg (by simp [ha]), List.countP_cons, List.countP_cons, ← ih h]
      omega
section
variable {W : List By → Int} {D : Int → Bool} {L : List EntD}
theorem Flat.find (h : Flat W D L) {p : By} {l : List By} (hp : pathL p = some l) (hw : W l ≠ 0) : L.find? (isP p) = some ⟨p, W l, D (W l)⟩ :=
  (find_ent h.pnd).2 ⟨(h.ent _).2 ⟨l, hw, by rw [joinP_pathL hp]⟩, rfl⟩
theorem Flat.find_none (h : Flat W D L) {p : By} (hw : ∀ l, pathL p = some l → W l = 0) : L.find? (isP p) = none := by
  cases hf : L.find? (isP p) with
  | none => rfl
  | some e =>
    obtain ⟨h1, h2⟩ := (find_ent h.pnd).1 hf
    obtain ⟨l, h3, h4⟩ := (h.ent e).1 h1
    rw [h4] at h2
    exact absurd (hw l (by rw [← h2]; exact h.deep l h3)) h3
theorem Flat.less (h : Flat W D L) {p : By} {l : List By} (hp : pathL p = some l) : Flat (fun m => if m = l then 0 else W m) D (L.eraseP (isP p)) := by
  refine ⟨fun m hm => ?_, ?_, fun e => ?_⟩
  · split at hm
    · exact absurd rfl hm
    · exact h.deep m hm
  · exact h.pnd.sublist (List.eraseP_sublist.map _)
  · rw [mem_eraseP h.pnd, h.ent]
    constructor
    · rintro ⟨⟨m, h1, rfl⟩, h2⟩
      have hne : m ≠ l := fun e => by subst e; exact h2 (joinP_pathL hp)
      exact ⟨m, by rw [if_neg hne]; exact h1, by rw [if_neg hne]⟩
    · rintro ⟨m, h1, h2⟩
      by_cases hm : m = l
      · rw [if_pos hm] at h1; exact absurd rfl h1
      · rw [if_neg hm] at h1 h2
        refine ⟨⟨m, h1, h2⟩, fun e1 => hm ?_⟩
        rw [h2] at e1
        have e1 : joinP m = p := e1
        have h3 := h.deep m h1
        rw [e1, hp] at h3
        exact (Option.some.inj h3).symm
theorem Flat.more (h : Flat W D L) {p : By} {l : List By} (hp : pathL p = some l) (h0 : W l = 0) {v : Int} (hv : v ≠ 0) : Flat (fun m => if m = l then v else W m) D (L ++ [⟨p, v, D v⟩]) := by
  have hj := joinP_pathL hp
  have hnot : ∀ e ∈ L, e.path ≠ p := by
    intro e he hep
    obtain ⟨m, h1, h2⟩ := (h.ent e).1 he
    rw [h2] at hep
    have hep : joinP m = p := hep
    have h3 := h.deep m h1
    rw [hep, hp] at h3
    rw [← Option.some.inj h3] at h1
    exact h1 h0
  refine ⟨fun m hm => ?_, ?_, fun e => ?_⟩
  · split at hm
    · rename_i e; rw [e, hj]; exact hp
    · exact h.deep m hm
  · rw [List.map_append, List.nodup_append]
    refine ⟨h.pnd, by simp, fun a ha b hb e => ?_⟩
    obtain ⟨e1, he1, rfl⟩ := List.mem_map.1 ha
    simp only [List.map_cons, List.map_nil, List.mem_singleton] at hb
    exact hnot e1 he1 (by rw [e, hb])
  · rw [List.mem_append, h.ent, List.mem_singleton]
    constructor
    · rintro (⟨m, h1, rfl⟩ | rfl)
      · have hne : m ≠ l := fun e => by subst e; exact h1 h0
        exact ⟨m, by rw [if_neg hne]; exact h1, by rw [if_neg hne]⟩
      · exact ⟨l, by rw [if_pos rfl]; exact hv, by rw [if_pos rfl, hj]⟩
    · rintro ⟨m, h1, h2⟩
      by_cases hm : m = l
      · rw [if_pos hm, hm, hj] at h2; exact Or.inr h2
      · rw [if_neg hm] at h1 h2; exact Or.inl ⟨m, h1, h2⟩
theorem Flat.congr (h : Flat W D L) {W' : List By → Int} {D' : Int → Bool} (hW : ∀ l, W' l = W l) (hD : ∀ l, W l ≠ 0 → D' (W l) = D (W l)) : Flat W' D' L := by
  refine ⟨fun l hl => h.deep l (by rw [← hW]; exact hl), h.pnd, fun e => ?_⟩
  rw [h.ent]
  constructor
  · rintro ⟨l, h1, h2⟩; exact ⟨l, by rw [hW]; exact h1, by rw [hW, hD l h1]; exact h2⟩
  · rintro ⟨l, h1, h2⟩; rw [hW] at h1 h2; exact ⟨l, h1, by rw [h2, hD l h1]⟩
end
end Go.Proofs.YtldgpcmnmegioaaGreatDoor
