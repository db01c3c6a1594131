/- Several texts of mine, one behind the other: TreeRead, TreeList, TreeLoose, TreeAt, TreeAliveLaw, TreeLinksLaw, ConvText. -/
import Derived.Test.YtldgpcmnmegioaaGreatDoorTreePlace
import Derived.Test.YtldgpcmnmegioaaGreatDoorCloneY
import Derived.Test.YtldgpcmnmegioaaGreatDoorTreeFileM
import Derived.Test.YtldgpcmnmegioaaGreatDoorM3
import Derived.Shelf.SlIter.Nil
import Derived.Shelf.SortM.Plain
import Derived.Shelf.SortM.SortNone
import Derived.Shelf.AbstractIn
import Derived.Test.YtldgpcmnmegioaaGreatDoorTreeUsed
import Derived.Test.YtldgpcmnmegioaaGreatDoorRuns
import Derived.Sort.OwnSortedInts
import Derived.Shelf.SlicesE.Clone
import Derived.Deep.AppendLies
import Derived.Test.YtldgpcmnmegioaaGreatDoorTreeNew
import Derived.Test.YtldgpcmnmegioaaGreatDoorTreeDo
import Derived.Test.YtldgpcmnmegioaaGreatDoorTreeLaws
import Derived.WalkSpells
import Derived.WalkLawsBesides
namespace Go.Proofs.YtldgpcmnmegioaaGreatDoor
open Go.RowKit
section
variable {base tb mb N L : Nat} {T : TreeD} {A : Int → NodeA}
/-- What Read answers: what is wrong, or bytes. -/
def ReadI (T : TreeD) (i : Int) (w : World) (e : Ending) (w' : World) : Prop :=
  (if i = 0 then e = .returned (.tuple #[.slice none 0 0, .int .i64 8])
   else if (T.node i).dir = true then e = .returned (.tuple #[.slice none 0 0, .int .i64 10])
   else ∃ a c, e = .returned (.tuple #[.slice a (T.node i).data.length c, .int .i64 0]) ∧ (T.node i).data.length ≤ c ∧ DataM w' a (T.node i).data) ∧ Ext w w'
set_option maxRecDepth 100000 in
set_option maxHeartbeats 3200000 in
theorem tree_Read (p : By) (w : World) (hE : Env w) (hT : TreeM w base tb mb N T A) (hg : GoodT T) (hf : FitT T L) (hL : L ≤ 1000000000) :
    Calls Tryz.prog 21 #[.pointer (some ⟨tb, 0, none⟩), .string (bs p)] w (ReadI T (findT T p) w) := by
  obtain ⟨R, hR⟩ : ∃ R, R = ReadI T (findT T p) w := ⟨_, rfl⟩
  rw [← hR]
  have hnx := hf.next
  have hfind := tree_find p w hE hT hg (by omega)
  have hmem := hg.find_mem (p := p)
  generalize findT T p = i at hR hfind hmem
  have HR := Lib.hid hR; clear hR
  have HFIND := Lib.hid hfind; clear hfind hE
  by_cases hz : i = 0
  · subst hz
    clear hmem hT hg hf
    go_enter Tryz.func21, Tryz.ntmps21
    go_wp2_with (go_at_call 32; refine HFIND.out.mono ?_; rintro e w1 ⟨rfl, hx⟩; have HX := Lib.hid hx; clear hx)
    rw [HR.out]
    unfold ReadI
    rw [if_pos rfl]
    exact ⟨rfl, HX.out⟩
  · have hm := hmem hz
    have hlow := hg.low i hm
    have hdl := hf.data i hm
    have HM := Lib.hid hm
    have HT := Lib.hid hT
    clear hmem hm hT hg hf
    cases hd : (T.node i).dir with
    | true =>
      have HD := Lib.hid hd; clear hd
      go_enter Tryz.func21, Tryz.ntmps21
      go_wp2_with (go_at_call 32; refine HFIND.out.mono ?_; rintro e w1 ⟨rfl, hx⟩; have c1 := blk_cell (HT.out.ext hx).top 0 (Value.map (some mb)) rfl; have hlk := (HT.out.ext hx).look HM.out (by omega) (by omega); have c2 := blk_cell ((HT.out.ext hx).node i HM.out).1 0 (Value.bool (T.node i).dir) rfl; rw [HD.out] at c2; have HX := Lib.hid hx; clear hx)
      rw [HR.out]
      unfold ReadI
      rw [if_neg hz, if_pos HD.out]
      exact ⟨rfl, HX.out⟩
    | false =>
      have HD := Lib.hid hd; clear hd
      go_enter Tryz.func21, Tryz.ntmps21
      go_wp2_with (first
        | (go_at_call 32; refine HFIND.out.mono ?_; rintro e w1 ⟨rfl, hx⟩; have c1 := blk_cell (HT.out.ext hx).top 0 (Value.map (some mb)) rfl; have hlk := (HT.out.ext hx).look HM.out (by omega) (by omega); have c2 := blk_cell ((HT.out.ext hx).node i HM.out).1 0 (Value.bool (T.node i).dir) rfl; rw [HD.out] at c2; have c4 := blk_cell ((HT.out.ext hx).node i HM.out).1 2 (Value.slice (A i).da (T.node i).data.length (A i).dc) rfl; have HB := Lib.hid ((HT.out.ext hx).node i HM.out).2.1.bytes; have HX := Lib.hid hx; clear hx)
        | (go_at_call 51; refine (clone_y (A i).da (A i).dc (T.node i).data _ HB.out (by omega)).mono ?_; rintro e w2 ⟨ca, cc, rfl, hcc, hdm, _, hx⟩; have HDM := Lib.hid hdm; have HX2 := Lib.hid hx; clear hdm hx))
      rw [HR.out]
      unfold ReadI
      rw [if_neg hz, if_neg (by rw [HD.out]; simp)]
      exact ⟨⟨ca, cc, rfl, hcc, HDM.out⟩, HX.out.trans HX2.out⟩
end
end Go.Proofs.YtldgpcmnmegioaaGreatDoor
namespace Go.Proofs.YtldgpcmnmegioaaGreatDoor
open Go.RowKit Go.Maps Go.Sort Go.Shelf
theorem sorts_namesT (m : Nat) : AnyZ.SortsIn Tryz.prog Tryz.sorted_string_ren Fence.wide m :=
  ⟨fun blk off cap ss W hH hblk hsz => callsIn_wide.2 (AnyM.slices_Sort_string Tryz.sort_string blk off cap ss W hH hblk hsz),
   fun p cap W => callsIn_wide.2 (AnyM.slices_Sort_string_none Tryz.sort_string p cap W)⟩
/-- A directory's names, in order. -/
def NamesK (k : By → Option Int) (ss : List By) : Prop := ss.Pairwise (fun x y => x ≤ y) ∧ ss.Nodup ∧ ∀ x, x ∈ ss ↔ (k x).isSome = true
section
variable {base tb mb N L : Nat} {T : TreeD} {A : Int → NodeA}
/-- What List answers. -/
def ListI (T : TreeD) (i : Int) (w : World) (e : Ending) (w' : World) : Prop :=
  (if i = 0 then e = .returned (.tuple #[.slice none 0 0, .int .i64 8])
   else if (T.node i).dir = true then ∃ a c ss, e = .returned (.tuple #[.slice a ss.length c, .int .i64 0]) ∧ ss.length ≤ c ∧ NamesK (T.node i).kids ss ∧ Strs w' a ss
   else e = .returned (.tuple #[.slice none 0 0, .int .i64 11])) ∧ Ext w w'
set_option maxRecDepth 100000 in
set_option maxHeartbeats 3200000 in
theorem tree_List (p : By) (w : World) (hE : Env w) (hT : TreeM w base tb mb N T A) (hg : GoodT T) (hf : FitT T L) (hL : L ≤ 1000000000) (hN : N ≤ 1000000000) :
    Calls Tryz.prog 22 #[.pointer (some ⟨tb, 0, none⟩), .string (bs p)] w (ListI T (findT T p) w) := by
  obtain ⟨R, hR⟩ : ∃ R, R = ListI T (findT T p) w := ⟨_, rfl⟩
  rw [← hR]
  have hnx := hf.next
  have hfind := tree_find p w hE hT hg (by omega)
  have hmem := hg.find_mem (p := p)
  generalize findT T p = i at hR hfind hmem
  have HR := Lib.hid hR; clear hR
  have HFIND := Lib.hid hfind; clear hfind hE
  by_cases hz : i = 0
  · subst hz
    clear hmem hT hg hf
    go_enter Tryz.func22, Tryz.ntmps22
    go_wp2_with (go_at_call 32; refine HFIND.out.mono ?_; rintro e w1 ⟨rfl, hx⟩; have HX := Lib.hid hx; clear hx)
    rw [HR.out]
    unfold ListI
    rw [if_pos rfl]
    exact ⟨rfl, HX.out⟩
  · have hm := hmem hz
    have hlow := hg.low i hm
    have HM := Lib.hid hm
    have HT := Lib.hid hT
    clear hmem hm hT hg hf
    cases hd : (T.node i).dir with
    | false =>
      have HD := Lib.hid hd; clear hd
      go_enter Tryz.func22, Tryz.ntmps22
      go_wp2_with (go_at_call 32; refine HFIND.out.mono ?_; rintro e w1 ⟨rfl, hx⟩; have c1 := blk_cell (HT.out.ext hx).top 0 (Value.map (some mb)) rfl; have hlk := (HT.out.ext hx).look HM.out (by omega) (by omega); have c2 := blk_cell ((HT.out.ext hx).node i HM.out).1 0 (Value.bool (T.node i).dir) rfl; rw [HD.out] at c2; have HX := Lib.hid hx; clear hx)
      rw [HR.out]
      unfold ListI
      rw [if_neg hz, if_neg (by rw [HD.out]; simp)]
      exact ⟨rfl, HX.out⟩
    | true =>
      have HD := Lib.hid hd; clear hd
      obtain ⟨b, hb, hm, _⟩ := HT.out.kidmap HM.out HD.out
      have HKB := Lib.hid hb; clear hb
      refine (callsIn_wide (n := 6)).1 ?_
      have cK : ∀ mb W, CallsIn Fence.wide 5 Tryz.prog 53 #[.map mb] W fun e w' => e = .returned (.func (.func 65) #[] #[.pointer (some ⟨W.heap.size, 0, none⟩)]) ∧ w' = W.alloc (.cells #[.map mb] 69) := fun mb W => AnyZ.keys_in Tryz.keys_int Fence.wide 5 trivial rfl mb W
      have hfF : Fence.wide.fn 32 := trivial
      have hfK : Fence.wide.fn 53 := trivial
      have hfS : Fence.wide.fn 52 := trivial
      refine callsIn_of_wp Tryz.func22 rfl trivial ?_ rfl
      simp only [Tryz.ntmps22, List.size_toArray, List.length_cons, List.length_nil, Nat.reduceAdd, Nat.reduceSub, Array.replicate_succ, Array.replicate_zero, List.push_toArray, List.append_toArray, List.nil_append, List.cons_append]
      gi_wp2_with (first
        | (gi_at_call 32; refine (callsIn_wide.2 HFIND.out).mono ?_; rintro e w1 ⟨rfl, hx⟩; have c1 := blk_cell (HT.out.ext hx).top 0 (Value.map (some mb)) rfl; have hlk := (HT.out.ext hx).look HM.out (by omega) (by omega); have c2 := blk_cell ((HT.out.ext hx).node i HM.out).1 0 (Value.bool (T.node i).dir) rfl; rw [HD.out] at c2; have c3 := blk_cell ((HT.out.ext hx).node i HM.out).1 3 (Value.map (A i).kb) rfl; rw [HKB.out] at c3; have HX := Lib.hid hx; clear hx)
        | (gi_at_call 53; refine (cK _ _).mono ?_; rintro e w' ⟨rfl, rfl⟩)
        | (gi_at_call 52; refine Hid.out ?_))
      refine Lib.hid ?_
      obtain ⟨D, h1, h2, h3⟩ := hm.ext HX.out
      have hsz := h1.size_le
      have hbl := h1.lt
      have hseq : SeqGives Fence.wide 2 Tryz.prog 65 #[.pointer (some ⟨w1.heap.size, 0, none⟩)] encStr (fun ss => ss.Perm (strKeys D)) (Maps.size D) (w1.alloc (.cells #[.map (some b)] 69)) :=
        AnyZ.keys_gives (ρ := Tryz.keys_int_ren) { Tryz.keys_int with } Fence.wide _ trivial rfl (by omega) w1.heap.size b N D _ (by simp) (by simp) (by
          obtain ⟨es, clock, hb, Ft, hs, hD⟩ := h1
          exact ⟨es, clock, (Below.heap_alloc _ _ b hbl).trans hb, Ft, hs, hD⟩)
      have cS := AnyZ.sorted_in Tryz.sorted_string Fence.wide 5 trivial trivial trivial trivial rfl (by omega) (sorts_namesT _) (enters_of Tryz.func64 (by kernel_rfl) rfl) 65 #[.pointer (some ⟨w1.heap.size, 0, none⟩)] trivial (enters_of Tryz.func65 (by kernel_rfl) rfl) _ _ (by unfold maxLen; omega) (by omega) _ hseq
      change CallsIn _ _ Tryz.prog 52 _ _ _ at cS
      refine cS.mono ?_
      rintro e w' ⟨v, ss, rfl, hS, hrow, hnil, hb⟩
      have hrow' := ownsRow_base_a (base' := w1.heap.size) hrow (by simp)
      have hbb : Ext w1 w' := ((Below.refl _ w1).alloc (Nat.le_refl _) _).trans (hb.mono (by simp))
      obtain ⟨g1, g2, g3⟩ := sorted_names h1 (f := kidsF (T.node i).kids) (fun x => (h3 x).2) hS
      have hl : (ss.mergeSort leB).length = ss.length := (List.mergeSort_perm ss leB).length_eq
      have hv : ∃ a c, v = .slice a ss.length c := by
        rcases hrow'.2 with ⟨q1, q2⟩ | ⟨g, c, cur, q1, _⟩
        · exact ⟨none, 0, by rw [q1, q2]⟩
        · exact ⟨_, c, q1⟩
      obtain ⟨a, c, rfl⟩ := hv
      have hO : OwnS w' w1.heap.size a c (ss.mergeSort leB) := by
        unfold OwnS
        rw [hl]
        exact hrow'
      have HO := Lib.hid hO
      have HNK : Hid (NamesK (T.node i).kids (ss.mergeSort leB)) := Lib.hid ⟨g1, g2, fun x => by
        rw [g3 x]
        unfold kidsF
        cases (T.node i).kids x <;> simp⟩
      have HBB := Lib.hid hbb
      have HLN := Lib.hid hl
      clear h1 h2 h3 hsz hbl hseq cS hS hrow hnil hb hrow' g1 g2 g3 hO hbb hl cK
      gi_wp2_with fail
      rw [HR.out]
      unfold ListI
      rw [if_neg hz, if_pos HD.out]
      refine ⟨⟨a, c, ss.mergeSort leB, ?_, ?_, HNK.out, ?_⟩, HX.out.trans HBB.out⟩
      · rw [HLN.out]; rfl
      · exact HO.out.strs.2
      · exact HO.out.strs.1
end
end Go.Proofs.YtldgpcmnmegioaaGreatDoor
namespace Go.Proofs.YtldgpcmnmegioaaGreatDoor
open Go.RowKit Go.Sort Go.Shelf
def intV (X : List Int) : List Value := X.map (Value.int .i64)
theorem intV_one (X : List Int) : ∀ u ∈ intV X, u.oneCell' = true := by
  intro u hu
  obtain ⟨b, _, rfl⟩ := List.mem_map.1 hu
  rfl
/-- Numbers in a row of the call's own. -/
def OwnIs (w : World) (base : Nat) (a : Option Addr) (cap : Nat) (X : List Int) : Prop := w.ownsRow base 3 1 (.slice a X.length cap) X.length (intV X)
theorem OwnIs.none (w : World) (base : Nat) : OwnIs w base none 0 [] := World.ownsRow_nil _ _ _ _
theorem sort_ints (base : Nat) (a : Option Addr) (c : Nat) (X : List Int) (w : World) (hO : OwnIs w base a c X) (hb : base ≤ w.heap.size) (hl : X.length ≤ 1099511627776) :
    Calls Tryz.prog 54 #[.slice a X.length c] w fun e w' => e = .returned (.tuple #[]) ∧ OwnIs w' base a c (X.mergeSort fun x y => decide (x ≤ y)) ∧ Below base w w' := by
  have hl2 : (X.mergeSort fun x y => decide (x ≤ y)).length = X.length := (List.mergeSort_perm X _).length_eq
  rcases hO.2 with ⟨h1, h2⟩ | ⟨g, c', cur, h1, hbg, hg, hn, hm, hs, ht⟩
  · have h0 : X = [] := List.eq_nil_of_length_eq_zero h2
    subst h0
    refine (AnyM.slices_Sort_int_none Tryz.sort_int a c w).mono ?_
    rintro e w' ⟨he, hw⟩
    subst hw
    exact ⟨he, by simpa using hO, Below.refl _ _⟩
  · obtain ⟨rfl, rfl⟩ : a = some ⟨g, 0, none⟩ ∧ c = c' := by cases h1; exact ⟨rfl, rfl⟩
    have hgl : g < w.heap.size := (Array.getElem?_eq_some_iff.1 hg).1
    rw [Nat.mul_one] at ht
    refine (AnyM.slices_Sort_int Tryz.sort_int g 0 c X w (holds_of_blockI hg ht) hgl (by omega)).mono ?_
    rintro e w' ⟨he, n, os, hw⟩
    subst hw
    refine ⟨he, ?_, (Below.refl base w).grown (grownBy_sortedI _) hb (fun k hk => by cases hk; exact hbg)⟩
    unfold OwnIs
    rw [hl2]
    exact ownsRow_sortedI hl2 hbg hg hn hm hs
theorem info_intL : (Tryz.prog.info? 3).map (fun i => (i.zero, i.size, i.bytes)) = some (some (.int .i64 0), 1, 8) := by kernel_rfl
theorem one_plain {w : World} {g : Nat} {v : Value} {t : TypeId} (h : w.heap[g]? = some (.cells #[v] t (0, 0))) : ∀ j u, [v][j]? = some u → w.cell? ((⟨g, 0, none⟩ : Addr).add j) = some u := by
  intro j u hj
  have : j = 0 := by
    have := (List.getElem?_eq_some_iff.1 hj).1
    simpa using this
  subst this
  have e : (⟨g, 0, none⟩ : Addr).add 0 = ⟨g, 0, none⟩ := rfl
  rw [e]
  exact blk_cell h 0 u hj
section
variable {base tb mb N L : Nat} {T : TreeD} {A : Int → NodeA}
def isLoose (T : TreeD) (i : Int) : Bool := decide ((T.node i).links = 0)
set_option maxRecDepth 100000 in
set_option maxHeartbeats 6400000 in
theorem tree_Loose (w : World) (hT : TreeM w base tb mb N T A) (hg : GoodT T) (hf : FitT T L) (hL : L ≤ 1000000000) :
    Calls Tryz.prog 23 #[.pointer (some ⟨tb, 0, none⟩)] w fun e w' => ∃ a c, e = .returned (.slice a (looseT T).length c) ∧ OwnIs w' w.heap.size a c (looseT T) ∧ Ext w w' := by
  obtain ⟨R, hR⟩ : ∃ R : Ending → World → Prop, R = fun e w' => ∃ a c, e = .returned (.slice a (looseT T).length c) ∧ OwnIs w' w.heap.size a c (looseT T) ∧ Ext w w' := ⟨_, rfl⟩
  rw [← hR]
  have HR := Lib.hid hR; clear hR
  have c1 := blk_cell hT.top 0 (Value.map (some mb)) rfl
  have HT := Lib.hid hT; clear hT
  have HG := Lib.hid hg; clear hg
  have HF := Lib.hid hf; clear hf
  obtain ⟨i0, hi, hz, hsz, hby⟩ := info_parts info_intL
  have HI := Lib.hid hi; clear hi
  have HZ := Lib.hid hz; clear hz
  have HS := Lib.hid hsz; clear hsz
  have HBY := Lib.hid hby; clear hby
  go_enter Tryz.func23, Tryz.ntmps23
  go_wp2_with (first
    | (at_range; refine wpList_range_F rfl _ 72 rfl 68 int_keyedA Tryz.underlying72 mb N (nodeF T A) rfl HT.out.map ?_; intro w0 c0 hg0 hx0 hs0)
    | go_in)
  go_frame
  have hml := HT.out.map.lt
  obtain ⟨r, hr⟩ : ∃ r, r = w.heap.size := ⟨_, rfl⟩
  rw [← hr] at hg0 hml ⊢
  have hrw : w.heap.size ≤ r := by rw [hr]; exact Nat.le_refl _
  have HR0 := Lib.hid hr; clear hr
  have hs1 : w0.heap.size = r + 1 := by have := HR0.out; omega
  obtain ⟨S, hS⟩ : ∃ S, S = w0.heap.size := ⟨_, rfl⟩
  have hSr : S = r + 1 := by omega
  have HX0 := Lib.hid hx0
  have HG0 := Lib.hid hg0
  have HO0 := Lib.hid (OwnIs.none w0 S)
  have HSZ : Hid (S ≤ w0.heap.size) := Lib.hid (by rw [hS]; exact Nat.le_refl _)
  clear hx0 hg0 hs0 c1 hs1 hS
  go_loopw [3] (fun v wr => ∃ (left : Int → Bool) (cnt : Nat) (X : List Int) (a : Option Addr) (c : Nat), v = .slice a X.length c ∧ X.length ≤ L ∧ Hid (MapG keyI wr 3 mb r N (nodeF T A) left cnt) ∧ Hid (X.Perm ((seenT T.ids left).filter (isLoose T))) ∧ Hid (OwnIs wr S a c X) ∧ Hid (Ext w wr) ∧ Hid (S ≤ wr.heap.size)) (fun _ wr => wr.rangeLeft mb r)
  case atStart =>
    refine ⟨_, c0, [], none, 0, rfl, Nat.zero_le _, HG0, Lib.hid ?_, HO0, HX0, HSZ⟩
    rw [seen_none (fun x hx => (nodeF_ids T A x).1 hx)]
    exact List.Perm.refl _
  case round =>
    clear HG0 HX0 HO0 HSZ
    obtain ⟨left, cnt, X, a, c, rfl, hXL, hg, hp, hO, hX, hSw⟩ := hrel
    have HGC := Lib.hid hg.out.count
    go_wp2_with (first
      | (at_next; refine wpList_next_F rfl _ rfl int_keyedA (fun x => .int .i64 x) keyI_inj inv_int mb r N (nodeF T A) left cnt rfl hg.out ?_ ?_)
      | go_in)
    rotate_left
    · intro x v w1' cnt1 hkey hlp hfp hg1 hlt1 hk1 hs1 hen
      obtain ⟨hxm, rfl⟩ := nodeF_some hfp
      have hx1' : Ext w w1' := ((Keep.of_ext (S := fun j => j < w.heap.size) hX.out).andThen hk1 (fun j hj _ => by show j ≠ r; omega)).ext_lt
      have c2 := blk_cell ((HT.out.ext hx1').node x hxm).1 1 (Value.int .i64 (T.node x).links) rfl
      obtain ⟨im, is, iq, ic, hir⟩ := hg.out.iterL
      have hO1 : OwnIs w1' S a c X := ownsRow_keep hO.out hk1 (fun g cur _ _ h3 => by show g ≠ r; intro e; rw [e, hir] at h3; cases h3)
      have hnew := seen_filter HG.out.nodup hxm hlp (isLoose T) hp.out
      have hlen : ((seenT T.ids fun z => left z && !decide (z = x)).filter (isLoose T)).length ≤ L := Nat.le_trans (List.length_filter_le _ _) (Nat.le_trans seen_len HF.out.count)
      rw [← hnew.length_eq] at hlen
      have HNEW := Lib.hid hnew; clear hnew
      have HG1 := Lib.hid hg1
      have HX1' := Lib.hid hx1'
      have HLT1 := Lib.hid hlt1
      have HO1 := Lib.hid hO1
      have HSW : Hid (S ≤ w1'.heap.size) := Lib.hid (Nat.le_trans hSw.out hk1.size)
      clear hg1 hx1' hk1 hs1 hkey hlp hfp hlt1 hir hO1 hxm hp hO hg hX hSw
      by_cases h0 : (T.node x).links = 0
      · have hil : isLoose T x = true := by unfold isLoose; rw [decide_eq_true_eq]; exact h0
        have HIL := Lib.hid hil; clear hil
        rw [HIL.out] at hlen
        simp only [if_true, List.length_append, List.length_cons, List.length_nil] at hlen
        rw [h0] at c2
        go_wp2_with (at_builtin; refine Hid.out ?_)
        refine Lib.hid ?_
        have hx2 := Ext.alloc w1' (.cells #[.int .i64 x] 3)
        have hb2 := heap_alloc_new w1' (.cells #[.int .i64 x] 3)
        have hs2 := World.size_alloc w1' (.cells #[.int .i64 x] 3)
        have HX2 := Lib.hid hx2
        have hO2 := ownsRow_keep HO1.out (Keep.of_ext (S := fun _ => True) hx2) (fun _ _ _ _ _ => trivial)
        have hSW := HSW.out
        refine wpList_append_own _ rfl _ _ 33 rfl S 3 i0 (.int .i64 0) 1 8 Tryz.underlying33 HI.out HZ.out HS.out HBY.out rfl (by decide) (.slice a X.length c) X.length (intV X) rfl hO2 ⟨w1'.heap.size, 0, none⟩ 1 1 [.int .i64 x] rfl rfl (one_plain hb2) (intV_one [x]) (by unfold maxLen; omega) (by omega) (by omega) ?_
        intro v' w3 hown hgrow hnil
        obtain ⟨a', c', rfl, hcc, _, _⟩ := run_of_row hown
        have hO3 : OwnIs w3 S a' c' (X ++ [x]) := by
          unfold OwnIs intV
          rw [List.length_append, List.map_append]
          exact hown
        have hob : ∀ g, (Value.slice a X.length c).ownBlock = some g → S ≤ g := fun g e => (World.ownsRow.lt hO2 g e).1
        have hg3 : MapG keyI w3 3 mb r N (nodeF T A) (fun z => left z && !decide (z = x)) cnt1 := (HG1.out.ext HX2.out).keep (Keep.of_grown hgrow) (fun e => by have := hob mb e.symm; omega) (fun e => by have := hob r e.symm; omega)
        have hx3 : Ext w w3 := ((Keep.of_ext (S := fun j => j < w.heap.size) (HX1'.out.trans HX2.out)).andThen (Keep.of_grown hgrow) (fun j hj _ e => by have := hob j e.symm; omega)).ext_lt
        have hn := HNEW.out
        rw [HIL.out, if_pos rfl] at hn
        have HO3 := Lib.hid hO3
        have HG3 := Lib.hid hg3
        have HX3 := Lib.hid hx3
        have HN := Lib.hid hn
        have HSW3 : Hid (S ≤ w3.heap.size) := Lib.hid (by have := hgrow.size; omega)
        clear hown hgrow hnil hO3 hob hg3 hx3 hn hO2 hb2 hs2 hx2 hSW
        go_wp2_with fail
        go_roundw
        case rel => exact ⟨_, cnt1, X ++ [x], a', c', by simp, by simpa using hlen, HG3, HN, HO3, HX3, HSW3⟩
        case measure =>
          rw [HG3.out.count, HGC.out]
          exact HLT1.out
      · have hil : isLoose T x = false := by unfold isLoose; rw [decide_eq_false_iff_not]; exact h0
        have hn := HNEW.out
        rw [hil, if_neg (by simp)] at hn
        have HN := Lib.hid hn; clear hn hil
        go_wp2_with fail
        go_roundw
        case rel => exact ⟨_, cnt1, X, a, c, rfl, hXL, HG1, HN, HO1, HX1', HSW⟩
        case measure =>
          rw [HG1.out.count, HGC.out]
          exact HLT1.out
    · intro hall
      have hp := hp.out
      rw [seen_all hall] at hp
      have hlo : X.mergeSort (fun x y => decide (x ≤ y)) = looseT T := by
        unfold looseT
        have h1 : ∀ a b c : Int, decide (a ≤ b) = true → decide (b ≤ c) = true → decide (a ≤ c) = true := fun a b c h1 h2 => by simp only [decide_eq_true_eq] at *; omega
        have h2 : ∀ a b : Int, (decide (a ≤ b) || decide (b ≤ a)) = true := fun a b => by simp only [Bool.or_eq_true, decide_eq_true_eq]; omega
        have s1 := List.pairwise_mergeSort h1 h2 X
        have s2 := List.pairwise_mergeSort h1 h2 (T.ids.filter fun i => decide ((T.node i).links = 0))
        exact ((List.mergeSort_perm X _).trans (hp.trans (List.mergeSort_perm _ _).symm)).eq_of_pairwise (fun a b _ _ k1 k2 => by simp only [decide_eq_true_eq] at k1 k2; omega) s1 s2
      have hll : (looseT T).length = X.length := by rw [← hlo]; exact (List.mergeSort_perm X _).length_eq
      have hst := sort_ints S a c X wr hO.out hSw.out (by omega)
      rw [hlo] at hst
      have HST := Lib.hid hst; clear hst
      have HLL := Lib.hid hll; clear hll hlo hp hall
      go_wp2_with (go_at_call 54; refine HST.out.mono ?_; rintro E w6 ⟨rfl, hO6, hb6⟩; have HO6 := Lib.hid hO6; have HB6 := Lib.hid hb6; clear hO6 hb6)
      rw [HR.out]
      refine ⟨a, c, by rw [HLL.out]; rfl, ownsRow_base_a HO6.out (by omega), ?_⟩
      exact ((Keep.of_ext (S := fun j => j < w.heap.size) hX.out).trans ((Keep.of_below HB6.out).mono (fun j _ (hj : j < w.heap.size) => by show j < S; omega))).ext_lt
end
end Go.Proofs.YtldgpcmnmegioaaGreatDoor
namespace Go.Proofs.YtldgpcmnmegioaaGreatDoor
open Go.RowKit
/-- A tree lies at an address. -/
def TreeAt (w : World) (base tb N : Nat) (T : TreeD) : Prop := GoodT T ∧ FitT T N ∧ ∃ mb A, TreeM w base tb mb N T A
section
variable {w w' : World} {base tb N : Nat} {T : TreeD}
theorem TreeAt.ext (h : TreeAt w base tb N T) (k : Ext w w') : TreeAt w' base tb N T := by
  obtain ⟨h1, h2, mb, A, h3⟩ := h
  exact ⟨h1, h2, mb, A, h3.ext k⟩
theorem TreeAt.low (h : TreeAt w base tb N T) : base ≤ tb ∧ tb < w.heap.size := by
  obtain ⟨h1, h2, mb, A, h3⟩ := h
  exact ⟨h3.low.1, (Array.getElem?_eq_some_iff.1 h3.top).1⟩
/-- Another tree is turned. -/
theorem TreeAt.other {ub M base' : Nat} {U : TreeD} (h : TreeAt w base tb N T) (hu : TreeAt w base' ub M U) (hne : tb ≠ ub) (k : Keep (· ≠ ub) w w') : TreeAt w' base tb N T := by
  obtain ⟨h1, h2, mb, A, h3⟩ := h
  obtain ⟨_, _, um, B, hu3⟩ := hu
  refine ⟨h1, h2, mb, A, h3.keep k (datas_cells hu3.top (by decide)) hne (h3.map_ne hu3.top) fun i hi => ⟨fun e => ?_, fun b hb => h3.kid_ne hi hb hu3.top⟩⟩
  have h4 := (h3.node i hi).1
  rw [e, hu3.top] at h4
  injection (Option.some.inj h4) with _ h5
  exact absurd h5 (by decide)
theorem ext_do {wa wb : World} (h : Ext w wa) (hb : w.heap.size ≤ tb) (k : Keep (· ≠ tb) wa wb) : Ext w wb :=
  ((Keep.of_ext (S := fun j => j < w.heap.size) h).andThen k (fun j hj _ => by show j ≠ tb; omega)).ext_lt
theorem at_New (q : Int) (w : World) : Calls Tryz.prog 7 #[.int .i64 q] w fun e w' => ∃ tb, e = .returned (.pointer (some ⟨tb, 0, none⟩)) ∧ TreeAt w' w.heap.size tb 2 (newT q) ∧ Ext w w' :=
  (tree_New q w).mono fun e w' ⟨tb, mb, A, he, hm, hx⟩ => ⟨tb, he, ⟨newT_good q, newT_fit q, mb, A, hm.mono (by omega)⟩, hx⟩
theorem at_Do (a : Option Addr) (c : Nat) (L : List (OpD × OpA)) (hE : Env w) (h : TreeAt w base tb N T) (hL : OpsL w a L) (hN : N + 2 * L.length ≤ 1000000000) :
    Calls Tryz.prog 12 #[.pointer (some ⟨tb, 0, none⟩), .slice a L.length c] w fun e w' => e = .returned (.int .i64 (doT T (L.map Prod.fst)).2) ∧ TreeAt w' base tb (N + 2 * L.length) (doT T (L.map Prod.fst)).1 ∧ Keep (· ≠ tb) w w' := by
  obtain ⟨h1, h2, mb, A, h3⟩ := h
  refine (tree_Do a c L w hE h3 h1 h2 (Nat.le_refl _) hN hL).mono ?_
  rintro e w' ⟨he, ⟨mb', A', hm⟩, hk⟩
  exact ⟨he, ⟨doT_good h1 _, (doT_fit h2 _).mono (by rw [List.length_map]; omega), mb', A', hm⟩, hk⟩
theorem at_Clone (h : TreeAt w base tb N T) (hN : N ≤ 1000000000) :
    Calls Tryz.prog 30 #[.pointer (some ⟨tb, 0, none⟩)] w fun e w' => ∃ ub, e = .returned (.pointer (some ⟨ub, 0, none⟩)) ∧ TreeAt w' w.heap.size ub N T ∧ Ext w w' := by
  obtain ⟨h1, h2, mb, A, h3⟩ := h
  refine (tree_Clone w h3 h1 h2 (Nat.le_refl _) hN).mono ?_
  rintro e w' ⟨ub, um, A', he, hm, hx⟩
  exact ⟨ub, he, ⟨h1, h2, um, A', hm⟩, hx⟩
theorem at_Find (p : By) (hE : Env w) (h : TreeAt w base tb N T) (hN : N ≤ 1000000000) :
    Calls Tryz.prog 13 #[.pointer (some ⟨tb, 0, none⟩), .string (bs p)] w fun e w' => e = .returned (.tuple #[.int .i64 (findT T p), .bool (decide (findT T p ≠ 0))]) ∧ Ext w w' := by
  obtain ⟨h1, h2, mb, A, h3⟩ := h
  exact tree_Find p w hE h3 h1 (by have := h2.next; omega)
theorem at_Dir (p : By) (hE : Env w) (h : TreeAt w base tb N T) (hN : N ≤ 1000000000) :
    Calls Tryz.prog 26 #[.pointer (some ⟨tb, 0, none⟩), .string (bs p)] w fun e w' => e = .returned (.bool (decide (findT T p ≠ 0) && (T.node (findT T p)).dir)) ∧ Ext w w' := by
  obtain ⟨h1, h2, mb, A, h3⟩ := h
  exact tree_Dir p w hE h3 h1 (by have := h2.next; omega)
theorem at_Read (p : By) (hE : Env w) (h : TreeAt w base tb N T) (hN : N ≤ 1000000000) :
    Calls Tryz.prog 21 #[.pointer (some ⟨tb, 0, none⟩), .string (bs p)] w (ReadI T (findT T p) w) := by
  obtain ⟨h1, h2, mb, A, h3⟩ := h
  exact tree_Read p w hE h3 h1 h2 hN
theorem at_List (p : By) (hE : Env w) (h : TreeAt w base tb N T) (hN : N ≤ 1000000000) :
    Calls Tryz.prog 22 #[.pointer (some ⟨tb, 0, none⟩), .string (bs p)] w (ListI T (findT T p) w) := by
  obtain ⟨h1, h2, mb, A, h3⟩ := h
  exact tree_List p w hE h3 h1 h2 hN hN
theorem at_Nodes (h : TreeAt w base tb N T) :
    Calls Tryz.prog 25 #[.pointer (some ⟨tb, 0, none⟩)] w fun e w' => e = .returned (.int .i64 T.ids.length) ∧ Ext w w' := by
  obtain ⟨h1, h2, mb, A, h3⟩ := h
  exact tree_Nodes w h3 h1.nodup
theorem at_Used (h : TreeAt w base tb N T) (hN : N ≤ 1000000000) :
    Calls Tryz.prog 24 #[.pointer (some ⟨tb, 0, none⟩)] w fun e w' => e = .returned (.int .i64 (usedT T)) ∧ Ext w w' := by
  obtain ⟨h1, h2, mb, A, h3⟩ := h
  exact tree_Used w h3 h1 h2 (by omega)
theorem at_Loose (h : TreeAt w base tb N T) (hN : N ≤ 1000000000) :
    Calls Tryz.prog 23 #[.pointer (some ⟨tb, 0, none⟩)] w fun e w' => ∃ a c, e = .returned (.slice a (looseT T).length c) ∧ OwnIs w' w.heap.size a c (looseT T) ∧ Ext w w' := by
  obtain ⟨h1, h2, mb, A, h3⟩ := h
  exact tree_Loose w h3 h1 h2 hN
end
/-- An operation as cells. -/
def opV (x : OpD × OpA) : List Value := [.int .i64 x.1.kind, .string (bs x.1.path), .string (bs x.1.dest), .slice x.2.oa x.1.data.length x.2.oc]
theorem ops_blk {w : World} {g : Nat} {L : List (OpD × OpA)} (hg : w.heap[g]? = some (.cells (L.flatMap opV).toArray 38 (0, 0))) (hb : ∀ x ∈ L, Bytes w x.2.oa x.1.data) : OpsL w (some ⟨g, 0, none⟩) L := by
  refine Or.inr ⟨g, 0, rfl, (Array.getElem?_eq_some_iff.1 hg).1, fun i hi => ?_⟩
  have eL : L.getD i oz = L[i] := by simp [List.getD_eq_getElem?_getD, List.getElem?_eq_getElem hi]
  rw [eL]
  have hcell : ∀ r u, r < 4 → (opV L[i])[r]? = some u → w.cell? ⟨g, 0 + i * 4 + r, none⟩ = some u := by
    intro r u hr hu
    refine blk_cell hg _ u ?_
    have := flat_at (F := opV) (m := 4) (fun _ => rfl) L i r hi hr
    rw [hu] at this
    rw [Nat.zero_add]
    simpa using this
  exact ⟨⟨hcell 0 _ (by omega) rfl, hcell 1 _ (by omega) rfl, hcell 2 _ (by omega) rfl, hcell 3 _ (by omega) rfl⟩, hb _ (List.getElem_mem hi)⟩
/-- Bytes in a block. -/
theorem bytes_blk {w : World} {g : Nat} {l : By} {t : TypeId} {fr : Nat × Nat} (hg : w.heap[g]? = some (.cells (byteV l).toArray t fr)) : Bytes w (some ⟨g, 0, none⟩) l := by
  refine Or.inr ⟨g, 0, rfl, (Array.getElem?_eq_some_iff.1 hg).1, fun i hi => ?_⟩
  rw [Nat.zero_add]
  have h : w.cell? ⟨g, i, none⟩ = (byteV l).toArray[i]? := by simp [World.cell?, hg]
  rw [h]
  simpa using byteV_at hi
end Go.Proofs.YtldgpcmnmegioaaGreatDoor
namespace Go.Proofs.YtldgpcmnmegioaaGreatDoor
def aOps1 : List OpD := [⟨0, [47, 97], [], []⟩, ⟨2, [47, 97, 47, 102], [], [111, 110, 101]⟩, ⟨4, [47, 97, 47, 102], [47, 103], []⟩]
def aOps2 : List OpD := [⟨2, [47, 104], [], [116, 119, 111]⟩, ⟨5, [47, 104], [47, 97, 47, 102], []⟩]
def aOps3 : List OpD := [⟨6, [47, 103], [], []⟩]
noncomputable def aT1 : TreeD := (doT (newT 10) aOps1).1
noncomputable def aT2 : TreeD := (doT aT1 aOps2).1
noncomputable def aT3 : TreeD := (doT aT2 aOps3).1
set_option maxRecDepth 100000 in
theorem alive_e1 : (doT (newT 10) aOps1).2 = 0 := by decide +kernel
set_option maxRecDepth 100000 in
theorem alive_e2 : (doT aT1 aOps2).2 = 0 := by decide +kernel
set_option maxRecDepth 100000 in
theorem alive_e3 : (doT aT2 aOps3).2 = 0 := by decide +kernel
set_option maxRecDepth 100000 in
theorem alive_r1 : findT aT2 [47, 97, 47, 102] = 4 ∧ (aT2.node 4).dir = false ∧ (aT2.node 4).data = [116, 119, 111] := by decide +kernel
set_option maxRecDepth 100000 in
theorem alive_r2 : findT aT2 [47, 103] = 3 ∧ (aT2.node 3).dir = false ∧ (aT2.node 3).data = [111, 110, 101] := by decide +kernel
set_option maxRecDepth 100000 in
theorem alive_r3 : aT3.ids = [1, 2, 3, 4] ∧ usedT aT3 = 6 ∧ (aT3.node 1).dir = true ∧ findT aT3 [47, 97] = 2 ∧ (aT3.node 2).dir = true ∧ looseT aT3 = [3] := by decide +kernel
set_option maxRecDepth 100000 in
theorem alive_k : (aT3.node 1).kids = lessK (lessK (withK (withK (withK noK [97] 2) [103] 3) [104] 4) [104]) [103] := by rfl
end Go.Proofs.YtldgpcmnmegioaaGreatDoor
namespace Go.Proofs.YtldgpcmnmegioaaGreatDoor
def pA : By := [47, 97]
def pB : By := [47, 98]
theorem upL_A : upL pA = some ([], [97]) := by decide +kernel
theorem upL_B : upL pB = some ([], [98]) := by decide +kernel
theorem pathL_A : pathL pA = some [[97]] := by decide +kernel
theorem pathL_B : pathL pB = some [[98]] := by decide +kernel
theorem placeA {T : TreeD} (h : (T.node 1).dir = true) : placeT T pA = .at 1 [97] := by
  unfold placeT; rw [upL_A]; simp [walkT, h]
theorem placeB {T : TreeD} (h : (T.node 1).dir = true) : placeT T pB = .at 1 [98] := by
  unfold placeT; rw [upL_B]; simp [walkT, h]
theorem findA {T : TreeD} (k : Int) (hk : kidT T 1 [97] = k) : findT T pA = k := by
  unfold findT; rw [pathL_A]
  show (if kidT T 1 [97] = 0 then 0 else kidT T 1 [97]) = k
  rw [hk]; split <;> simp_all
theorem findB {T : TreeD} (k : Int) (hk : kidT T 1 [98] = k) : findT T pB = k := by
  unfold findT; rw [pathL_B]
  show (if kidT T 1 [98] = 0 then 0 else kidT T 1 [98]) = k
  rw [hk]; split <;> simp_all
theorem findR {T : TreeD} : findT T [47] = 1 := by
  unfold findT; rw [pathL_root]; rfl
/-- The tree with one file: what its root has, its links, its bytes. -/
structure One (T : TreeD) (k : By → Option Int) (n : Int) (d : By) : Prop where
  ids : T.ids = [1, 2]
  root : T.node 1 = ⟨true, 1, [], k⟩
  file : T.node 2 = ⟨false, n, d, noK⟩
  quota : T.quota = 8000
def kA : By → Option Int := withK noK [97] 2
def kAB : By → Option Int := withK kA [98] 2
def kB : By → Option Int := lessK kAB [97]
def k0 : By → Option Int := lessK kB [98]
section
variable {T : TreeD} {k : By → Option Int} {n : Int} {d : By}
theorem One.used (h : One T k n d) : usedT T = d.length := by
  unfold usedT; rw [h.ids]; simp [h.root, h.file]
theorem One.kid (h : One T k n d) (x : By) : kidT T 1 x = (k x).getD 0 := by unfold kidT; rw [h.root]
theorem One.dir (h : One T k n d) : (T.node 1).dir = true := by rw [h.root]
theorem One.fdir (h : One T k n d) : (T.node 2).dir = false := by rw [h.file]
theorem kAB_a : (kAB [97]).getD 0 = 2 := by decide +kernel
theorem kAB_b : (kAB [98]).getD 0 = 2 := by decide +kernel
theorem kA_a : (kA [97]).getD 0 = 2 := by decide +kernel
theorem kA_b : (kA [98]).getD 0 = 0 := by decide +kernel
theorem kB_b : (kB [98]).getD 0 = 2 := by decide +kernel
/-- A step, alone. -/
theorem doT_one {o : OpD} {T' : TreeD} (h : stepT T o = (T', 0)) (h1 : T'.ids.length ≤ 128) (h2 : (usedT T' : Int) ≤ T.quota) : doT T [o] = (T', 0) := by
  have hr : runT T [o] = (T', 0) := by
    unfold runT
    rw [h]
    rfl
  unfold doT
  rw [hr]
  simp only
  rw [if_neg (by simp), if_neg (by omega), if_neg (by omega)]
theorem step_unlink {x : By} {o : OpD} (hk : o.kind = 6) (hl : o.data.length ≤ 3500) (hp : placeT T o.path = .at 1 x) (hx : kidT T 1 x = 2) (hf : (T.node 2).dir = false) : stepT T o = (linkT (cutT T 1 x) 2 (-1), 0) := by
  unfold stepT
  rw [hp]
  simp only [hk, hx, hf]
  rw [if_neg (by omega), if_neg (by omega), if_neg (by omega), if_neg (by omega), if_neg (by omega), if_neg (by simp)]
  unfold fileT
  rw [if_neg (by omega), if_pos hk]
theorem One.unlink (h : One T k n d) (x : By) : One (linkT (cutT T 1 x) 2 (-1)) (lessK k x) (n - 1) d := by
  refine ⟨h.ids, ?_, ?_, h.quota⟩
  · unfold linkT
    rw [setT_node, if_neg (by omega)]
    unfold cutT
    rw [setT_node, if_pos rfl, h.root]
  · unfold linkT
    rw [setT_node, if_pos rfl]
    unfold cutT
    rw [setT_node, if_neg (by omega), h.file]
    rfl
theorem one_unlink (h : One T k n d) (hd : d.length ≤ 3500) {x : By} {o : OpD} (hk : o.kind = 6) (hl : o.data.length ≤ 3500) (hp : placeT T o.path = .at 1 x) (hx : (k x).getD 0 = 2) :
    (doT T [o]).2 = 0 ∧ One (doT T [o]).1 (lessK k x) (n - 1) d := by
  have hs := step_unlink hk hl hp (by rw [h.kid]; exact hx) h.fdir
  have hn := h.unlink x
  rw [doT_one hs (by rw [hn.ids]; decide) (by rw [hn.used, h.quota]; omega)]
  exact ⟨rfl, hn⟩
theorem one_rename (h : One T kAB n d) (hd : d.length ≤ 3500) {o : OpD} (hk : o.kind = 5) (hl : o.data.length ≤ 3500) (hp : o.path = pA) (hq : o.dest = pB) : doT T [o] = (T, 0) := by
  have h2 : kidT T 1 [97] = 2 := by rw [h.kid]; exact kAB_a
  have h3 : kidT T 1 [98] = 2 := by rw [h.kid]; exact kAB_b
  have hs : stepT T o = (T, 0) := by
    unfold stepT
    rw [hp, placeA h.dir]
    simp only [hk, h2, h.fdir]
    rw [if_neg (by omega), if_neg (by omega), if_neg (by omega), if_neg (by omega), if_neg (by omega), if_neg (by simp)]
    unfold fileT
    rw [if_neg (by omega), if_neg (by omega), hq, placeB h.dir]
    simp only [h3, h.fdir]
    rw [if_neg (by omega), if_neg (by simp), if_pos trivial]
  exact doT_one hs (by rw [h.ids]; decide) (by rw [h.used, h.quota]; omega)
end
theorem one_made (a b : By) (ha : a.length ≤ 3500) (hb : b.length ≤ 3500) {o1 o2 o3 : OpD} (h1 : o1 = ⟨2, pA, [], a⟩) (h2 : o2 = ⟨4, pA, pB, []⟩) (h3 : o3 = ⟨3, pA, [], b⟩) :
    (doT (newT 8000) [o1, o2, o3]).2 = 0 ∧ One (doT (newT 8000) [o1, o2, o3]).1 kAB 2 b := by
  obtain ⟨T1, e1⟩ : ∃ T1, T1 = bindT (addT (newT 8000) (fileN a)) 1 [97] 2 := ⟨_, rfl⟩
  have hT1 : One T1 kA 1 a := by subst e1; exact ⟨rfl, rfl, rfl, rfl⟩
  have s1 : stepT (newT 8000) o1 = (T1, 0) := by
    unfold stepT
    rw [h1, placeA rfl]
    have hk : kidT (newT 8000) 1 [97] = 0 := rfl
    simp only [hk]
    rw [if_neg (by omega), if_neg (by omega), if_pos (Or.inr trivial), if_neg (by simp), if_neg (by omega), e1]
    rfl
  obtain ⟨T2, e2⟩ : ∃ T2, T2 = bindT (linkT T1 2 1) 1 [98] 2 := ⟨_, rfl⟩
  have hT2 : One T2 kAB 2 a := by
    subst e2
    refine ⟨hT1.ids, ?_, ?_, hT1.quota⟩
    · unfold bindT
      rw [setT_node, if_pos rfl]
      unfold linkT
      rw [setT_node, if_neg (by omega), hT1.root]
      rfl
    · unfold bindT
      rw [setT_node, if_neg (by omega)]
      unfold linkT
      rw [setT_node, if_pos rfl, hT1.file]
      rfl
  have s2 : stepT T1 o2 = (T2, 0) := by
    have k2 : kidT T1 1 [97] = 2 := by rw [hT1.kid]; exact kA_a
    have k3 : kidT T1 1 [98] = 0 := by rw [hT1.kid]; exact kA_b
    unfold stepT
    rw [h2, placeA hT1.dir]
    simp only [k2, hT1.fdir]
    rw [if_neg (by omega), if_neg (by simp), if_neg (by omega), if_neg (by omega), if_neg (by omega), if_neg (by simp)]
    unfold fileT
    simp only
    rw [if_neg (by omega), if_neg (by omega), placeB hT1.dir]
    simp only [k3]
    rw [if_neg (by simp), if_neg (by simp), if_neg (by omega), if_pos trivial, e2]
  obtain ⟨T3, e3⟩ : ∃ T3, T3 = setT T2 2 ⟨false, (T2.node 2).links, b, noK⟩ := ⟨_, rfl⟩
  have hT3 : One T3 kAB 2 b := by
    subst e3
    refine ⟨hT2.ids, ?_, ?_, hT2.quota⟩
    · rw [setT_node, if_neg (by omega), hT2.root]
    · rw [setT_node, if_pos rfl, hT2.file]
  have s3 : stepT T2 o3 = (T3, 0) := by
    have k2 : kidT T2 1 [97] = 2 := by rw [hT2.kid]; exact kAB_a
    unfold stepT
    rw [h3, placeA hT2.dir]
    simp only [k2, hT2.fdir]
    rw [if_neg (by omega), if_neg (by omega), if_neg (by omega), if_neg (by omega), if_neg (by omega), if_neg (by simp)]
    unfold fileT
    rw [if_pos rfl, e3]
  have hr : runT (newT 8000) [o1, o2, o3] = (T3, 0) := by
    unfold runT
    rw [s1]
    simp only [if_true]
    unfold runT
    rw [s2]
    simp only [if_true]
    unfold runT
    rw [s3]
    rfl
  have hd : doT (newT 8000) [o1, o2, o3] = (T3, 0) := by
    unfold doT
    rw [hr]
    simp only
    rw [if_neg (by simp), if_neg (by rw [hT3.ids]; decide), if_neg (by rw [hT3.used]; show ¬ (8000 : Int) < _; omega)]
  rw [hd]
  exact ⟨rfl, hT3⟩
theorem One.loose {T : TreeD} {k : By → Option Int} {n : Int} {d : By} (h : One T k n d) : looseT T = if n = 0 then [2] else [] := by
  unfold looseT
  rw [h.ids]
  by_cases hn : n = 0
  · subst hn; simp [h.root, h.file]
  · simp [h.root, h.file, hn]
end Go.Proofs.YtldgpcmnmegioaaGreatDoor
namespace Go.Proofs.YtldgpcmnmegioaaGreatDoor
open Go.RowKit
theorem addr_add (g off n : Nat) : (⟨g, off, none⟩ : Addr).add n = ⟨g, off + n, none⟩ := by
  unfold Addr.add; split
  · rename_i h0; subst h0; rfl
  · rfl
theorem conv_text {w : World} {a : Option Addr} {p : List UInt8} {c : Nat} (hb : Bytes w a p) :
    (convert 36 9 (.slice a p.length c)).run Tryz.prog w = .ok (.string (bs p)) w := by
  cases a with
  | none =>
    have hp : p = [] := by
      rcases hb with hb | ⟨g, off, ha, _⟩
      · exact hb
      · cases ha
    subst hp
    exact run_convert_bytes_nil w 36 5 Tryz.underlying36 Tryz.underlying5 0 c _ Tryz.underlying9
  | some ad =>
    refine run_convert_bytes_back w _ _ 5 ad c p Tryz.underlying36 Tryz.underlying5 Tryz.underlying9 ?_
    intro j hj
    rcases hb with hb | ⟨g, off, ha, _, hc⟩
    · subst hb; simp at hj
    · have ha := Option.some.inj ha
      subst ha
      have e : (⟨g, off, none⟩ : Addr).add j = ⟨g, off + j, none⟩ := by
        unfold Addr.add; split
        · rename_i h0; subst h0; rfl
        · rfl
      rw [e, hc j hj]
      simp [byteAt, hj]
end Go.Proofs.YtldgpcmnmegioaaGreatDoor
