/- tree.List: a directory's names, in order. -/
import Derived.Test.YtldgpcmnmegioaaDoorTreePlace
import Derived.Test.YtldgpcmnmegioaaDoorTreeFileM
import Derived.Test.YtldgpcmnmegioaaDoorShelf
import Derived.Test.YtldgpcmnmegioaaDoorM1
import Derived.Shelf.SlIter.Nil
import Derived.Shelf.SortM.Plain
import Derived.Shelf.SortM.SortNone
import Derived.Shelf.AbstractIn
namespace Go.Proofs.YtldgpcmnmegioaaDoor
open Go.RowKit Go.Maps Go.Sort Go.Shelf
theorem sorts_namesT (m : Nat) : AnyZ.SortsIn Tryd.prog Tryd.sorted_string_ren Fence.wide m :=
  ⟨fun blk off cap ss W hH hblk hsz => callsIn_wide.2 (AnyM.slices_Sort_string Tryd.sort_string blk off cap ss W hH hblk hsz),
   fun p cap W => callsIn_wide.2 (AnyM.slices_Sort_string_none Tryd.sort_string p cap W)⟩
/-- A directory's names, in order. -/
def NamesK (k : By → Option Int) (ss : List By) : Prop := ss.Pairwise (fun x y => x ≤ y) ∧ ss.Nodup ∧ ∀ x, x ∈ ss ↔ (k x).isSome = true
section
variable {base tb mb N L : Nat} {T : TreeD} {A : Int → NodeA}
/-- What List answers. -/
def ListI (T : TreeD) (i : Int) (w : World) (e : Ending) (w' : World) : Prop :=
  (if i = 0 then e = .returned (.tuple #[.slice none 0 0, .int .i64 8])
   else if (T.node i).dir = true then ∃ a c ss, e = .returned (.tuple #[.slice a ss.length c, .int .i64 0]) ∧ ss.length ≤ c ∧ NamesK (T.node i).kids ss ∧ Strs w' a ss
   else e = .returned (.tuple #[.slice none 0 0, .int .i64 11])) ∧ Ext w w'
set_option maxRecDepth 100000 in
set_option maxHeartbeats 3200000 in
theorem tree_List (p : By) (w : World) (hE : Env w) (hT : TreeM w base tb mb N T A) (hg : GoodT T) (hf : FitT T L) (hL : L ≤ 1000000000) (hN : N ≤ 1000000000) :
    Calls Tryd.prog 16 #[.pointer (some ⟨tb, 0, none⟩), .string (bs p)] w (ListI T (findT T p) w) := by
  obtain ⟨R, hR⟩ : ∃ R, R = ListI T (findT T p) w := ⟨_, rfl⟩
  rw [← hR]
  have hnx := hf.next
  have hfind := tree_find p w hE hT hg (by omega)
  have hmem := hg.find_mem (p := p)
  generalize findT T p = i at hR hfind hmem
  have HR := Lib.hid hR; clear hR
  have HFIND := Lib.hid hfind; clear hfind hE
  by_cases hz : i = 0
  · subst hz
    clear hmem hT hg hf
    go_enter Tryd.func16, Tryd.ntmps16
    go_wp2_with (go_at_call 19; refine HFIND.out.mono ?_; rintro e w1 ⟨rfl, hx⟩; have HX := Lib.hid hx; clear hx)
    rw [HR.out]
    unfold ListI
    rw [if_pos rfl]
    exact ⟨rfl, HX.out⟩
  · have hm := hmem hz
    have hlow := hg.low i hm
    have HM := Lib.hid hm
    have HT := Lib.hid hT
    clear hmem hm hT hg hf
    cases hd : (T.node i).dir with
    | false =>
      have HD := Lib.hid hd; clear hd
      go_enter Tryd.func16, Tryd.ntmps16
      go_wp2_with (go_at_call 19; refine HFIND.out.mono ?_; rintro e w1 ⟨rfl, hx⟩; have c1 := blk_cell (HT.out.ext hx).top 0 (Value.map (some mb)) rfl; have hlk := (HT.out.ext hx).look HM.out (by omega) (by omega); have c2 := blk_cell ((HT.out.ext hx).node i HM.out).1 0 (Value.bool (T.node i).dir) rfl; rw [HD.out] at c2; have HX := Lib.hid hx; clear hx)
      rw [HR.out]
      unfold ListI
      rw [if_neg hz, if_neg (by rw [HD.out]; simp)]
      exact ⟨rfl, HX.out⟩
    | true =>
      have HD := Lib.hid hd; clear hd
      obtain ⟨b, hb, hm, _⟩ := HT.out.kidmap HM.out HD.out
      have HKB := Lib.hid hb; clear hb
      refine (callsIn_wide (n := 6)).1 ?_
      have cK : ∀ mb W, CallsIn Fence.wide 5 Tryd.prog 23 #[.map mb] W fun e w' => e = .returned (.func (.func 33) #[] #[.pointer (some ⟨W.heap.size, 0, none⟩)]) ∧ w' = W.alloc (.cells #[.map mb] 50) := fun mb W => AnyZ.keys_in Tryd.keys_int Fence.wide 5 trivial rfl mb W
      have hfF : Fence.wide.fn 19 := trivial
      have hfK : Fence.wide.fn 23 := trivial
      have hfS : Fence.wide.fn 22 := trivial
      refine callsIn_of_wp Tryd.func16 rfl trivial ?_ rfl
      simp only [Tryd.ntmps16, List.size_toArray, List.length_cons, List.length_nil, Nat.reduceAdd, Nat.reduceSub, Array.replicate_succ, Array.replicate_zero, List.push_toArray, List.append_toArray, List.nil_append, List.cons_append]
      gi_wp2_with (first
        | (gi_at_call 19; refine (callsIn_wide.2 HFIND.out).mono ?_; rintro e w1 ⟨rfl, hx⟩; have c1 := blk_cell (HT.out.ext hx).top 0 (Value.map (some mb)) rfl; have hlk := (HT.out.ext hx).look HM.out (by omega) (by omega); have c2 := blk_cell ((HT.out.ext hx).node i HM.out).1 0 (Value.bool (T.node i).dir) rfl; rw [HD.out] at c2; have c3 := blk_cell ((HT.out.ext hx).node i HM.out).1 3 (Value.map (A i).kb) rfl; rw [HKB.out] at c3; have HX := Lib.hid hx; clear hx)
        | (gi_at_call 23; refine (cK _ _).mono ?_; rintro e w' ⟨rfl, rfl⟩)
        | (gi_at_call 22; refine Hid.out ?_))
      refine Lib.hid ?_
      obtain ⟨D, h1, h2, h3⟩ := hm.ext HX.out
      have hsz := h1.size_le
      have hbl := h1.lt
      have hseq : SeqGives Fence.wide 2 Tryd.prog 33 #[.pointer (some ⟨w1.heap.size, 0, none⟩)] encStr (fun ss => ss.Perm (strKeys D)) (Maps.size D) (w1.alloc (.cells #[.map (some b)] 50)) :=
        AnyZ.keys_gives (ρ := Tryd.keys_int_ren) { Tryd.keys_int with } Fence.wide _ trivial rfl (by omega) w1.heap.size b N D _ (by simp) (by simp) (by
          obtain ⟨es, clock, hb, Ft, hs, hD⟩ := h1
          exact ⟨es, clock, (Below.heap_alloc _ _ b hbl).trans hb, Ft, hs, hD⟩)
      have cS := AnyZ.sorted_in Tryd.sorted_string Fence.wide 5 trivial trivial trivial trivial rfl (by omega) (sorts_namesT _) (enters_of Tryd.func32 (by kernel_rfl) rfl) 33 #[.pointer (some ⟨w1.heap.size, 0, none⟩)] trivial (enters_of Tryd.func33 (by kernel_rfl) rfl) _ _ (by unfold maxLen; omega) (by omega) _ hseq
      change CallsIn _ _ Tryd.prog 22 _ _ _ at cS
      refine cS.mono ?_
      rintro e w' ⟨v, ss, rfl, hS, hrow, hnil, hb⟩
      have hrow' := ownsRow_base_a (base' := w1.heap.size) hrow (by simp)
      have hbb : Ext w1 w' := ((Below.refl _ w1).alloc (Nat.le_refl _) _).trans (hb.mono (by simp))
      obtain ⟨g1, g2, g3⟩ := sorted_names h1 (f := kidsF (T.node i).kids) (fun x => (h3 x).2) hS
      have hl : (ss.mergeSort leB).length = ss.length := (List.mergeSort_perm ss leB).length_eq
      have hv : ∃ a c, v = .slice a ss.length c := by
        rcases hrow'.2 with ⟨q1, q2⟩ | ⟨g, c, cur, q1, _⟩
        · exact ⟨none, 0, by rw [q1, q2]⟩
        · exact ⟨_, c, q1⟩
      obtain ⟨a, c, rfl⟩ := hv
      have hO : OwnS w' w1.heap.size a c (ss.mergeSort leB) := by
        unfold OwnS
        rw [hl]
        exact hrow'
      have HO := Lib.hid hO
      have HNK : Hid (NamesK (T.node i).kids (ss.mergeSort leB)) := Lib.hid ⟨g1, g2, fun x => by
        rw [g3 x]
        unfold kidsF
        cases (T.node i).kids x <;> simp⟩
      have HBB := Lib.hid hbb
      have HLN := Lib.hid hl
      clear h1 h2 h3 hsz hbl hseq cS hS hrow hnil hb hrow' g1 g2 g3 hO hbb hl cK
      gi_wp2_with fail
      rw [HR.out]
      unfold ListI
      rw [if_neg hz, if_pos HD.out]
      refine ⟨⟨a, c, ss.mergeSort leB, ?_, ?_, HNK.out, ?_⟩, HX.out.trans HBB.out⟩
      · rw [HLN.out]; rfl
      · exact HO.out.strs.2
      · exact HO.out.strs.1
end
end Go.Proofs.YtldgpcmnmegioaaDoor
