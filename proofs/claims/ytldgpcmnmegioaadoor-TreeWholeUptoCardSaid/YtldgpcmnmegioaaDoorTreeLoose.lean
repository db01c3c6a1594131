/- tree.Loose: the numbers of files that stand nowhere, in order. -/
import Derived.Test.YtldgpcmnmegioaaDoorTreeUsed
import Derived.Test.YtldgpcmnmegioaaDoorRuns
import Derived.Test.YtldgpcmnmegioaaDoorShelf
import Derived.Sort.OwnSortedInts
import Derived.Shelf.SortM.Plain
import Derived.Shelf.SortM.SortNone
import Derived.Shelf.SlicesE.Clone
import Derived.Deep.AppendLies
namespace Go.Proofs.YtldgpcmnmegioaaDoor
open Go.RowKit Go.Sort Go.Shelf
def intV (X : List Int) : List Value := X.map (Value.int .i64)
theorem intV_one (X : List Int) : ∀ u ∈ intV X, u.oneCell' = true := by
  intro u hu
  obtain ⟨b, _, rfl⟩ := List.mem_map.1 hu
  rfl
/-- Numbers in a row of the call's own. -/
def OwnIs (w : World) (base : Nat) (a : Option Addr) (cap : Nat) (X : List Int) : Prop := w.ownsRow base 3 1 (.slice a X.length cap) X.length (intV X)
theorem OwnIs.none (w : World) (base : Nat) : OwnIs w base none 0 [] := World.ownsRow_nil _ _ _ _
theorem sort_ints (base : Nat) (a : Option Addr) (c : Nat) (X : List Int) (w : World) (hO : OwnIs w base a c X) (hb : base ≤ w.heap.size) (hl : X.length ≤ 1099511627776) :
    Calls Tryd.prog 21 #[.slice a X.length c] w fun e w' => e = .returned (.tuple #[]) ∧ OwnIs w' base a c (X.mergeSort fun x y => decide (x ≤ y)) ∧ Below base w w' := by
  have hl2 : (X.mergeSort fun x y => decide (x ≤ y)).length = X.length := (List.mergeSort_perm X _).length_eq
  rcases hO.2 with ⟨h1, h2⟩ | ⟨g, c', cur, h1, hbg, hg, hn, hm, hs, ht⟩
  · have h0 : X = [] := List.eq_nil_of_length_eq_zero h2
    subst h0
    refine (AnyM.slices_Sort_int_none Tryd.sort_int a c w).mono ?_
    rintro e w' ⟨he, hw⟩
    subst hw
    exact ⟨he, by simpa using hO, Below.refl _ _⟩
  · obtain ⟨rfl, rfl⟩ : a = some ⟨g, 0, none⟩ ∧ c = c' := by cases h1; exact ⟨rfl, rfl⟩
    have hgl : g < w.heap.size := (Array.getElem?_eq_some_iff.1 hg).1
    rw [Nat.mul_one] at ht
    refine (AnyM.slices_Sort_int Tryd.sort_int g 0 c X w (holds_of_blockI hg ht) hgl (by omega)).mono ?_
    rintro e w' ⟨he, n, os, hw⟩
    subst hw
    refine ⟨he, ?_, (Below.refl base w).grown (grownBy_sortedI _) hb (fun k hk => by cases hk; exact hbg)⟩
    unfold OwnIs
    rw [hl2]
    exact ownsRow_sortedI hl2 hbg hg hn hm hs
theorem info_intL : (Tryd.prog.info? 3).map (fun i => (i.zero, i.size, i.bytes)) = some (some (.int .i64 0), 1, 8) := by kernel_rfl
theorem one_plain {w : World} {g : Nat} {v : Value} {t : TypeId} (h : w.heap[g]? = some (.cells #[v] t (0, 0))) : ∀ j u, [v][j]? = some u → w.cell? ((⟨g, 0, none⟩ : Addr).add j) = some u := by
  intro j u hj
  have : j = 0 := by
    have := (List.getElem?_eq_some_iff.1 hj).1
    simpa using this
  subst this
  have e : (⟨g, 0, none⟩ : Addr).add 0 = ⟨g, 0, none⟩ := rfl
  rw [e]
  exact blk_cell h 0 u hj
section
variable {base tb mb N L : Nat} {T : TreeD} {A : Int → NodeA}
def isLoose (T : TreeD) (i : Int) : Bool := decide ((T.node i).links = 0)
set_option maxRecDepth 100000 in
set_option maxHeartbeats 6400000 in
theorem tree_Loose (w : World) (hT : TreeM w base tb mb N T A) (hg : GoodT T) (hf : FitT T L) (hL : L ≤ 1000000000) :
    Calls Tryd.prog 15 #[.pointer (some ⟨tb, 0, none⟩)] w fun e w' => ∃ a c, e = .returned (.slice a (looseT T).length c) ∧ OwnIs w' w.heap.size a c (looseT T) ∧ Ext w w' := by
  obtain ⟨R, hR⟩ : ∃ R : Ending → World → Prop, R = fun e w' => ∃ a c, e = .returned (.slice a (looseT T).length c) ∧ OwnIs w' w.heap.size a c (looseT T) ∧ Ext w w' := ⟨_, rfl⟩
  rw [← hR]
  have HR := Lib.hid hR; clear hR
  have c1 := blk_cell hT.top 0 (Value.map (some mb)) rfl
  have HT := Lib.hid hT; clear hT
  have HG := Lib.hid hg; clear hg
  have HF := Lib.hid hf; clear hf
  obtain ⟨i0, hi, hz, hsz, hby⟩ := info_parts info_intL
  have HI := Lib.hid hi; clear hi
  have HZ := Lib.hid hz; clear hz
  have HS := Lib.hid hsz; clear hsz
  have HBY := Lib.hid hby; clear hby
  go_enter Tryd.func15, Tryd.ntmps15
  go_wp2_with (first
    | (at_range; refine wpList_range_F rfl _ 53 rfl 49 int_keyedA Tryd.underlying53 mb N (nodeF T A) rfl HT.out.map ?_; intro w0 c0 hg0 hx0 hs0)
    | go_in)
  go_frame
  have hml := HT.out.map.lt
  obtain ⟨r, hr⟩ : ∃ r, r = w.heap.size := ⟨_, rfl⟩
  rw [← hr] at hg0 hml ⊢
  have hrw : w.heap.size ≤ r := by rw [hr]; exact Nat.le_refl _
  have HR0 := Lib.hid hr; clear hr
  have hs1 : w0.heap.size = r + 1 := by have := HR0.out; omega
  obtain ⟨S, hS⟩ : ∃ S, S = w0.heap.size := ⟨_, rfl⟩
  have hSr : S = r + 1 := by omega
  have HX0 := Lib.hid hx0
  have HG0 := Lib.hid hg0
  have HO0 := Lib.hid (OwnIs.none w0 S)
  have HSZ : Hid (S ≤ w0.heap.size) := Lib.hid (by rw [hS]; exact Nat.le_refl _)
  clear hx0 hg0 hs0 c1 hs1 hS
  go_loopw [3] (fun v wr => ∃ (left : Int → Bool) (cnt : Nat) (X : List Int) (a : Option Addr) (c : Nat), v = .slice a X.length c ∧ X.length ≤ L ∧ Hid (MapG keyI wr 3 mb r N (nodeF T A) left cnt) ∧ Hid (X.Perm ((seenT T.ids left).filter (isLoose T))) ∧ Hid (OwnIs wr S a c X) ∧ Hid (Ext w wr) ∧ Hid (S ≤ wr.heap.size)) (fun _ wr => wr.rangeLeft mb r)
  case atStart =>
    refine ⟨_, c0, [], none, 0, rfl, Nat.zero_le _, HG0, Lib.hid ?_, HO0, HX0, HSZ⟩
    rw [seen_none (fun x hx => (nodeF_ids T A x).1 hx)]
    exact List.Perm.refl _
  case round =>
    clear HG0 HX0 HO0 HSZ
    obtain ⟨left, cnt, X, a, c, rfl, hXL, hg, hp, hO, hX, hSw⟩ := hrel
    have HGC := Lib.hid hg.out.count
    go_wp2_with (first
      | (at_next; refine wpList_next_F rfl _ rfl int_keyedA (fun x => .int .i64 x) keyI_inj inv_int mb r N (nodeF T A) left cnt rfl hg.out ?_ ?_)
      | go_in)
    rotate_left
    · intro x v w1' cnt1 hkey hlp hfp hg1 hlt1 hk1 hs1 hen
      obtain ⟨hxm, rfl⟩ := nodeF_some hfp
      have hx1' : Ext w w1' := ((Keep.of_ext (S := fun j => j < w.heap.size) hX.out).andThen hk1 (fun j hj _ => by show j ≠ r; omega)).ext_lt
      have c2 := blk_cell ((HT.out.ext hx1').node x hxm).1 1 (Value.int .i64 (T.node x).links) rfl
      obtain ⟨im, is, iq, ic, hir⟩ := hg.out.iterL
      have hO1 : OwnIs w1' S a c X := ownsRow_keep hO.out hk1 (fun g cur _ _ h3 => by show g ≠ r; intro e; rw [e, hir] at h3; cases h3)
      have hnew := seen_filter HG.out.nodup hxm hlp (isLoose T) hp.out
      have hlen : ((seenT T.ids fun z => left z && !decide (z = x)).filter (isLoose T)).length ≤ L := Nat.le_trans (List.length_filter_le _ _) (Nat.le_trans seen_len HF.out.count)
      rw [← hnew.length_eq] at hlen
      have HNEW := Lib.hid hnew; clear hnew
      have HG1 := Lib.hid hg1
      have HX1' := Lib.hid hx1'
      have HLT1 := Lib.hid hlt1
      have HO1 := Lib.hid hO1
      have HSW : Hid (S ≤ w1'.heap.size) := Lib.hid (Nat.le_trans hSw.out hk1.size)
      clear hg1 hx1' hk1 hs1 hkey hlp hfp hlt1 hir hO1 hxm hp hO hg hX hSw
      by_cases h0 : (T.node x).links = 0
      · have hil : isLoose T x = true := by unfold isLoose; rw [decide_eq_true_eq]; exact h0
        have HIL := Lib.hid hil; clear hil
        rw [HIL.out] at hlen
        simp only [if_true, List.length_append, List.length_cons, List.length_nil] at hlen
        rw [h0] at c2
        go_wp2_with (at_builtin; refine Hid.out ?_)
        refine Lib.hid ?_
        have hx2 := Ext.alloc w1' (.cells #[.int .i64 x] 3)
        have hb2 := heap_alloc_new w1' (.cells #[.int .i64 x] 3)
        have hs2 := World.size_alloc w1' (.cells #[.int .i64 x] 3)
        have HX2 := Lib.hid hx2
        have hO2 := ownsRow_keep HO1.out (Keep.of_ext (S := fun _ => True) hx2) (fun _ _ _ _ _ => trivial)
        have hSW := HSW.out
        refine wpList_append_own _ rfl _ _ 26 rfl S 3 i0 (.int .i64 0) 1 8 Tryd.underlying26 HI.out HZ.out HS.out HBY.out rfl (by decide) (.slice a X.length c) X.length (intV X) rfl hO2 ⟨w1'.heap.size, 0, none⟩ 1 1 [.int .i64 x] rfl rfl (one_plain hb2) (intV_one [x]) (by unfold maxLen; omega) (by omega) (by omega) ?_
        intro v' w3 hown hgrow hnil
        obtain ⟨a', c', rfl, hcc, _, _⟩ := run_of_row hown
        have hO3 : OwnIs w3 S a' c' (X ++ [x]) := by
          unfold OwnIs intV
          rw [List.length_append, List.map_append]
          exact hown
        have hob : ∀ g, (Value.slice a X.length c).ownBlock = some g → S ≤ g := fun g e => (World.ownsRow.lt hO2 g e).1
        have hg3 : MapG keyI w3 3 mb r N (nodeF T A) (fun z => left z && !decide (z = x)) cnt1 := (HG1.out.ext HX2.out).keep (Keep.of_grown hgrow) (fun e => by have := hob mb e.symm; omega) (fun e => by have := hob r e.symm; omega)
        have hx3 : Ext w w3 := ((Keep.of_ext (S := fun j => j < w.heap.size) (HX1'.out.trans HX2.out)).andThen (Keep.of_grown hgrow) (fun j hj _ e => by have := hob j e.symm; omega)).ext_lt
        have hn := HNEW.out
        rw [HIL.out, if_pos rfl] at hn
        have HO3 := Lib.hid hO3
        have HG3 := Lib.hid hg3
        have HX3 := Lib.hid hx3
        have HN := Lib.hid hn
        have HSW3 : Hid (S ≤ w3.heap.size) := Lib.hid (by have := hgrow.size; omega)
        clear hown hgrow hnil hO3 hob hg3 hx3 hn hO2 hb2 hs2 hx2 hSW
        go_wp2_with fail
        go_roundw
        case rel => exact ⟨_, cnt1, X ++ [x], a', c', by simp, by simpa using hlen, HG3, HN, HO3, HX3, HSW3⟩
        case measure =>
          rw [HG3.out.count, HGC.out]
          exact HLT1.out
      · have hil : isLoose T x = false := by unfold isLoose; rw [decide_eq_false_iff_not]; exact h0
        have hn := HNEW.out
        rw [hil, if_neg (by simp)] at hn
        have HN := Lib.hid hn; clear hn hil
        go_wp2_with fail
        go_roundw
        case rel => exact ⟨_, cnt1, X, a, c, rfl, hXL, HG1, HN, HO1, HX1', HSW⟩
        case measure =>
          rw [HG1.out.count, HGC.out]
          exact HLT1.out
    · intro hall
      have hp := hp.out
      rw [seen_all hall] at hp
      have hlo : X.mergeSort (fun x y => decide (x ≤ y)) = looseT T := by
        unfold looseT
        have h1 : ∀ a b c : Int, decide (a ≤ b) = true → decide (b ≤ c) = true → decide (a ≤ c) = true := fun a b c h1 h2 => by simp only [decide_eq_true_eq] at *; omega
        have h2 : ∀ a b : Int, (decide (a ≤ b) || decide (b ≤ a)) = true := fun a b => by simp only [Bool.or_eq_true, decide_eq_true_eq]; omega
        have s1 := List.pairwise_mergeSort h1 h2 X
        have s2 := List.pairwise_mergeSort h1 h2 (T.ids.filter fun i => decide ((T.node i).links = 0))
        exact ((List.mergeSort_perm X _).trans (hp.trans (List.mergeSort_perm _ _).symm)).eq_of_pairwise (fun a b _ _ k1 k2 => by simp only [decide_eq_true_eq] at k1 k2; omega) s1 s2
      have hll : (looseT T).length = X.length := by rw [← hlo]; exact (List.mergeSort_perm X _).length_eq
      have hst := sort_ints S a c X wr hO.out hSw.out (by omega)
      rw [hlo] at hst
      have HST := Lib.hid hst; clear hst
      have HLL := Lib.hid hll; clear hll hlo hp hall
      go_wp2_with (go_at_call 21; refine HST.out.mono ?_; rintro E w6 ⟨rfl, hO6, hb6⟩; have HO6 := Lib.hid hO6; have HB6 := Lib.hid hb6; clear hO6 hb6)
      rw [HR.out]
      refine ⟨a, c, by rw [HLL.out]; rfl, ownsRow_base_a HO6.out (by omega), ?_⟩
      exact ((Keep.of_ext (S := fun j => j < w.heap.size) hX.out).trans ((Keep.of_below HB6.out).mono (fun j _ (hj : j < w.heap.size) => by show j < S; omega))).ext_lt
end
end Go.Proofs.YtldgpcmnmegioaaDoor
