/- Several texts of mine, one behind the other: GraphNames, GraphRows, GraphConcat, RowsS. -/
import Derived.Test.YtefpllpichhojaaGreatDoorM3
import Derived.Test.YtefpllpichhojaaGreatDoorM5
import Derived.Shelf.SlIter.Nil
import Derived.Shelf.SortM.Plain
import Derived.Shelf.SortM.SortNone
import Derived.Shelf.AbstractIn
import Derived.Lib.AppendZeros
import Derived.Test.YtefpllpichhojaaGreatDoorM14
namespace Go.Proofs.YtefpllpichhojaaGreatDoor
open Go.RowKit Go.Maps Go.Sort Go.Shelf
theorem sorts_strs (m : Nat) : AnyZ.SortsIn Tryz.prog Tryz.sorted_string_ren Fence.wide m :=
 ⟨fun blk off cap ss W hH hblk hsz => callsIn_wide.2 (AnyM.slices_Sort_string Tryz.sort_string blk off cap ss W hH hblk hsz),
  fun p cap W => callsIn_wide.2 (AnyM.slices_Sort_string_none Tryz.sort_string p cap W)⟩
theorem unitF_some {U : List UnitD} {A : GraphA} {x : Bs} : (unitF U A x).isSome = hasU U x := by
 unfold unitF hasU
 cases getU U x <;> rfl
def NamesG (L : List Bs) (w : World) (e : Ending) (w' : World) : Prop := ∃ a c, e = .returned (.slice a L.length c) ∧ OwnS w' w.heap.size a c L ∧ L.length ≤ c ∧ Ext w w'
set_option maxRecDepth 100000 in
set_option maxHeartbeats 3200000 in
theorem graph_Names {w : World} {gb ub N : Nat} {hv ov : Value} {U : List UnitD} {A : GraphA} (ht : w.heap[gb]? = some (.cells #[.map (some ub), hv, ov] 164 (0, 0))) (hm : MapF keyS w 9 ub N (unitF U A)) (hnd : (U.map UnitD.name).Nodup) (hN : N ≤ 100000) :
 Calls Tryz.prog 58 #[.pointer (some ⟨gb, 0, none⟩)] w (NamesG (namesU U) w) := by
 obtain ⟨R, hR⟩ : ∃ R, R = NamesG (namesU U) w := ⟨_, rfl⟩
 rw [← hR]
 have HR := Lib.hid hR; clear hR
 have c0 := blk_cell ht 0 (.map (some ub)) rfl
 obtain ⟨D, h1, h2, h3⟩ := hm
 have hsz := h1.size_le
 have hbl := h1.lt
 refine (callsIn_wide (n := 6)).1 ?_
 have hseq : SeqGives Fence.wide 2 Tryz.prog 146 #[.pointer (some ⟨w.heap.size, 0, none⟩)] encStr (fun ss => ss.Perm (strKeys D)) (Maps.size D) (w.alloc (.cells #[.map (some ub)] 161)) :=
  AnyZ.keys_gives (ρ := Tryz.keys_unit_Unit_ren) { Tryz.keys_unit_Unit with } Fence.wide _ trivial rfl (by omega) w.heap.size ub N D _ (by simp) (by simp) (by
   obtain ⟨es, clock, hb, Ft, hs, hD⟩ := h1
   exact ⟨es, clock, (Below.heap_alloc _ _ ub hbl).trans hb, Ft, hs, hD⟩)
 have cK : ∀ mb W, CallsIn Fence.wide 5 Tryz.prog 101 #[.map mb] W fun e w' => e = .returned (.func (.func 146) #[] #[.pointer (some ⟨W.heap.size, 0, none⟩)]) ∧ w' = W.alloc (.cells #[.map mb] 161) := fun mb W => AnyZ.keys_in Tryz.keys_unit_Unit Fence.wide 5 trivial rfl mb W
 have cS := AnyZ.sorted_in Tryz.sorted_string Fence.wide 5 trivial trivial trivial trivial rfl (by omega) (sorts_strs _) (enters_of Tryz.func145 (by kernel_rfl) rfl) 146 #[.pointer (some ⟨w.heap.size, 0, none⟩)] trivial (enters_of Tryz.func146 (by kernel_rfl) rfl) _ _ (by unfold maxLen; omega) (by omega) _ hseq
 change CallsIn _ _ Tryz.prog 100 _ _ _ at cS
 have hfK : Fence.wide.fn 101 := trivial
 have hfS : Fence.wide.fn 100 := trivial
 have hint : ∀ ss : List Bs, ss.Perm (strKeys D) → ss.mergeSort leB = namesU U := fun ss hp => by
  obtain ⟨g1, g2, g3⟩ := sorted_names h1 (f := unitF U A) (fun x => (h3 x).2) hp
  exact names_are hnd g1 g2 fun x => by rw [g3 x, unitF_some]
 have HI := Lib.hid hint; clear hint
 clear h1 h2 h3 hsz hbl hseq ht
 refine callsIn_of_wp Tryz.func58 rfl trivial ?_ rfl
 simp only [Tryz.ntmps58, List.size_toArray, List.length_cons, List.length_nil, Nat.reduceAdd, Nat.reduceSub, Array.replicate_succ, Array.replicate_zero, List.push_toArray, List.append_toArray, List.nil_append, List.cons_append]
 gi_wp2_with (first
  | (gi_at_call 101; refine (cK _ _).mono ?_; rintro e w' ⟨rfl, rfl⟩)
  | (gi_at_call 100; refine cS.mono ?_; rintro e w' ⟨v, ss, rfl, hS, hrow, hnil, hb⟩))
 rw [HR.out]
 have hrow' := ownsRow_base_a (base' := w.heap.size) hrow (by simp)
 have hbb : Ext w w' := ((Below.refl _ w).alloc (Nat.le_refl _) _).trans (hb.mono (by simp))
 have hi := HI.out ss hS
 have hl : ss.length = (namesU U).length := by rw [← hi]; exact (List.mergeSort_perm ss _).length_eq.symm
 have hi2 : (ss.mergeSort fun x y => decide (x ≤ y)) = namesU U := hi
 rw [hi2, hl] at hrow'
 have hv : ∃ a c, v = .slice a (namesU U).length c ∧ (namesU U).length ≤ c := by
  rcases hrow'.2 with ⟨q1, q2⟩ | ⟨g, c, cur, q1, _, _, q3, _⟩
  · exact ⟨none, 0, by rw [q1, q2], by omega⟩
  · exact ⟨_, c, q1, q3⟩
 obtain ⟨a, c, rfl, hc⟩ := hv
 exact ⟨a, c, rfl, hrow', hc, hbb⟩
def GetU (U : List UnitD) (n : Bs) (w : World) (e : Ending) (w' : World) : Prop :=
 ∃ A C, e = .returned (.tuple #[unitV ((getU U n).getD uzD) A C, .bool (hasU U n)]) ∧ (∀ f, 1 ≤ f → f ≤ 6 → OwnS w' w.heap.size (A f) (C f) (((getU U n).getD uzD).row f) ∧ (((getU U n).getD uzD).row f).length ≤ C f) ∧ Ext w w'
set_option maxRecDepth 100000 in
set_option maxHeartbeats 6400000 in
theorem graph_Get {w : World} {gb ub N : Nat} {hv ov : Value} {U : List UnitD} {A : GraphA} (ht : w.heap[gb]? = some (.cells #[.map (some ub), hv, ov] 164 (0, 0))) (hm : MapF keyS w 9 ub N (unitF U A)) (hr : ∀ n u, getU U n = some u → UnitR w u (A.ua n) ∧ ∀ f, 1 ≤ f → f ≤ 6 → (u.row f).length ≤ 100000) (n : Bs) (hn : n.length ≤ 100000) :
 Calls Tryz.prog 84 #[.pointer (some ⟨gb, 0, none⟩), .string (bs n)] w (GetU U n w) := by
 obtain ⟨R, hR⟩ : ∃ R, R = GetU U n w := ⟨_, rfl⟩
 rw [← hR]
 have HR := Lib.hid hR; clear hR
 obtain ⟨V, hV⟩ : ∃ V, V = (getU U n).getD uzD := ⟨_, rfl⟩
 obtain ⟨AV, CV, hf, hUR, hUL⟩ : ∃ AV CV, (unitF U A n).getD (.agg (unitC uzD (fun _ => none) (fun _ => 0))) = unitV V AV CV ∧ UnitR w V AV ∧ ∀ f, 1 ≤ f → f ≤ 6 → (V.row f).length ≤ 100000 := by
  unfold unitF
  rw [hV]
  cases hg : getU U n with
  | none =>
    have h0 : ∀ f, uzD.row f = [] := fun f => by unfold UnitD.row uzD; split <;> rfl
    exact ⟨fun _ => none, fun _ => 0, rfl, fun f _ _ => by show Strs w none (uzD.row f); rw [h0]; exact Strs.nil _ _, fun f _ _ => by show (uzD.row f).length ≤ _; rw [h0]; exact Nat.zero_le _⟩
  | some u => exact ⟨A.ua n, A.uc n, rfl, (hr n u hg).1, (hr n u hg).2⟩
 have hx := Ext.alloc w (.cells #[.string ⟨#[]⟩, .slice none 0 0, .slice none 0 0, .slice none 0 0, .slice none 0 0, .slice none 0 0, .slice none 0 0, .int .i64 0] 84)
 have c0 : (w.alloc (.cells #[.string ⟨#[]⟩, .slice none 0 0, .slice none 0 0, .slice none 0 0, .slice none 0 0, .slice none 0 0, .slice none 0 0, .int .i64 0] 84)).cell? ⟨gb, 0, none⟩ = some (.map (some ub)) := blk_cell (hx.heap ht) 0 (.map (some ub)) rfl
 have hlk := (hm.ext hx).look_ok str_keyed Tryz.underlying161 (Tryz.zeroValue84 _) (key_by hn)
 have hz : (.agg #[.string ⟨#[]⟩, .slice none 0 0, .slice none 0 0, .slice none 0 0, .slice none 0 0, .slice none 0 0, .slice none 0 0, .int .i64 0] : Value) = .agg (unitC uzD (fun _ => none) (fun _ => 0)) := rfl
 rw [hz, hf, unitF_some] at hlk
 obtain ⟨ok, hok⟩ : ∃ ok, ok = hasU U n := ⟨_, rfl⟩
 rw [← hok] at hlk
 have hx2 : Ext w ((w.alloc (.cells #[.string ⟨#[]⟩, .slice none 0 0, .slice none 0 0, .slice none 0 0, .slice none 0 0, .slice none 0 0, .slice none 0 0, .int .i64 0] 84)).alloc (.cells #[.string (bs V.name), .slice (AV 1) V.files.length (CV 1), .slice (AV 2) V.after.length (CV 2), .slice (AV 3) V.before.length (CV 3), .slice (AV 4) V.reqs.length (CV 4), .slice (AV 5) V.wants.length (CV 5), .slice (AV 6) V.partof.length (CV 6), .int .i64 V.retry] 84)) := hx.trans (Ext.alloc _ _)
 have hcl := graph_clone V AV CV _ (fun f h1 h6 => (hUR f h1 h6).ext hx2) hUL
 have hb1 := (Ext.alloc _ (.cells #[.string (bs V.name), .slice (AV 1) V.files.length (CV 1), .slice (AV 2) V.after.length (CV 2), .slice (AV 3) V.before.length (CV 3), .slice (AV 4) V.reqs.length (CV 4), .slice (AV 5) V.wants.length (CV 5), .slice (AV 6) V.partof.length (CV 6), .int .i64 V.retry] 84)).heap (heap_alloc_new w (.cells #[.string ⟨#[]⟩, .slice none 0 0, .slice none 0 0, .slice none 0 0, .slice none 0 0, .slice none 0 0, .slice none 0 0, .int .i64 0] 84))
 have HB1 := Lib.hid hb1; have HX2 := Lib.hid hx2; have HCL := Lib.hid hcl; have HV := Lib.hid hV; have HOK := Lib.hid hok
 clear hb1 hx2 hcl hV hok hUR hUL hf hx hz hr hm ht
 unfold unitV at hlk
 have hd := heap_alloc_new (w.alloc (.cells #[.string ⟨#[]⟩, .slice none 0 0, .slice none 0 0, .slice none 0 0, .slice none 0 0, .slice none 0 0, .slice none 0 0, .int .i64 0] 84)) (.cells #[.string (bs V.name), .slice (AV 1) V.files.length (CV 1), .slice (AV 2) V.after.length (CV 2), .slice (AV 3) V.before.length (CV 3), .slice (AV 4) V.reqs.length (CV 4), .slice (AV 5) V.wants.length (CV 5), .slice (AV 6) V.partof.length (CV 6), .int .i64 V.retry] 84)
 simp only [World.size_alloc] at hd
 have d0 := blk_cell hd 0 _ rfl
 have d1 := blk_cell hd 1 _ rfl
 have d2 := blk_cell hd 2 _ rfl
 have d3 := blk_cell hd 3 _ rfl
 have d4 := blk_cell hd 4 _ rfl
 have d5 := blk_cell hd 5 _ rfl
 have d6 := blk_cell hd 6 _ rfl
 have d7 := blk_cell hd 7 _ rfl
 clear hd
 go_enter Tryz.func84, Tryz.ntmps84
 go_wp2_with (go_at_call 90; refine Hid.out ?_)
 refine Lib.hid ?_
 refine HCL.out.mono ?_
 rintro e w3 ⟨A', C', rfl, hO, hx3⟩
 have hB := hx3.heap HB1.out
 have b0 := blk_cell hB 0 _ rfl
 have b1 := blk_cell hB 1 _ rfl
 have b2 := blk_cell hB 2 _ rfl
 have b3 := blk_cell hB 3 _ rfl
 have b4 := blk_cell hB 4 _ rfl
 have b5 := blk_cell hB 5 _ rfl
 have b6 := blk_cell hB 6 _ rfl
 have b7 := blk_cell hB 7 _ rfl
 have f0 := blk_free hB 0
 have f1 := blk_free hB 1
 have f2 := blk_free hB 2
 have f3 := blk_free hB 3
 have f4 := blk_free hB 4
 have f5 := blk_free hB 5
 have f6 := blk_free hB 6
 have f7 := blk_free hB 7
 have HS2 : Hid (w.heap.size ≤ ((w.alloc (.cells #[.string ⟨#[]⟩, .slice none 0 0, .slice none 0 0, .slice none 0 0, .slice none 0 0, .slice none 0 0, .slice none 0 0, .int .i64 0] 84)).alloc (.cells #[.string (bs V.name), .slice (AV 1) V.files.length (CV 1), .slice (AV 2) V.after.length (CV 2), .slice (AV 3) V.before.length (CV 3), .slice (AV 4) V.reqs.length (CV 4), .slice (AV 5) V.wants.length (CV 5), .slice (AV 6) V.partof.length (CV 6), .int .i64 V.retry] 84)).heap.size) := Lib.hid (by simp; omega)
 have HO := Lib.hid hO; have HX3 := Lib.hid (HX2.out.trans hx3); have HB := Lib.hid hB
 clear hO hx3 hB hlk c0 d0 d1 d2 d3 d4 d5 d6 d7
 generalize hs : w.heap.size = s at *
 have HS := Lib.hid hs; clear hs
 unfold unitV
 go_wp2_with fail
 have hs8 := set8 HB.out (.string (bs V.name)) (.slice (A' 1) V.files.length (C' 1)) (.slice (A' 2) V.after.length (C' 2)) (.slice (A' 3) V.before.length (C' 3)) (.slice (A' 4) V.reqs.length (C' 4)) (.slice (A' 5) V.wants.length (C' 5)) (.slice (A' 6) V.partof.length (C' 6)) (.int .i64 V.retry)
 obtain ⟨hs8, hbut⟩ := hs8
 generalize ((((((((w3.setCell ⟨s, 0, none⟩ (.string (bs V.name))).setCell ⟨s, 1, none⟩ (.slice (A' 1) V.files.length (C' 1))).setCell ⟨s, 2, none⟩ (.slice (A' 2) V.after.length (C' 2))).setCell ⟨s, 3, none⟩ (.slice (A' 3) V.before.length (C' 3))).setCell ⟨s, 4, none⟩ (.slice (A' 4) V.reqs.length (C' 4))).setCell ⟨s, 5, none⟩ (.slice (A' 5) V.wants.length (C' 5))).setCell ⟨s, 6, none⟩ (.slice (A' 6) V.partof.length (C' 6))).setCell ⟨s, 7, none⟩ (.int .i64 V.retry)) = wf at hs8 hbut ⊢
 have z0 := blk_cell hs8 0 _ rfl
 have z1 := blk_cell hs8 1 _ rfl
 have z2 := blk_cell hs8 2 _ rfl
 have z3 := blk_cell hs8 3 _ rfl
 have z4 := blk_cell hs8 4 _ rfl
 have z5 := blk_cell hs8 5 _ rfl
 have z6 := blk_cell hs8 6 _ rfl
 have z7 := blk_cell hs8 7 _ rfl
 refine bodyPost_ret (v := .tuple #[unitV V A' C', .bool ok]) (by simp [results, Tryz.results84, go_sem, z0, z1, z2, z3, z4, z5, z6, z7, unitV]) rfl ?_
 rw [HR.out]
 have hkb := Keep.of_but hbut
 refine ⟨A', C', by rw [HV.out, HOK.out], fun f h1 h6 => ?_, ?_⟩
 · have := HO.out f h1 h6
   rw [← HV.out]
   refine ⟨(this.1.keep hkb fun g cs hg e => ?_).base2 (by rw [HS.out]; exact HS2.out), this.2⟩
   have e : g = s := e
   rw [e, HB.out] at hg
   injection (Option.some.inj hg) with _ h3
   exact absurd h3 (by decide)
 · exact ((Keep.of_ext (S := (· < w.heap.size)) HX3.out).trans (hkb.mono fun g _ hg => by have hg : g < w.heap.size := hg; show g ≠ s; have := HS.out; omega)).ext_lt
end Go.Proofs.YtefpllpichhojaaGreatDoor
namespace Go.Proofs.YtefpllpichhojaaGreatDoor
open Go.RowKit
structure BehA where
 ra : Bs → Option Addr
 rc : Bs → Nat
def behV (b : Bs → List Bs) (A : BehA) : Bs → Option Value := fun n => if b n = [] then none else some (.slice (A.ra n) (b n).length (A.rc n))
def behRow (b : Bs → List Bs) (A : BehA) (n : Bs) : Option Addr := if b n = [] then none else A.ra n
def behCap (b : Bs → List Bs) (A : BehA) (n : Bs) : Nat := if b n = [] then 0 else A.rc n
def RowsB (b : Bs → List Bs) (A : BehA) (g : Nat) : Prop := ∃ n x, behRow b A n = some x ∧ x.block = g
structure BehM (w : World) (base hb N : Nat) (b : Bs → List Bs) (A : BehA) : Prop where
 map : MapF keyS w 9 hb N (behV b A)
 row : ∀ n, OwnS w base (behRow b A n) (behCap b A n) (b n)
 apart : ∀ n m x y, behRow b A n = some x → behRow b A m = some y → x.block = y.block → n = m
section
variable {w w' : World} {base hb N : Nat} {b : Bs → List Bs} {A : BehA}
theorem BehM.lookV (n : Bs) : ((behV b A n).getD (.slice none 0 0)) = .slice (behRow b A n) (b n).length (behCap b A n) := by
 unfold behV behRow behCap
 by_cases h : b n = []
 · rw [if_pos h, if_pos h, if_pos h, h]; rfl
 · rw [if_neg h, if_neg h, if_neg h]; rfl
theorem OwnS.blk {a : Option Addr} {c : Nat} {L : List Bs} (h : OwnS w base a c L) {x : Addr} (hx : a = some x) : base ≤ x.block ∧ ∃ cs, w.heap[x.block]? = some (.cells cs 9 (0, 0)) := by
 rcases h.2 with ⟨h1, _⟩ | ⟨g, c', cur, h1, hb, hg, _⟩
 · rw [(Value.slice.inj h1).1] at hx; cases hx
 · cases h1
   cases hx
   exact ⟨hb, cur, hg⟩
theorem BehM.ext (h : BehM w base hb N b A) (k : Ext w w') : BehM w' base hb N b A := ⟨h.map.ext k, fun n => (h.row n).ext k, h.apart⟩
theorem BehM.lt (h : BehM w base hb N b A) {g : Nat} (hg : RowsB b A g) : g < w.heap.size ∧ base ≤ g ∧ ∃ cs, w.heap[g]? = some (.cells cs 9 (0, 0)) := by
 obtain ⟨n, x, hx, rfl⟩ := hg
 obtain ⟨h1, cs, h2⟩ := (h.row n).blk hx
 exact ⟨(Array.getElem?_eq_some_iff.1 h2).1, h1, cs, h2⟩
theorem BehM.mono (h : BehM w base hb N b A) {M : Nat} (hM : N ≤ M) : BehM w base hb M b A := ⟨h.map.mono hM, h.row, h.apart⟩
theorem BehM.put {w2 w3 w4 : World} (h : BehM w base hb N b A) (k2 : Ext w w2) (n x : Bs) {ad : Option Addr} {cap : Nat} (hown : OwnS w3 base ad cap (b n ++ [x])) (k3 : Keep (fun g => some g ≠ (Value.slice (behRow b A n) (b n).length (behCap b A n)).ownBlock) w2 w3)
 (hat : ∀ y, ad = some y → (∃ z, behRow b A n = some z ∧ y.block = z.block) ∨ y.block = w2.heap.size) (hm : MapF keyS w4 9 hb (N + 1) (fun z => if z = n then some (.slice ad (b n ++ [x]).length cap) else behV b A z)) (k4 : Keep (· ≠ hb) w3 w4) (hmb : ∃ es cl, w3.heap[hb]? = some (.map es cl)) :
 ∃ A', BehM w4 base hb (N + 1) (fun z => if z = n then b n ++ [x] else b z) A' ∧ Keep (fun g => g ≠ hb ∧ ¬ RowsB b A g) w w4 ∧ ∀ g, RowsB (fun z => if z = n then b n ++ [x] else b z) A' g → RowsB b A g ∨ w.heap.size ≤ g := by
 have hne : b n ++ [x] ≠ [] := by simp
 have ha : ∀ m, behRow (fun z => if z = n then b n ++ [x] else b z) ⟨fun z => if z = n then ad else A.ra z, fun z => if z = n then cap else A.rc z⟩ m = if m = n then ad else behRow b A m := fun m => by
  unfold behRow
  by_cases e : m = n
  · simp [e]
  · simp [e]
 have hc : ∀ m, behCap (fun z => if z = n then b n ++ [x] else b z) ⟨fun z => if z = n then ad else A.ra z, fun z => if z = n then cap else A.rc z⟩ m = if m = n then cap else behCap b A m := fun m => by
  unfold behCap
  by_cases e : m = n
  · simp [e]
  · simp [e]
 obtain ⟨es, cl, hmb⟩ := hmb
 have hnb : ∀ g cs, w3.heap[g]? = some (.cells cs 9 (0, 0)) → g ≠ hb := fun g cs hg e => by rw [e, hmb] at hg; cases hg
 refine ⟨⟨fun z => if z = n then ad else A.ra z, fun z => if z = n then cap else A.rc z⟩, ⟨hm.same ?_, fun m => ?_, fun m m' y y' hy hy' e => ?_⟩, ?_, fun g hg => ?_⟩
 · funext z
   unfold behV
   by_cases e : z = n
   · simp [e]
   · simp [e]
 · rw [ha, hc]
   by_cases e : m = n
   · subst e
     rw [if_pos rfl, if_pos rfl]
     simp only [if_pos]
     exact hown.keep k4 hnb
   · rw [if_neg e, if_neg e]
     simp only [if_neg e]
     have h1 := (h.row m).ext k2
     have h2 : OwnS w3 base (behRow b A m) (behCap b A m) (b m) := ownsRow_keep h1 k3 (fun g cur hv _ hg => fun e2 => by
      obtain ⟨z, hz, e3⟩ := ownBlock_some e2.symm
      obtain ⟨z', hz', e4⟩ := ownBlock_some (g := g) (by rw [hv])
      exact e (h.apart m n z' z hz' hz (e4.symm.trans e3)))
     exact h2.keep k4 hnb
 · rw [ha] at hy hy'
   have hold : ∀ m z, m ≠ n → behRow b A m = some z → ∀ y, ad = some y → y.block = z.block → False := fun m z hmn hz y hy e => by
    rcases hat y hy with ⟨z', hz', e'⟩ | e'
    · exact hmn (h.apart m n z z' hz hz' (e.symm.trans e'))
    · obtain ⟨_, cs, h2⟩ := (h.row m).blk hz
      have := (Array.getElem?_eq_some_iff.1 h2).1
      have := k2.size
      omega
   by_cases e1 : m = n
   · rw [if_pos e1] at hy
     by_cases e2 : m' = n
     · rw [e1, e2]
     · rw [if_neg e2] at hy'
       exact (hold m' y' e2 hy' y hy e).elim
   · rw [if_neg e1] at hy
     by_cases e2 : m' = n
     · rw [if_pos e2] at hy'
       exact (hold m y e1 hy y' hy' e.symm).elim
     · rw [if_neg e2] at hy'
       exact h.apart m m' y y' hy hy' e
 · refine ((Keep.of_ext (S := fun g => g ≠ hb ∧ ¬ RowsB b A g) k2).trans (k3.mono fun g _ hg e => ?_)).trans (k4.mono fun g _ hg => hg.1)
   obtain ⟨z, hz, e3⟩ := ownBlock_some e.symm
   exact hg.2 ⟨n, z, hz, e3.symm⟩
 · obtain ⟨m, y, hy, rfl⟩ := hg
   rw [ha] at hy
   by_cases e : m = n
   · rw [if_pos e] at hy
     rcases hat y hy with ⟨z, hz, e'⟩ | e'
     · exact Or.inl ⟨n, z, hz, e'.symm⟩
     · exact Or.inr (by have := k2.size; omega)
   · rw [if_neg e] at hy
     exact Or.inl ⟨m, y, hy, rfl⟩
end
theorem putU_nil (U : List UnitD) (b : Bs → List Bs) (n : Bs) : putU U b n [] = b := by
 funext z
 unfold putU
 split
 · rename_i h; rw [h.1]; simp
 · rfl
theorem putU_no {U : List UnitD} {b : Bs → List Bs} {n : Bs} {os : List Bs} (h : hasU U n = false) : putU U b n os = b := by
 funext z
 unfold putU
 rw [if_neg (by rw [h]; simp)]
theorem putU_snoc {U : List UnitD} {b : Bs → List Bs} {n : Bs} {os : List Bs} {x : Bs} (hn : hasU U n = true) : putU U b n (os ++ [x]) = if hasU U x = true then (fun z => if z = n then putU U b n os n ++ [x] else putU U b n os z) else putU U b n os := by
 have e1 : putU U b n os n = b n ++ os.filter (hasU U) := by unfold putU; rw [if_pos ⟨rfl, hn⟩]
 by_cases hx : hasU U x = true
 · rw [if_pos hx]
   funext z
   by_cases e : z = n
   · subst e
     rw [if_pos rfl, e1]
     unfold putU
     rw [if_pos ⟨rfl, hn⟩, List.filter_append, List.filter_cons, if_pos hx]
     simp
   · rw [if_neg e]
     unfold putU
     rw [if_neg (fun h => e h.1), if_neg (fun h => e h.1)]
 · rw [if_neg hx]
   funext z
   unfold putU
   rw [List.filter_append, List.filter_cons, if_neg hx]
   simp
end Go.Proofs.YtefpllpichhojaaGreatDoor
namespace Go.Proofs.YtefpllpichhojaaGreatDoor
open Go.RowKit
set_option maxRecDepth 100000 in
set_option maxHeartbeats 1600000 in
theorem grow_s (n : Nat) (hn : n ≤ 200000) (w : World) :
 Calls Tryz.prog 135 #[.slice none 0 0, .int .i64 n] w fun e w' => ∃ a c, e = .returned (.slice a 0 c) ∧ OwnS w' w.heap.size a c [] ∧ Ext w w' := by
 obtain ⟨R, hR⟩ : ∃ R : Ending → World → Prop, R = fun e w' => ∃ a c, e = .returned (.slice a 0 c) ∧ OwnS w' w.heap.size a c [] ∧ Ext w w' := ⟨_, rfl⟩
 rw [← hR]
 have HR := Lib.hid hR; clear hR
 have h1 : decide ((n : Int) < 0) = false := decide_eq_false (by omega)
 by_cases h0 : n = 0
 · subst h0
   go_enter Tryz.func135, Tryz.ntmps135
   go_wp2_with fail
   rw [HR.out]
   exact ⟨none, 0, rfl, OwnS.nil _ _, Ext.refl _⟩
 · obtain ⟨i0, hi, hz, hsz, hby⟩ := info_parts info_string
   have hrz : ∀ ty, (Builtin.append_ #[29, 3] ty #[.slice none 0 0, .int .i64 n]).run Tryz.prog w = _ := fun ty => Lib.run_append_nil_zeros w 29 3 ty 9 i0 (.string ⟨#[]⟩) .i64 .i64 Tryz.underlying29 Tryz.underlying3 hi hz n (by omega) (by omega) (by omega) (by rw [hby]; omega)
   have hG1 : n ≤ grownCap w n 0 9 := grownCap_ge w _ _ _
   have hG2 := grownCap_le_maxLen w n 0 9 (by unfold maxLen; omega)
   obtain ⟨G, hG⟩ : ∃ G, G = grownCap w n 0 9 := ⟨_, rfl⟩
   rw [← hG] at hrz hG1 hG2
   have hown : OwnS (w.drew.alloc (.cells (Builtin.zeroCells (Value.string ⟨#[]⟩).cells n ++ Builtin.zeroCells (Value.string ⟨#[]⟩).cells (G - n)) 9)) w.heap.size (some ⟨w.heap.size, 0, none⟩) G [] := by
    refine ⟨by simp, Or.inr ⟨w.heap.size, G, _, rfl, Nat.le_refl _, heap_alloc_new w.drew _, Nat.zero_le _, hG2, ?_, by simp⟩⟩
    rw [Array.size_append, size_zeroCells, size_zeroCells, show (Value.string ⟨#[]⟩).cells.size = 1 from rfl]
    omega
   have hx : Ext w (w.drew.alloc (.cells (Builtin.zeroCells (Value.string ⟨#[]⟩).cells n ++ Builtin.zeroCells (Value.string ⟨#[]⟩).cells (G - n)) 9)) := ((Ext.refl w).drew).trans (Ext.alloc _ _)
   have HO := Lib.hid hown; have HX := Lib.hid hx
   clear hown hx hi hz hsz hby hG
   unfold maxLen at hG2
   go_enter Tryz.func135, Tryz.ntmps135
   go_wp2_with (at_builtin; refine Lib.wpList_append_run _ rfl _ _ _ _ rfl _ _ rfl rfl _ _ (hrz _) ?_)
   rw [HR.out]
   exact ⟨_, _, rfl, HO.out, HX.out⟩
def sumTwo (n1 n2 k : Nat) : Nat := if k = 0 then 0 else if k = 1 then n1 else n1 + n2
def catTwo (L1 L2 : List Bs) (k : Nat) : List Bs := if k = 0 then [] else if k = 1 then L1 else L1 ++ L2
set_option maxRecDepth 100000 in
set_option maxHeartbeats 3200000 in
theorem concat_s {w : World} {B : Nat} {a1 a2 : Option Addr} {c1 c2 : Nat} {L1 L2 : List Bs} (hb : w.heap[B]? = some (.cells #[.slice a1 L1.length c1, .slice a2 L2.length c2] 29 (0, 0))) (h1 : Strs w a1 L1) (h2 : Strs w a2 L2) (hl1 : L1.length ≤ 50000) (hl2 : L2.length ≤ 50000) :
 Calls Tryz.prog 91 #[.slice (some ⟨B, 0, none⟩) 2 2] w (NamesG (L1 ++ L2) w) := by
 obtain ⟨R, hR⟩ : ∃ R, R = NamesG (L1 ++ L2) w := ⟨_, rfl⟩
 rw [← hR]
 have HR := Lib.hid hR; clear hR
 obtain ⟨n1, hn1⟩ : ∃ n, n = L1.length := ⟨_, rfl⟩
 obtain ⟨n2, hn2⟩ : ∃ n, n = L2.length := ⟨_, rfl⟩
 rw [← hn1, ← hn2] at hb
 rw [← hn1] at hl1
 rw [← hn2] at hl2
 have d0 := blk_cell hb 0 _ rfl
 have d1 := blk_cell hb 1 _ rfl
 have HN1 := Lib.hid hn1; have HN2 := Lib.hid hn2; have HB := Lib.hid hb; have H1 := Lib.hid h1; have H2 := Lib.hid h2
 clear hn1 hn2 hb h1 h2
 go_enter Tryz.func91, Tryz.ntmps91
 go_wp2_with fail
 go_loopw [3, 11] (fun s i wr => ∃ k : Nat, i = .int .i64 k ∧ k ≤ 2 ∧ s = .int .i64 (sumTwo n1 n2 k : Nat) ∧ wr = w) (fun _ i _ => 2 - (intOf i).toNat)
 case atStart => exact ⟨0, rfl, by omega, rfl, rfl⟩
 case round =>
  obtain ⟨k, rfl, hk, rfl, rfl⟩ := hrel
  have hkk : k = 0 ∨ k = 1 ∨ k = 2 := by omega
  rcases hkk with rfl | rfl | rfl
  · have e : sumTwo n1 n2 0 = 0 := rfl
    rw [e]
    go_wp2_with fail
    go_roundw
    case rel => exact ⟨1, by go_num, by omega, by first | rfl | (unfold sumTwo; go_num), by first | rfl | trivial⟩
    case measure => simp [intOf]
  · have e : sumTwo n1 n2 1 = n1 := rfl
    rw [e]
    go_wp2_with fail
    go_roundw
    case rel => exact ⟨2, by go_num, by omega, by first | rfl | (unfold sumTwo; go_num), by first | rfl | trivial⟩
    case measure => simp [intOf]
  · have e : sumTwo n1 n2 2 = n1 + n2 := rfl
    rw [e]
    clear d0 d1
    obtain ⟨w0, rfl⟩ : ∃ x : World, x = wr := ⟨_, rfl⟩
    have hgr := grow_s (n1 + n2) (by omega) w0
    have HGR := Lib.hid hgr; clear hgr
    go_wp2_with (go_at_call 135; refine HGR.out.mono ?_; rintro e w1 ⟨a, c, rfl, hO, hx⟩; have HO := Lib.hid hO; have HX := Lib.hid hx; clear hO hx)
    go_loopw [6, 27] (fun s i wr => ∃ (k : Nat) (a : Option Addr) (c : Nat), i = .int .i64 k ∧ k ≤ 2 ∧ s = .slice a (sumTwo n1 n2 k) c ∧ Hid (OwnS wr w0.heap.size a c (catTwo L1 L2 k)) ∧ Hid (Ext w0 wr)) (fun _ i _ => 2 - (intOf i).toNat)
    case atStart => exact ⟨0, a, c, rfl, by omega, rfl, HO, HX⟩
    case round =>
     obtain ⟨k, a, c, rfl, hk, rfl, hO, hx⟩ := hrel
     have hkk : k = 0 ∨ k = 1 ∨ k = 2 := by omega
     rcases hkk with rfl | rfl | rfl
     · have e : sumTwo n1 n2 0 = 0 := rfl
       rw [e]
       have d0 := blk_cell (hx.out.heap HB.out) 0 _ rfl
       go_wp2_with (at_builtin; refine wpList_append_any rfl _ _ 29 9 (.string ⟨#[]⟩) 1 16 rfl Tryz.underlying29 info_string rfl (by decide) w0.heap.size a 0 c [] rfl hO.out a1 n1 c1 (textV L1) rfl (by rw [textV_len, HN1.out, Nat.mul_one]) (strs_runS.1 (H1.out.ext hx.out)) (textV_one L1) (by omega) (by decide) hx.out.size n1 (by omega) ?_; intro a' c' w' hown _ hbl; have HO2 := Lib.hid hown; have HX2 := Lib.hid (Ext.of_below' hx.out hbl); clear hown hbl)
       go_roundw
       case rel => exact ⟨1, a', c', by go_num, by omega, rfl, Lib.hid (by have h := HO2.out; unfold OwnS; rw [show catTwo L1 L2 1 = L1 from rfl, ← HN1.out]; simpa [textV] using h), HX2⟩
       case measure => simp [intOf]
     · have e : sumTwo n1 n2 1 = n1 := rfl
       rw [e]
       have d1 := blk_cell (hx.out.heap HB.out) 1 _ rfl
       have hO1 : wr.ownsRow w0.heap.size 9 1 (.slice a n1 c) n1 (textV L1) := by
        have h := hO.out
        unfold OwnS at h
        rw [show catTwo L1 L2 1 = L1 from rfl, ← HN1.out] at h
        exact h
       have HO1 := Lib.hid hO1; clear hO1
       go_wp2_with (at_builtin; refine wpList_append_any rfl _ _ 29 9 (.string ⟨#[]⟩) 1 16 rfl Tryz.underlying29 info_string rfl (by decide) w0.heap.size a n1 c (textV L1) rfl HO1.out a2 n2 c2 (textV L2) rfl (by rw [textV_len, HN2.out, Nat.mul_one]) (strs_runS.1 (H2.out.ext hx.out)) (textV_one L2) (by omega) (by decide) hx.out.size (n1 + n2) rfl ?_; intro a' c' w' hown _ hbl; have HO2 := Lib.hid hown; have HX2 := Lib.hid (Ext.of_below' hx.out hbl); clear hown hbl)
       go_roundw
       case rel => exact ⟨2, a', c', by go_num, by omega, rfl, Lib.hid (by have h := HO2.out; unfold OwnS; rw [show catTwo L1 L2 2 = L1 ++ L2 from rfl, List.length_append, ← HN1.out, ← HN2.out]; simpa [textV] using h), HX2⟩
       case measure => simp [intOf]
     · have e : sumTwo n1 n2 2 = n1 + n2 := rfl
       rw [e]
       go_wp2_with fail
       rw [HR.out]
       have h := hO.out
       rw [show catTwo L1 L2 2 = L1 ++ L2 from rfl] at h
       refine ⟨a, c, by rw [List.length_append, ← HN1.out, ← HN2.out]; rfl, h, (OwnS.strs h).2, hx.out⟩
end Go.Proofs.YtefpllpichhojaaGreatDoor
namespace Go.Proofs.YtefpllpichhojaaGreatDoor
open Go.RowKit
theorem own_cutS {w : World} {base E g c n : Nat} {us vs : List Value} (h : w.ownsRow base E 1 (.slice (some ⟨g, 0, none⟩) n c) n us) (hv : vs.length = n) {k : Nat} (hk : k ≤ n) :
 (w.setCells g 0 vs).ownsRow base E 1 (.slice (some ⟨g, 0, none⟩) k c) k (vs.take k) ∧ Keep (· ≠ g) w (w.setCells g 0 vs) := by
 rcases h.2 with ⟨h1, _⟩ | ⟨g', c', cur, h1, hb, hg, hn, hm, hs, ht⟩
 · cases h1
 · obtain ⟨rfl, rfl⟩ : g = g' ∧ c = c' := by
    injection h1 with e1 _ e2
    injection (Option.some.inj e1) with e3
    exact ⟨e3, e2⟩
   refine ⟨⟨by rw [List.length_take]; omega, ?_⟩, setCells_keep vs 0 w⟩
   obtain ⟨cs, hc, hcs⟩ := setCells_blk vs 0 w ⟨cur, hg, rfl⟩
   refine Or.inr ⟨g, c, cs, rfl, hb, hc, by omega, hm, by rw [hcs]; exact hs, ?_⟩
   have hth : w.there g 0 vs.length := fun j hj => by
    rw [Nat.zero_add]
    refine ⟨?_, blk_free hg j⟩
    rw [cell_of_row _ _ _ _ _ _ hg]
    have : j < cur.size := by omega
    simp [this]
   have hr := World.rangeAt_setCells_same w g 0 vs hth
   apply List.ext_getElem?
   intro j
   rw [Nat.mul_one, List.getElem?_take, List.getElem?_take]
   by_cases hj : j < k
   · rw [if_pos hj, if_pos hj]
     have hjv : j < vs.length := by omega
     have := hr j vs[j] (List.getElem?_eq_getElem hjv)
     rw [Nat.zero_add, cell_of_row _ _ _ _ _ _ hc] at this
     rw [List.getElem?_eq_getElem hjv, ← this]
     simp
   · rw [if_neg hj, if_neg hj]
theorem contains_s (a : Option Addr) (c : Nat) (L : List Bs) (x : Bs) (w : World) (hS : Strs w a L) (hl : L.length ≤ 1000000) :
 Calls Tryz.prog 139 #[.slice a L.length c, .string (bs x)] w fun e w' => e = .returned (.bool (decide (x ∈ L))) ∧ Ext w w' := by
 rcases hS with h | ⟨g, off, ha, _, hc⟩
 · subst h
   refine (Tryz.slices_Contains_string_empty a c (bs x) w).mono ?_
   rintro e w' ⟨he, rfl⟩
   exact ⟨by rw [he]; simp, Ext.refl _⟩
 · subst ha
   refine (Tryz.slices_Contains_string g off L.length c (L.map bs) (bs x) w (by simp) (by omega) (fun j hj => by
    have hj' : j < L.length := by simpa using hj
    rw [hc j hj']
    simp [List.getD_eq_getElem?_getD, hj'])).mono ?_
   rintro e w' ⟨he, rfl⟩
   refine ⟨?_, Ext.refl _⟩
   rw [he]
   congr 2
   rw [Bool.eq_iff_iff, Lib.containsS_iff, decide_eq_true_eq, List.take_of_length_le (by simp), List.mem_map]
   constructor
   · rintro ⟨y, hy, e⟩
     have : y = x := by
      have := congrArg (fun s => s.data.toList) e
      simpa [bs_data] using this
     rw [← this]; exact hy
   · intro h
     exact ⟨x, h, rfl⟩
theorem OwnS.cells {w : World} {base c : Nat} {a : Option Addr} {L : List Bs} (h : OwnS w base a c L) (hL : L ≠ []) : ∃ g, a = some ⟨g, 0, none⟩ ∧ base ≤ g ∧ L.length ≤ c ∧ c ≤ maxLen ∧ (∃ cs, w.heap[g]? = some (.cells cs 9 (0, 0))) ∧ ∀ j, j < L.length → w.cell? ⟨g, j, none⟩ = some (.string (bs (L.getD j []))) := by
 rcases h.2 with ⟨h1, h2⟩ | ⟨g, c', cur, h1, hb, hg, hn, hm, hs, ht⟩
 · exact absurd (List.eq_nil_of_length_eq_zero h2) hL
 · obtain ⟨e1, _, e2⟩ := Value.slice.inj h1
   subst e1 e2
   refine ⟨g, rfl, hb, hn, hm, ⟨cur, hg⟩, fun j hj => ?_⟩
   have := h.cellAt j (by omega)
   rw [this]
   simp [hj]
theorem delete_s {w : World} {base c : Nat} {a : Option Addr} {L : List Bs} (h : OwnS w base a c L) {i : Nat} (hi : i < L.length) :
 Calls Tryz.prog 140 #[.slice a L.length c, .int .i64 i, .int .i64 ((i : Int) + 1)] w fun e w' => e = .returned (.slice a (L.eraseIdx i).length c) ∧ OwnS w' base a c (L.eraseIdx i) ∧ Keep (fun g => ∀ x, a = some x → g ≠ x.block) w w' := by
 obtain ⟨g, rfl, hb, hn, hm, ⟨cs, hg⟩, hc⟩ := h.cells (fun e => by rw [e] at hi; simp at hi)
 have hdel := Tryz.slices_Delete_string_cells g 0 L.length c i (i + 1) (fun j => bs (L.getD j [])) w hn (by unfold maxLen at hm; omega) (Nat.le_succ i) hi (fun j hj => by rw [Nat.zero_add]; exact hc j hj) (fun j hj => blk_free hg _)
 have hst : Lib.strsOf (fun j => bs (L.getD j [])) L.length = L := by
  unfold Lib.strsOf
  apply List.ext_getElem
  · simp
  · intro j h1 h2
    simp [bs_data, h2]
 rw [hst, Nat.add_sub_cancel_left] at hdel
 have hle : (L.eraseIdx i).length = L.length - 1 := List.length_eraseIdx_of_lt hi
 rw [show ((i + 1 : Nat) : Int) = (i : Int) + 1 by omega, ← hle] at hdel
 refine hdel.mono ?_
 rintro e w' ⟨he, q, rfl⟩
 have hw : ∀ v : List Value, v.length = L.length → (w.drewN q).ownsRow base 9 1 (.slice (some ⟨g, 0, none⟩) L.length c) L.length (textV L) := fun _ _ => by
  have := ownsRow_keep h (Keep.of_ext (S := fun _ => True) ((Ext.refl w).drewN q)) fun _ _ _ _ _ => trivial
  exact this
 have hvl : (((L.take i ++ L.drop (i + 1) ++ List.replicate 1 []).map encStr : List Value)).length = L.length := by simp; omega
 obtain ⟨h1, h2⟩ := own_cutS (hw _ hvl) hvl (k := (L.eraseIdx i).length) (by omega)
 have het : ((L.take i ++ L.drop (i + 1) ++ List.replicate 1 []).map encStr).take (L.eraseIdx i).length = textV (L.eraseIdx i) := by
  rw [List.map_append, ← List.eraseIdx_eq_take_drop_succ, List.take_left' (by simp)]
  rfl
 rw [het] at h1
 refine ⟨he, h1, (Keep.of_ext (S := fun g' => ∀ x, some (⟨g, 0, none⟩ : Addr) = some x → g' ≠ x.block) ((Ext.refl w).drewN q)).trans (h2.mono fun g' _ hg' => hg' _ rfl)⟩
end Go.Proofs.YtefpllpichhojaaGreatDoor
