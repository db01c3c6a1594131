/- proc's Get, List. -/
import Derived.Test.YtachelbodpfckaaGreatDoorProcSet
import Derived.Test.YtachelbodpfckaaGreatDoorCloneI
import Derived.Test.YtachelbodpfckaaGreatDoorMapKeysI
import Derived.Shelf.SlIterI.Nil
import Derived.Shelf.SlIterI.Sorted
import Derived.Shelf.AbstractIn
namespace Go.Proofs.YtachelbodpfckaaGreatDoor
open Go.RowKit Go.Maps Go.Sort Go.Shelf
variable [Low]
omit [Low] in
theorem sorts_ints (m : Nat) : AnyZI.SortsIn Tryz.prog Tryz.sorted_int_ren Fence.wide m :=
 ⟨fun blk off cap ss W hH hblk hsz => callsIn_wide.2 (AnyM.slices_Sort_int Tryz.sort_int blk off cap ss W hH hblk hsz),
  fun p cap W => callsIn_wide.2 (AnyM.slices_Sort_int_none Tryz.sort_int p cap W)⟩
section
variable {X : Nat → Prop} {w w' : World} {tb pm vb db kb n N off top : Nat} {q : Int} {F : FileS} {P : TabD} {A : Int → ProcA}
def pidsP (P : TabD) : List Int := P.list.map ProcD.pid
theorem ProcB.sorted (h : ProcB X w tb pm vb N P A) : (pidsP P).Pairwise (fun x y => x < y) := List.pairwise_map.2 h.good.sorted
set_option maxRecDepth 100000 in
set_option maxHeartbeats 3200000 in
theorem proc_List (h : SysP X w tb vb db kb n N off top q F P) (hN : N ≤ 1000000000) :
 Calls Tryz.prog 15 #[.pointer (some ⟨tb, 0, none⟩)] w fun e w' => ∃ a c, e = .returned (.slice a (pidsP P).length c) ∧ OwnIs w' w.heap.size a c (pidsP P) ∧ Ext w w' := by
 obtain ⟨R, hR⟩ : ∃ R : Ending → World → Prop, R = fun e w' => ∃ a c, e = .returned (.slice a (pidsP P).length c) ∧ OwnIs w' w.heap.size a c (pidsP P) ∧ Ext w w' := ⟨_, rfl⟩
 rw [← hR]
 have HR := Lib.hid hR; clear hR
 obtain ⟨pm, A, hb, hv, hh⟩ := h
 have c1 := blk_cell hb.top 1 (.map (some pm)) rfl
 obtain ⟨D, h1, h2, h3⟩ := hb.map
 have hsz := h1.size_le
 have hbl := h1.lt
 refine (callsIn_wide (n := 6)).1 ?_
 have cK : ∀ mb W, CallsIn Fence.wide 5 Tryz.prog 33 #[.map mb] W fun e w' => e = .returned (.func (.func 53) #[] #[.pointer (some ⟨W.heap.size, 0, none⟩)]) ∧ w' = W.alloc (.cells #[.map mb] 77) := fun mb W => AnyZI.keys_in Tryz.keysI_proc_Proc Fence.wide 5 trivial rfl mb W
 have hseq : SeqGives Fence.wide 2 Tryz.prog 53 #[.pointer (some ⟨w.heap.size, 0, none⟩)] encZ (fun ss => ss.Perm (intKeys D)) (Maps.size D) (w.alloc (.cells #[.map (some pm)] 77)) :=
  AnyZI.keys_gives (ρ := Tryz.keysI_proc_Proc_ren) { Tryz.keysI_proc_Proc with } Fence.wide _ trivial rfl (by omega) w.heap.size pm N D _ (by simp) (by simp) (by
   obtain ⟨es, clock, hb, Ft, hs, hD⟩ := h1
   exact ⟨es, clock, (Below.heap_alloc _ _ pm hbl).trans hb, Ft, hs, hD⟩)
 have cS := AnyZI.sorted_in Tryz.sorted_int Fence.wide 5 trivial trivial trivial trivial rfl (by omega) (sorts_ints _) (enters_of Tryz.func52 (by kernel_rfl) rfl) 53 #[.pointer (some ⟨w.heap.size, 0, none⟩)] trivial (enters_of Tryz.func53 (by kernel_rfl) rfl) _ _ (by unfold maxLen; omega) (by omega) _ hseq
 change CallsIn _ _ Tryz.prog 32 _ _ _ at cS
 have hfK : Fence.wide.fn 33 := trivial
 have hfS : Fence.wide.fn 32 := trivial
 have hint : ∀ ss : List Int, ss.Perm (intKeys D) → ss.mergeSort leI = pidsP P := fun ss hp => by
  obtain ⟨g1, g2, g3⟩ := sorted_ints h1 (f := procF P A) (fun x => (h3 x).2) hp
  have hs := hb.sorted
  refine List.Perm.eq_of_pairwise (le := fun a b : Int => a ≤ b) (fun a b _ _ h1 h2 => by omega) g1 (hs.imp fun {a b} hab => by omega) ?_
  refine (List.perm_ext_iff_of_nodup g2 (hs.imp fun {a b} hab e => by omega)).2 fun x => ?_
  rw [g3 x]
  unfold pidsP procF
  cases hg : getP P x with
  | none =>
    simp only [Option.map_none, Option.isSome_none, Bool.false_eq_true, false_iff]
    intro h5
    obtain ⟨p, hp, e⟩ := List.mem_map.1 h5
    exact getP_none hg p hp e
  | some p =>
    obtain ⟨h4, h5⟩ := getP_some hg
    simp only [Option.map_some, Option.isSome_some, true_iff]
    exact List.mem_map.2 ⟨p, h4, h5⟩
 have HI := Lib.hid hint; clear hint
 clear h1 h2 h3 hsz hbl hseq hb hv hh
 refine callsIn_of_wp Tryz.func15 rfl trivial ?_ rfl
 simp only [Tryz.ntmps15, List.size_toArray, List.length_cons, List.length_nil, Nat.reduceAdd, Nat.reduceSub, Array.replicate_succ, Array.replicate_zero, List.push_toArray, List.append_toArray, List.nil_append, List.cons_append]
 gi_wp2_with (first
  | (gi_at_call 33; refine (cK _ _).mono ?_; rintro e w' ⟨rfl, rfl⟩)
  | (gi_at_call 32; refine cS.mono ?_; rintro e w' ⟨v, ss, rfl, hS, hrow, hnil, hb⟩))
 rw [HR.out]
 have hrow' := ownsRow_base_a (base' := w.heap.size) hrow (by simp)
 have hbb : Ext w w' := ((Below.refl _ w).alloc (Nat.le_refl _) _).trans (hb.mono (by simp))
 have hi := HI.out ss hS
 have hl : ss.length = (pidsP P).length := by rw [← hi]; exact (List.mergeSort_perm ss _).length_eq.symm
 have hi2 : (ss.mergeSort fun x y => decide (x ≤ y)) = pidsP P := hi
 rw [hi2, hl] at hrow'
 have hv : ∃ a c, v = .slice a (pidsP P).length c := by
  rcases hrow'.2 with ⟨q1, q2⟩ | ⟨g, c, cur, q1, _⟩
  · exact ⟨none, 0, by rw [q1, q2]⟩
  · exact ⟨_, c, q1⟩
 obtain ⟨a, c, rfl⟩ := hv
 exact ⟨a, c, rfl, hrow', hbb⟩
def GotR (P : TabD) (i : Int) (w : World) (e : Ending) (w' : World) : Prop :=
 (match getP P i with
 | none => e = .returned (.tuple #[.agg #[.int .i64 0, .string ⟨#[]⟩, .slice none 0 0, .bool false], .bool false])
 | some p => ∃ a c, e = .returned (.tuple #[.agg #[.int .i64 p.pid, .string (bs p.unit), .slice a p.maps.length c, .bool p.ending], .bool true]) ∧ OwnIs w' w.heap.size a c p.maps) ∧ Ext w w'
set_option maxRecDepth 100000 in
set_option maxHeartbeats 6400000 in
theorem proc_Get (h : SysP X w tb vb db kb n N off top q F P) (i : Int) (h1 : -9223372036854775808 ≤ i) (h2 : i ≤ 9223372036854775807) :
 Calls Tryz.prog 26 #[.pointer (some ⟨tb, 0, none⟩), .int .i64 i] w (GotR P i w) := by
 obtain ⟨R, hR⟩ : ∃ R : Ending → World → Prop, R = GotR P i w := ⟨_, rfl⟩
 rw [← hR]
 have HR := Lib.hid hR; clear hR
 obtain ⟨pm, A, hb, hv, hh⟩ := h
 have hx := Ext.alloc w (.cells #[.int .i64 0, .string ⟨#[]⟩, .slice none 0 0, .bool false] 68)
 have c1 := blk_cell (hx.heap hb.top) 1 (.map (some pm)) rfl
 have hlk := (hb.map.ext hx).lookup int_keyedA Tryz.underlying77 (Tryz.zeroValue80 _) (key_int h1 h2)
 cases hg : getP P i with
 | none =>
   rw [procF_none hg] at hlk
   have HG := Lib.hid hg; have HX := Lib.hid hx
   clear hb hv hh hg hx
   dsimp only [Option.getD] at hlk
   go_enter Tryz.func26, Tryz.ntmps26
   go_wp2_with fail
   have hz := heap_alloc_new w (.cells #[.int .i64 0, .string ⟨#[]⟩, .slice none 0 0, .bool false] 68)
   have d0 := blk_cell hz 0 _ rfl
   have d1 := blk_cell hz 1 _ rfl
   have d2 := blk_cell hz 2 _ rfl
   have d3 := blk_cell hz 3 _ rfl
   refine bodyPost_ret (v := .tuple #[.agg #[.int .i64 0, .string ⟨#[]⟩, .slice none 0 0, .bool false], .bool false]) (by simp [results, Tryz.results26, go_sem, d0, d1, d2, d3]) rfl ?_
   rw [HR.out]
   unfold GotR
   rw [HG.out]
   exact ⟨rfl, HX.out⟩
 | some p =>
   rw [procF_some hg] at hlk
   obtain ⟨hp, rfl⟩ := getP_some hg
   have hpr := hb.proc p hp
   have hx2 : Ext w ((w.alloc (.cells #[.int .i64 0, .string ⟨#[]⟩, .slice none 0 0, .bool false] 68)).alloc (.cells (procV p (A p.pid)) 68)) := hx.trans (Ext.alloc _ _)
   have hm8 := hb.good.maps p hp
   generalize A p.pid = Ap at hlk hpr hx2
   obtain ⟨pb, ma, mc⟩ := Ap
   have hcl := fun W (k : Ext w W) => clone_i ma mc p.maps W (OwnIs.runI (hpr.2.keep (Keep.of_ext (S := fun _ => True) k) fun _ _ _ _ => trivial)) (by omega)
   have e0 := blk_cell (hx.heap hpr.1) 0 (.int .i64 p.pid) rfl
   have e1 := blk_cell (hx.heap hpr.1) 1 (.string (bs p.unit)) rfl
   have e2 := blk_cell (hx.heap hpr.1) 2 (.slice ma p.maps.length mc) rfl
   have e3 := blk_cell (hx.heap hpr.1) 3 (.bool p.ending) rfl
   have e4 := blk_cell (hx2.heap hpr.1) 2 (.slice ma p.maps.length mc) rfl
   have HG := Lib.hid hg; have HX2 := Lib.hid hx2; have HCL := Lib.hid hcl
   have hszw : pb < w.heap.size := (Array.getElem?_eq_some_iff.1 hpr.1).1
   clear hb hv hh hg hx hx2 hcl hpr hm8 hp
   dsimp only [Option.getD] at hlk
   go_enter Tryz.func26, Tryz.ntmps26
   go_wp2_with (go_at_call 44; refine Hid.out ?_)
   refine Lib.hid ?_
   refine (HCL.out _ HX2.out).mono ?_
   rintro e w3 ⟨a', c', rfl, hO, hx3⟩
   have hz := hx3.heap ((Ext.alloc (w.alloc (.cells #[.int .i64 0, .string ⟨#[]⟩, .slice none 0 0, .bool false] 68)) (.cells (procV p ⟨pb, ma, mc⟩) 68)).heap (heap_alloc_new w (.cells #[.int .i64 0, .string ⟨#[]⟩, .slice none 0 0, .bool false] 68)))
   have hn := hx3.heap (heap_alloc_new (w.alloc (.cells #[.int .i64 0, .string ⟨#[]⟩, .slice none 0 0, .bool false] 68)) (.cells (procV p ⟨pb, ma, mc⟩) 68))
   simp only [World.size_alloc] at hn
   have hz3 := hx3.size
   have g0 := blk_cell hn 0 (.int .i64 p.pid) rfl
   have g1 := blk_cell hn 1 (.string (bs p.unit)) rfl
   have g2 := blk_cell hn 2 (.slice ma p.maps.length mc) rfl
   have g3 := blk_cell hn 3 (.bool p.ending) rfl
   have k2 := blk_free hn 2
   have d0 := blk_cell hz 0 (.int .i64 0) rfl
   have d1 := blk_cell hz 1 (.string ⟨#[]⟩) rfl
   have d2 := blk_cell hz 2 (.slice none 0 0) rfl
   have d3 := blk_cell hz 3 (.bool false) rfl
   have q0 := blk_free hz 0
   have q1 := blk_free hz 1
   have q2 := blk_free hz 2
   have q3 := blk_free hz 3
   have HO := Lib.hid hO; have HZ := Lib.hid hz; have HN := Lib.hid hn
   have HX3 := Lib.hid (HX2.out.trans hx3)
   clear hO hx3 hz hn e0 e1 e2 e3 e4 hlk c1
   have HS2 : Hid (w.heap.size + 2 ≤ ((w.alloc (.cells #[.int .i64 0, .string ⟨#[]⟩, .slice none 0 0, .bool false] 68)).alloc (.cells (procV p ⟨pb, ma, mc⟩) 68)).heap.size) := Lib.hid (by simp)
   generalize ((w.alloc (.cells #[.int .i64 0, .string ⟨#[]⟩, .slice none 0 0, .bool false] 68)).alloc (.cells (procV p ⟨pb, ma, mc⟩) 68)).heap.size = s2 at HO HS2
   generalize hsz : w.heap.size = s at *
   have HSZ := Lib.hid hsz; clear hsz
   go_wp2_with fail
   have hk1 : Keep (· ≠ s + 1) w3 (w3.setCell ⟨s + 1, 2, none⟩ (.slice a' p.maps.length c')) := (Keep.refl _ _).setCell (fun _ h => h) _ _
   have hz1 := hk1.heap (show s ≠ s + 1 by omega) HZ.out
   generalize w3.setCell ⟨s + 1, 2, none⟩ (.slice a' p.maps.length c') = w4 at hk1 hz1 ⊢
   have hz2 := setCell_row (setCell_row (setCell_row (setCell_row hz1 (i := 0) (.int .i64 p.pid)) (i := 1) (.string (bs p.unit))) (i := 2) (.slice a' p.maps.length c')) (i := 3) (.bool p.ending)
   have hk2 : Keep (· ≠ s) w4 ((((w4.setCell ⟨s, 0, none⟩ (.int .i64 p.pid)).setCell ⟨s, 1, none⟩ (.string (bs p.unit))).setCell ⟨s, 2, none⟩ (.slice a' p.maps.length c')).setCell ⟨s, 3, none⟩ (.bool p.ending)) := ((((Keep.refl _ _).setCell (fun _ h => h) _ _).setCell (fun _ h => h) _ _).setCell (fun _ h => h) _ _).setCell (fun _ h => h) _ _
   generalize ((((w4.setCell ⟨s, 0, none⟩ (.int .i64 p.pid)).setCell ⟨s, 1, none⟩ (.string (bs p.unit))).setCell ⟨s, 2, none⟩ (.slice a' p.maps.length c')).setCell ⟨s, 3, none⟩ (.bool p.ending)) = wf at hz2 hk2 ⊢
   clear d0 d1 d2 d3 q0 q1 q2 q3 g0 g1 g2 g3 k2
   have d0 := blk_cell hz2 0 (.int .i64 p.pid) rfl
   have d1 := blk_cell hz2 1 (.string (bs p.unit)) rfl
   have d2 := blk_cell hz2 2 (.slice a' p.maps.length c') rfl
   have d3 := blk_cell hz2 3 (.bool p.ending) rfl
   refine bodyPost_ret (v := .tuple #[.agg #[.int .i64 p.pid, .string (bs p.unit), .slice a' p.maps.length c', .bool p.ending], .bool true]) (by simp [results, Tryz.results26, go_sem, d0, d1, d2, d3]) rfl ?_
   rw [HR.out]
   unfold GotR
   rw [HG.out]
   have hs2 := HS2.out
   have hsz := HSZ.out
   refine ⟨⟨a', c', rfl, ?_⟩, ?_⟩
   · refine OwnIs.low ?_ (by omega : w.heap.size ≤ s2)
     have h1 := HO.out.keep hk1 fun x cs hx _ => by have := (HO.out.block hx).1; show x.block ≠ s + 1; omega
     exact h1.keep hk2 fun x cs hx _ => by have := (HO.out.block hx).1; show x.block ≠ s; omega
   · exact (((Keep.of_ext (S := fun j => j < w.heap.size) HX3.out).andThen hk1 fun j _ hj => by have hj : j < w.heap.size := hj; show j ≠ s + 1; omega).andThen hk2 fun j _ hj => by have hj : j < w.heap.size := hj; show j ≠ s; omega).ext_lt
end
end Go.Proofs.YtachelbodpfckaaGreatDoor
