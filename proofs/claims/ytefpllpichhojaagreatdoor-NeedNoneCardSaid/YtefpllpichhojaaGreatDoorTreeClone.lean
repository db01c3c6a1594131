/- tree.Clone: the same tree, apart. -/
import Derived.Test.YtefpllpichhojaaGreatDoorM8
import Derived.Test.YtefpllpichhojaaGreatDoorM14
import Derived.Test.YtefpllpichhojaaGreatDoorM5
import Derived.Shelf.SlMaps.Clone
namespace Go.Proofs.YtefpllpichhojaaGreatDoor
open Go.RowKit Go.Shelf
theorem kids_clone {w : World} {N : Nat} {k : By → Option Int} {kb : Option Nat} (h : KidsM w N k kb) :
 Calls Tryz.prog 116 #[.map kb] w fun e w' => ∃ kb', e = .returned (.map kb') ∧ KidsM w' N k kb' ∧ (∀ b, kb' = some b → b = w.heap.size) ∧ (kb' = none → kb = none) ∧ Ext w w' := by
 rcases h with ⟨rfl, rfl⟩ | ⟨b, rfl, D, h1, h2, h3⟩
 · refine (AnyW.maps_Clone_nil Tryz.mclone_string_int w).mono ?_
   rintro e w' ⟨rfl, rfl⟩
   exact ⟨none, rfl, Or.inl ⟨rfl, rfl⟩, fun b e => (by cases e), fun _ => rfl, Ext.refl _⟩
 · refine (AnyW.maps_Clone_owns Tryz.mclone_string_int 9 selfR b N D w h1).mono ?_
   rintro e w' ⟨rfl, h4, _, hB⟩
   exact ⟨some w.heap.size, rfl, Or.inr ⟨_, rfl, D, h4, h2, h3⟩, fun b e => (Option.some.inj e).symm, fun e => (by cases e), hB⟩
section
variable {base tb mb N L : Nat} {T : TreeD} {A : Int → NodeA}
def CloneTR (S N : Nat) (T : TreeD) (w : World) (e : Ending) (w' : World) : Prop := ∃ ub um A', e = .returned (.pointer (some ⟨ub, 0, none⟩)) ∧ TreeM w' S ub um N T A' ∧ Ext w w'
theorem MapG.iter {α : Type} {c : α → Lit} {w : World} {k : TypeId} {b r n cnt : Nat} {f : α → Option Value} {left : α → Bool} (h : MapG c w k b r n f left cnt) : ∃ m s q c0, w.heap[r]? = some (.mapIter m s q c0) := by
 obtain ⟨D, lf, ⟨es, clock, since, seen, c0, _, _, _, _, h5, _⟩, _⟩ := h
 exact ⟨_, _, _, _, h5⟩
theorem nodeF_nil {T : TreeD} {A : Int → NodeA} (h : T.ids = []) : nodeF T A = fun _ => none := by
 funext i
 unfold nodeF
 rw [h]
 simp
def seenD (T : TreeD) (left : Int → Bool) : TreeD := { T with ids := seenT T.ids left }
set_option maxRecDepth 100000 in
set_option maxHeartbeats 6400000 in
theorem tree_Clone (w : World) (hT : TreeM w base tb mb N T A) (hg : GoodT T) (hf : FitT T L) (hLN : L ≤ N) (hN : N ≤ 1000000000) :
 Calls Tryz.prog 75 #[.pointer (some ⟨tb, 0, none⟩)] w (CloneTR w.heap.size N T w) := by
 obtain ⟨R, hR⟩ : ∃ R, R = CloneTR w.heap.size N T w := ⟨_, rfl⟩
 rw [← hR]
 have HR := Lib.hid hR; clear hR
 have hnx := hf.next
 have HT := Lib.hid hT; clear hT
 have HG := Lib.hid hg; clear hg
 have HF := Lib.hid hf; clear hf
 have hmk := @run_makeMap Tryz.prog
 have hcs : ∀ W, Ext w W → (W.cell? ⟨tb, 1, none⟩ = some (.int .i64 T.next) ∧ W.cell? ⟨tb, 2, none⟩ = some (.int .i64 T.quota)) := fun W k => ⟨blk_cell (HT.out.ext k).top 1 _ rfl, blk_cell (HT.out.ext k).top 2 _ rfl⟩
 have HCS := Lib.hid hcs; clear hcs
 obtain ⟨S, hS⟩ : ∃ S, S = w.heap.size := ⟨_, rfl⟩
 rw [← hS] at HR
 go_enter Tryz.func75, Tryz.ntmps75
 go_upto_region 1 with fail
 have HK := Lib.hid ((Ext.refl w).drew)
 refine wp_region_noPanic ?_
 refine wp_region_held_drew (S := (fun W => W.cell? ⟨tb, 1, none⟩ = some (.int .i64 T.next) ∧ W.cell? ⟨tb, 2, none⟩ = some (.int .i64 T.quota))) (by kernel_rfl) (HCS.out _ HK.out) (fun hHeld => ?_)
 clear hHeld
 generalize w.drew = wc at HK ⊢
 refine wpAnyH_take (i := 1) (v := ?_) rfl (by kernel_rfl) (by kernel_rfl) (by kernel_rfl) (fun _ _ _ h => h) (Or.inl ⟨by kernel_rfl, ?_⟩) (HCS.out _ HK.out) ?_
 rotate_left
 · (intro wq _; first | (go_simp; done) | (go_simp; with_reducible rfl))
 try simp only [List.getElem_toArray, List.getElem_cons_zero, List.getElem_cons_succ, Act.put, List.setIfInBounds_toArray, List.set_cons_zero, List.set_cons_succ]
 refine wpAnyH_take (i := 2) (v := ?_) rfl (by kernel_rfl) (by kernel_rfl) (by kernel_rfl) (fun _ _ _ h => h) (Or.inl ⟨by kernel_rfl, ?_⟩) (HCS.out _ HK.out) ?_
 rotate_left
 · (intro wq _; first | (go_simp; done) | (go_simp; with_reducible rfl))
 try simp only [List.getElem_toArray, List.getElem_cons_zero, List.getElem_cons_succ, Act.put, List.setIfInBounds_toArray, List.set_cons_zero, List.set_cons_succ]
 refine wpAnyH_take (i := 3) (v := ?_) rfl (by kernel_rfl) (by kernel_rfl) (by kernel_rfl) (fun _ _ _ h => h) (Or.inl ⟨by kernel_rfl, ?_⟩) (HCS.out _ HK.out) ?_
 rotate_left
 · (intro wq _; first | (go_simp; done) | (go_simp; with_reducible rfl))
 try simp only [List.getElem_toArray, List.getElem_cons_zero, List.getElem_cons_succ, Act.put, List.setIfInBounds_toArray, List.set_cons_zero, List.set_cons_succ]
 refine wpAnyH_take (i := 4) (v := ?_) rfl (by kernel_rfl) (by kernel_rfl) (by kernel_rfl) (fun _ _ _ h => h) (Or.inl ⟨by kernel_rfl, ?_⟩) (HCS.out _ HK.out) ?_
 rotate_left
 · (intro wq hSw; (try dsimp only at hSw); first | (go_simp; done) | (go_simp; with_reducible rfl))
 try simp only [List.getElem_toArray, List.getElem_cons_zero, List.getElem_cons_succ, Act.put, List.setIfInBounds_toArray, List.set_cons_zero, List.set_cons_succ]
 refine wpAnyH_take (i := 5) (v := ?_) rfl (by kernel_rfl) (by kernel_rfl) (by kernel_rfl) (fun _ _ _ h => h) (Or.inl ⟨by kernel_rfl, ?_⟩) (HCS.out _ HK.out) ?_
 rotate_left
 · (intro wq _; first | (go_simp; done) | (go_simp; with_reducible rfl))
 try simp only [List.getElem_toArray, List.getElem_cons_zero, List.getElem_cons_succ, Act.put, List.setIfInBounds_toArray, List.set_cons_zero, List.set_cons_succ]
 refine wpAnyH_take (i := 6) (v := ?_) rfl (by kernel_rfl) (by kernel_rfl) (by kernel_rfl) (fun _ _ _ h => h) (Or.inl ⟨by kernel_rfl, ?_⟩) (HCS.out _ HK.out) ?_
 rotate_left
 · (intro wq _; first | (go_simp; done) | (go_simp; with_reducible rfl))
 try simp only [List.getElem_toArray, List.getElem_cons_zero, List.getElem_cons_succ, Act.put, List.setIfInBounds_toArray, List.set_cons_zero, List.set_cons_succ]
 refine wpAnyH_take (i := 7) (v := ?_) rfl (by kernel_rfl) (by kernel_rfl) (by kernel_rfl) (fun _ _ _ h => h) (Or.inl ⟨by kernel_rfl, ?_⟩) (HCS.out _ HK.out) ?_
 rotate_left
 · (intro wq _; first | (go_simp; done) | (go_simp; with_reducible rfl))
 try simp only [List.getElem_toArray, List.getElem_cons_zero, List.getElem_cons_succ, Act.put, List.setIfInBounds_toArray, List.set_cons_zero, List.set_cons_succ]
 refine wpAnyH_take (i := 8) (v := ?_) rfl (by kernel_rfl) (by kernel_rfl) (by kernel_rfl) (fun _ _ _ h => h) (Or.inl ⟨by kernel_rfl, ?_⟩) (HCS.out _ HK.out) ?_
 rotate_left
 · (intro wq hSw; (try dsimp only at hSw); first | (go_simp; done) | (go_simp; with_reducible rfl))
 try simp only [List.getElem_toArray, List.getElem_cons_zero, List.getElem_cons_succ, Act.put, List.setIfInBounds_toArray, List.set_cons_zero, List.set_cons_succ]
 all_goals (
  first
   | refine wpAnyH_ready (rs := [0]) (by decide +kernel) (by simp) ?_
  repeat' (first | exact AllReadyH.nil | (refine AllReadyH.cons rfl (fun K hK => ?_) ?_)))
 all_goals (
  first
   | (go_simp
      first
       | (have hx := Ext.alloc wc (.map #[] 0)
          have hmf := MapF.made keyI wc 3
          have hle := HK.out.size
          refine hK.out _ (wc.alloc (.map #[] 0)) (HCS.out _ (HK.out.trans hx)) (fun _ => ?_)
          clear hK K
          replace HK := Lib.hid (HK.out.trans hx)
          obtain ⟨um, hum⟩ : ∃ z, z = wc.heap.size := ⟨_, rfl⟩
          rw [← hum] at hmf hle ⊢
          have HM := Lib.hid hmf
          clear hmf hum hx
          generalize wc.alloc (.map #[] 0) = wc at *
          try simp only [List.getElem_toArray, List.getElem_cons_zero, List.getElem_cons_succ, Act.put, List.setIfInBounds_toArray, List.set_cons_zero, List.set_cons_succ]
          refine wpAnyH_take (i := 9) (v := ?_) rfl (by kernel_rfl) (by kernel_rfl) (by kernel_rfl) (fun _ _ _ h => h) (Or.inl ⟨by kernel_rfl, ?_⟩) (HCS.out _ HK.out) ?_
          rotate_left
          · (intro wq _; first | (go_simp; done) | (go_simp; with_reducible rfl))
          try simp only [List.getElem_toArray, List.getElem_cons_zero, List.getElem_cons_succ, Act.put, List.setIfInBounds_toArray, List.set_cons_zero, List.set_cons_succ])))
 all_goals (
  first
   | refine wpAnyH_ready (rs := [10]) (by decide +kernel) (by simp) ?_
  repeat' (first | exact AllReadyH.nil | (refine AllReadyH.cons rfl (fun K hK => ?_) ?_)))
 all_goals (
  first
   | (go_simp
      first
       | (have hx := Ext.alloc wc (.cells #[.map (some um), .int .i64 T.next, .int .i64 T.quota] 203)
          have hbn := heap_alloc_new wc (.cells #[.map (some um), .int .i64 T.next, .int .i64 T.quota] 203)
          have hle2 := HK.out.size
          refine hK.out _ (wc.alloc (.cells #[.map (some um), .int .i64 T.next, .int .i64 T.quota] 203)) (HCS.out _ (HK.out.trans hx)) (fun _ => ?_)
          clear hK K
          replace HM := Lib.hid (HM.out.ext hx)
          replace HK := Lib.hid (HK.out.trans hx)
          obtain ⟨ub, hub⟩ : ∃ z, z = wc.heap.size := ⟨_, rfl⟩
          rw [← hub] at hbn hle2 ⊢
          have HU := Lib.hid hbn
          clear hbn hub hx
          generalize wc.alloc (.cells #[.map (some um), .int .i64 T.next, .int .i64 T.quota] 203) = wc at *
          try simp only [List.getElem_toArray, List.getElem_cons_zero, List.getElem_cons_succ, Act.put, List.setIfInBounds_toArray, List.set_cons_zero, List.set_cons_succ]
          refine wpAnyH_take (i := 11) (v := ?_) rfl (by kernel_rfl) (by kernel_rfl) (by kernel_rfl) (fun _ _ _ h => h) (Or.inl ⟨by kernel_rfl, ?_⟩) (HCS.out _ HK.out) ?_
          rotate_left
          · (intro wq _; first | (go_simp; done) | (go_simp; with_reducible rfl))
          try simp only [List.getElem_toArray, List.getElem_cons_zero, List.getElem_cons_succ, Act.put, List.setIfInBounds_toArray, List.set_cons_zero, List.set_cons_succ])))
 all_goals (
  refine wpAnyH_done (by kernel_rfl) ?_ _
  refine NoPanic.normal ?_
  skip)
 rw [← hS] at hle hle2
 have hT0 : TreeM wc S ub um N (seenD T (fun i => (nodeF T A i).isSome)) A := by
  have he : (seenD T (fun i => (nodeF T A i).isSome)).ids = [] := seen_none (fun x hx => (nodeF_ids T A x).1 hx)
  have hno : ∀ i, i ∉ (seenD T (fun i => (nodeF T A i).isSome)).ids := fun i hi => by
   rw [he] at hi; cases hi
  exact ⟨HU.out, (HM.out.mono (Nat.zero_le _)).same (nodeF_nil he).symm, fun i hi => absurd hi (hno i), fun i hi => absurd hi (hno i), fun i hi => absurd hi (hno i), fun i hi => absurd hi (hno i), fun i hi => absurd hi (hno i), hle2, hle, fun i hi => absurd hi (hno i)⟩
 have hM0 : MapF keyI wc 3 um (seenT T.ids (fun i => (nodeF T A i).isSome)).length (nodeF (seenD T (fun i => (nodeF T A i).isSome)) A) := by
  have he : (seenD T (fun i => (nodeF T A i).isSome)).ids = [] := seen_none (fun x hx => (nodeF_ids T A x).1 hx)
  exact (HM.out.mono (Nat.zero_le _)).same (nodeF_nil he).symm
 have HT0 := Lib.hid hT0; clear hT0
 have HM0 := Lib.hid hM0; clear hM0 HM HU
 have hTc := HT.out.ext HK.out
 have c1 := blk_cell hTc.top 0 (Value.map (some mb)) rfl
 have HTC := Lib.hid hTc; clear hTc
 have hml := HT.out.map.lt
 have hul := HT0.out.map.lt
 have hmm : mb ≠ um := by omega
 have htl := (Array.getElem?_eq_some_iff.1 HT.out.top).1
 go_wp2_with (first
  | (at_range; refine wpList_range_F rfl _ 201 rfl 200 int_keyedA Tryz.underlying201 mb N (nodeF T A) rfl HTC.out.map ?_; intro w0 c0 hg0 hx0 hs0)
  | go_in)
 go_frame
 obtain ⟨r, hr⟩ : ∃ r, r = wc.heap.size := ⟨_, rfl⟩
 rw [← hr] at hg0 ⊢
 have hru : um < r := by omega
 have hrs : S ≤ r := by omega
 have HX0 := Lib.hid (HK.out.trans hx0)
 have HT1 := Lib.hid (HT0.out.ext hx0)
 have HM1 := Lib.hid (HM0.out.ext hx0)
 have HG0 := Lib.hid hg0
 clear hx0 hg0 hs0 c1 hr HT0 HM0
 go_loopw [] (fun wr => ∃ (left : Int → Bool) (cnt : Nat) (A' : Int → NodeA), Hid (MapG keyI wr 3 mb r N (nodeF T A) left cnt) ∧ Hid (TreeM wr S ub um N (seenD T left) A') ∧ Hid (MapF keyI wr 3 um (seenT T.ids left).length (nodeF (seenD T left) A')) ∧ Hid (Ext w wr)) (fun wr => wr.rangeLeft mb r)
 case atStart => exact ⟨_, c0, A, HG0, HT1, HM1, HX0⟩
 case round =>
  clear HG0 HT1 HM1 HX0 HTC HK
  obtain ⟨left, cnt, A', hg, hTu, hMu, hX⟩ := hrel
  have HGC := Lib.hid hg.out.count
  go_wp2_with (first
   | (at_next; refine wpList_next_F rfl _ rfl int_keyedA (fun x => .int .i64 x) keyI_inj inv_int mb r N (nodeF T A) left cnt rfl hg.out ?_ ?_)
   | go_in)
  rotate_left
  · intro x v w1' cnt1 hkey hlp hfp hg1 hlt1 hk1 hs1 hen
    obtain ⟨hxm, rfl⟩ := nodeF_some hfp
    have hx1' : Ext w w1' := ((Keep.of_ext (S := fun j => j < w.heap.size) hX.out).andThen hk1 (fun j hj _ => by show j ≠ r; omega)).ext_lt
    obtain ⟨im, is, iq, ic, hir⟩ := hg.out.iter
    have hTu1 : TreeM w1' S ub um N (seenD T left) A' := by
     have hc : ∀ {g : Nat} {cs : Array Value} {t : TypeId} {fr : Nat × Nat}, wr.heap[g]? = some (.cells cs t fr) → g ≠ r := fun hgc e => by rw [e, hir] at hgc; cases hgc
     have hm : ∀ {g : Nat} {es : Array MapEntry} {cl : Nat}, wr.heap[g]? = some (.map es cl) → g ≠ r := fun hgc e => by rw [e, hir] at hgc; cases hgc
     refine hTu.out.keep hk1 (fun g cs fr hgc => hc hgc) (hc hTu.out.top) (by obtain ⟨es, cl, hb⟩ := hTu.out.map.block; exact hm hb) (fun z hz => ⟨hc (hTu.out.node z hz).1, fun b hb => ?_⟩)
     obtain ⟨es, cl, hbk⟩ := (hTu.out.node z hz).2.2.2.block hb
     exact hm hbk
    have hMu1 : MapF keyI w1' 3 um (seenT T.ids left).length (nodeF (seenD T left) A') := hMu.out.keep hk1 (by show um ≠ r; omega)
    have hkx := key_int (i := x) (by have := HG.out.low x hxm; omega) (by have := HG.out.low x hxm; omega)
    have hTx := HT.out.ext hx1'
    have hcs : ∀ W, Ext w1' W → (W.cell? ⟨ub, 0, none⟩ = some (.map (some um)) ∧ W.cell? ⟨(A x).blk, 0, none⟩ = some (.bool (T.node x).dir) ∧ W.cell? ⟨(A x).blk, 1, none⟩ = some (.int .i64 (T.node x).links) ∧ W.cell? ⟨(A x).blk, 2, none⟩ = some (.slice (A x).da (T.node x).data.length (A x).dc) ∧ W.cell? ⟨(A x).blk, 3, none⟩ = some (.map (A x).kb)) := fun W k =>
     ⟨blk_cell (hTu1.ext k).top 0 _ rfl, blk_cell ((hTx.ext k).node x hxm).1 0 _ rfl, blk_cell ((hTx.ext k).node x hxm).1 1 _ rfl, blk_cell ((hTx.ext k).node x hxm).1 2 _ rfl, blk_cell ((hTx.ext k).node x hxm).1 3 _ rfl⟩
    have HCS := Lib.hid hcs; clear hcs
    have HTX := Lib.hid hTx; clear hTx
    have HTU := Lib.hid hTu1; clear hTu1
    have HMU := Lib.hid hMu1; clear hMu1
    have HG1 := Lib.hid hg1
    have HX1' := Lib.hid hx1'
    have HLT1 := Lib.hid hlt1
    have HXM := Lib.hid hxm
    have HLP := Lib.hid hlp
    clear hg1 hx1' hk1 hs1 hkey hlp hfp hlt1 hir hg hTu hMu hxm hX
    go_upto_region 5 with fail
    clear hen
    have HK := Lib.hid ((Ext.refl w1').drew)
    refine wp_region_noPanic ?_
    refine wp_region_held_drew (S := (fun W => W.cell? ⟨ub, 0, none⟩ = some (.map (some um)) ∧ W.cell? ⟨(A x).blk, 0, none⟩ = some (.bool (T.node x).dir) ∧ W.cell? ⟨(A x).blk, 1, none⟩ = some (.int .i64 (T.node x).links) ∧ W.cell? ⟨(A x).blk, 2, none⟩ = some (.slice (A x).da (T.node x).data.length (A x).dc) ∧ W.cell? ⟨(A x).blk, 3, none⟩ = some (.map (A x).kb))) (by kernel_rfl) (HCS.out _ HK.out) (fun hHeld => ?_)
    clear hHeld
    generalize w1'.drew = wc at HK ⊢
    refine wpAnyH_take (i := 0) (v := ?_) rfl (by kernel_rfl) (by kernel_rfl) (by kernel_rfl) (fun _ _ _ h => h) (Or.inl ⟨by kernel_rfl, ?_⟩) (HCS.out _ HK.out) ?_
    rotate_left
    · (intro wq _; first | (go_simp; done) | (go_simp; with_reducible rfl))
    try simp only [List.getElem_toArray, List.getElem_cons_zero, Act.put, List.setIfInBounds_toArray, List.set_cons_zero, List.set_cons_succ]
    refine wpAnyH_take (i := 1) (v := ?_) rfl (by kernel_rfl) (by kernel_rfl) (by kernel_rfl) (fun _ _ _ h => h) (Or.inl ⟨by kernel_rfl, ?_⟩) (HCS.out _ HK.out) ?_
    rotate_left
    · (intro wq _; first | (go_simp; done) | (go_simp; with_reducible rfl))
    try simp only [List.getElem_toArray, List.getElem_cons_zero, List.getElem_cons_succ, Act.put, List.setIfInBounds_toArray, List.set_cons_zero, List.set_cons_succ]
    refine wpAnyH_take (i := 2) (v := ?_) rfl (by kernel_rfl) (by kernel_rfl) (by kernel_rfl) (fun _ _ _ h => h) (Or.inl ⟨by kernel_rfl, ?_⟩) (HCS.out _ HK.out) ?_
    rotate_left
    · (intro wq _; first | (go_simp; done) | (go_simp; with_reducible rfl))
    try simp only [List.getElem_toArray, List.getElem_cons_zero, List.getElem_cons_succ, Act.put, List.setIfInBounds_toArray, List.set_cons_zero, List.set_cons_succ]
    refine wpAnyH_take (i := 3) (v := ?_) rfl (by kernel_rfl) (by kernel_rfl) (by kernel_rfl) (fun _ _ _ h => h) (Or.inl ⟨by kernel_rfl, ?_⟩) (HCS.out _ HK.out) ?_
    rotate_left
    · (intro wq hSw; (try dsimp only at hSw); first | (go_simp; done) | (go_simp; with_reducible rfl))
    try simp only [List.getElem_toArray, List.getElem_cons_zero, List.getElem_cons_succ, Act.put, List.setIfInBounds_toArray, List.set_cons_zero, List.set_cons_succ]
    refine wpAnyH_take (i := 4) (v := ?_) rfl (by kernel_rfl) (by kernel_rfl) (by kernel_rfl) (fun _ _ _ h => h) (Or.inl ⟨by kernel_rfl, ?_⟩) (HCS.out _ HK.out) ?_
    rotate_left
    · (intro wq _; first | (go_simp; done) | (go_simp; with_reducible rfl))
    try simp only [List.getElem_toArray, List.getElem_cons_zero, List.getElem_cons_succ, Act.put, List.setIfInBounds_toArray, List.set_cons_zero, List.set_cons_succ]
    refine wpAnyH_take (i := 5) (v := ?_) rfl (by kernel_rfl) (by kernel_rfl) (by kernel_rfl) (fun _ _ _ h => h) (Or.inl ⟨by kernel_rfl, ?_⟩) (HCS.out _ HK.out) ?_
    rotate_left
    · (intro wq _; first | (go_simp; done) | (go_simp; with_reducible rfl))
    try simp only [List.getElem_toArray, List.getElem_cons_zero, List.getElem_cons_succ, Act.put, List.setIfInBounds_toArray, List.set_cons_zero, List.set_cons_succ]
    refine wpAnyH_take (i := 6) (v := ?_) rfl (by kernel_rfl) (by kernel_rfl) (by kernel_rfl) (fun _ _ _ h => h) (Or.inl ⟨by kernel_rfl, ?_⟩) (HCS.out _ HK.out) ?_
    rotate_left
    · (intro wq _; first | (go_simp; done) | (go_simp; with_reducible rfl))
    try simp only [List.getElem_toArray, List.getElem_cons_zero, List.getElem_cons_succ, Act.put, List.setIfInBounds_toArray, List.set_cons_zero, List.set_cons_succ]
    refine wpAnyH_take (i := 7) (v := ?_) rfl (by kernel_rfl) (by kernel_rfl) (by kernel_rfl) (fun _ _ _ h => h) (Or.inl ⟨by kernel_rfl, ?_⟩) (HCS.out _ HK.out) ?_
    rotate_left
    · (intro wq _; first | (go_simp; done) | (go_simp; with_reducible rfl))
    try simp only [List.getElem_toArray, List.getElem_cons_zero, List.getElem_cons_succ, Act.put, List.setIfInBounds_toArray, List.set_cons_zero, List.set_cons_succ]
    refine wpAnyH_take (i := 8) (v := ?_) rfl (by kernel_rfl) (by kernel_rfl) (by kernel_rfl) (fun _ _ _ h => h) (Or.inl ⟨by kernel_rfl, ?_⟩) (HCS.out _ HK.out) ?_
    rotate_left
    · (intro wq hSw; (try dsimp only at hSw); first | (go_simp; done) | (go_simp; with_reducible rfl))
    try simp only [List.getElem_toArray, List.getElem_cons_zero, List.getElem_cons_succ, Act.put, List.setIfInBounds_toArray, List.set_cons_zero, List.set_cons_succ]
    refine wpAnyH_take (i := 9) (v := ?_) rfl (by kernel_rfl) (by kernel_rfl) (by kernel_rfl) (fun _ _ _ h => h) (Or.inl ⟨by kernel_rfl, ?_⟩) (HCS.out _ HK.out) ?_
    rotate_left
    · (intro wq _; first | (go_simp; done) | (go_simp; with_reducible rfl))
    try simp only [List.getElem_toArray, List.getElem_cons_zero, List.getElem_cons_succ, Act.put, List.setIfInBounds_toArray, List.set_cons_zero, List.set_cons_succ]
    refine wpAnyH_take (i := 10) (v := ?_) rfl (by kernel_rfl) (by kernel_rfl) (by kernel_rfl) (fun _ _ _ h => h) (Or.inl ⟨by kernel_rfl, ?_⟩) (HCS.out _ HK.out) ?_
    rotate_left
    · (intro wq _; first | (go_simp; done) | (go_simp; with_reducible rfl))
    try simp only [List.getElem_toArray, List.getElem_cons_zero, List.getElem_cons_succ, Act.put, List.setIfInBounds_toArray, List.set_cons_zero, List.set_cons_succ]
    refine wpAnyH_take (i := 11) (v := ?_) rfl (by kernel_rfl) (by kernel_rfl) (by kernel_rfl) (fun _ _ _ h => h) (Or.inl ⟨by kernel_rfl, ?_⟩) (HCS.out _ HK.out) ?_
    rotate_left
    · (intro wq _; first | (go_simp; done) | (go_simp; with_reducible rfl))
    try simp only [List.getElem_toArray, List.getElem_cons_zero, List.getElem_cons_succ, Act.put, List.setIfInBounds_toArray, List.set_cons_zero, List.set_cons_succ]
    refine wpAnyH_take (i := 12) (v := ?_) rfl (by kernel_rfl) (by kernel_rfl) (by kernel_rfl) (fun _ _ _ h => h) (Or.inl ⟨by kernel_rfl, ?_⟩) (HCS.out _ HK.out) ?_
    rotate_left
    · (intro wq hSw; (try dsimp only at hSw); first | (go_simp; done) | (go_simp; with_reducible rfl))
    try simp only [List.getElem_toArray, List.getElem_cons_zero, List.getElem_cons_succ, Act.put, List.setIfInBounds_toArray, List.set_cons_zero, List.set_cons_succ]
    refine wpAnyH_take (i := 13) (v := ?_) rfl (by kernel_rfl) (by kernel_rfl) (by kernel_rfl) (fun _ _ _ h => h) (Or.inl ⟨by kernel_rfl, ?_⟩) (HCS.out _ HK.out) ?_
    rotate_left
    · (intro wq _; first | (go_simp; done) | (go_simp; with_reducible rfl))
    try simp only [List.getElem_toArray, List.getElem_cons_zero, List.getElem_cons_succ, Act.put, List.setIfInBounds_toArray, List.set_cons_zero, List.set_cons_succ]
    refine wpAnyH_take (i := 14) (v := ?_) rfl (by kernel_rfl) (by kernel_rfl) (by kernel_rfl) (fun _ _ _ h => h) (Or.inl ⟨by kernel_rfl, ?_⟩) (HCS.out _ HK.out) ?_
    rotate_left
    · (intro wq _; first | (go_simp; done) | (go_simp; with_reducible rfl))
    try simp only [List.getElem_toArray, List.getElem_cons_zero, List.getElem_cons_succ, Act.put, List.setIfInBounds_toArray, List.set_cons_zero, List.set_cons_succ]
    refine wpAnyH_take (i := 15) (v := ?_) rfl (by kernel_rfl) (by kernel_rfl) (by kernel_rfl) (fun _ _ _ h => h) (Or.inl ⟨by kernel_rfl, ?_⟩) (HCS.out _ HK.out) ?_
    rotate_left
    · (intro wq _; first | (go_simp; done) | (go_simp; with_reducible rfl))
    try simp only [List.getElem_toArray, List.getElem_cons_zero, List.getElem_cons_succ, Act.put, List.setIfInBounds_toArray, List.set_cons_zero, List.set_cons_succ]
    refine wpAnyH_take (i := 16) (v := ?_) rfl (by kernel_rfl) (by kernel_rfl) (by kernel_rfl) (fun _ _ _ h => h) (Or.inl ⟨by kernel_rfl, ?_⟩) (HCS.out _ HK.out) ?_
    rotate_left
    · (intro wq hSw; (try dsimp only at hSw); first | (go_simp; done) | (go_simp; with_reducible rfl))
    try simp only [List.getElem_toArray, List.getElem_cons_zero, List.getElem_cons_succ, Act.put, List.setIfInBounds_toArray, List.set_cons_zero, List.set_cons_succ]
    refine wpAnyH_take (i := 17) (v := ?_) rfl (by kernel_rfl) (by kernel_rfl) (by kernel_rfl) (fun _ _ _ h => h) (Or.inl ⟨by kernel_rfl, ?_⟩) (HCS.out _ HK.out) ?_
    rotate_left
    · (intro wq _; first | (go_simp; done) | (go_simp; with_reducible rfl))
    try simp only [List.getElem_toArray, List.getElem_cons_zero, List.getElem_cons_succ, Act.put, List.setIfInBounds_toArray, List.set_cons_zero, List.set_cons_succ]
    refine wpAnyH_take (i := 18) (v := ?_) rfl (by kernel_rfl) (by kernel_rfl) (by kernel_rfl) (fun _ _ _ h => h) (Or.inl ⟨by kernel_rfl, ?_⟩) (HCS.out _ HK.out) ?_
    rotate_left
    · (intro wq _; first | (go_simp; done) | (go_simp; with_reducible rfl))
    try simp only [List.getElem_toArray, List.getElem_cons_zero, List.getElem_cons_succ, Act.put, List.setIfInBounds_toArray, List.set_cons_zero, List.set_cons_succ]
    refine wpAnyH_take (i := 19) (v := ?_) rfl (by kernel_rfl) (by kernel_rfl) (by kernel_rfl) (fun _ _ _ h => h) (Or.inl ⟨by kernel_rfl, ?_⟩) (HCS.out _ HK.out) ?_
    rotate_left
    · (intro wq _; first | (go_simp; done) | (go_simp; with_reducible rfl))
    try simp only [List.getElem_toArray, List.getElem_cons_zero, List.getElem_cons_succ, Act.put, List.setIfInBounds_toArray, List.set_cons_zero, List.set_cons_succ]
    refine wpAnyH_take (i := 20) (v := ?_) rfl (by kernel_rfl) (by kernel_rfl) (by kernel_rfl) (fun _ _ _ h => h) (Or.inl ⟨by kernel_rfl, ?_⟩) (HCS.out _ HK.out) ?_
    rotate_left
    · (intro wq hSw; (try dsimp only at hSw); first | (go_simp; done) | (go_simp; with_reducible rfl))
    try simp only [List.getElem_toArray, List.getElem_cons_zero, List.getElem_cons_succ, Act.put, List.setIfInBounds_toArray, List.set_cons_zero, List.set_cons_succ]
    all_goals (
     first
      | refine wpAnyH_ready (rs := [21]) (by decide +kernel) (by simp) ?_
     repeat' (first | exact AllReadyH.nil | (refine AllReadyH.cons rfl (fun K hK => ?_) ?_)))
    all_goals (
     first
      | (go_simp
         first
          | (go_at_call 116
             refine (kids_clone ((HTX.out.ext HK.out).node x HXM.out).2.2.2).mono ?_
             rintro E wn ⟨kb', rfl, hkd, hkb, hkn, hx⟩
             have hkf : (∀ z ∈ (seenD T left).ids, ∀ b, kb' = some b → (A' z).kb ≠ some b) ∧ (kb' ≠ some um) ∧ (∀ b, kb' = some b → S ≤ b ∧ b < wn.heap.size) := by
              have hTc := HTU.out.ext HK.out
              have hml := hTc.map.lt
              have hsz := HK.out.size
              have hsx := HX1'.out.size
              refine ⟨fun z hz b e1 e2 => ?_, fun e => ?_, fun b e => ⟨?_, ?_⟩⟩
              · obtain ⟨es, cl, hbk⟩ := (hTc.node z hz).2.2.2.block e2
                have h1 := (Array.getElem?_eq_some_iff.1 hbk).1
                have := hkb b e1
                omega
              · have := hkb um e
                omega
              · have := hkb b e
                omega
              · rcases hkd with ⟨e0, _⟩ | ⟨b', e0, hm⟩
                · rw [e] at e0; cases e0
                · rw [e] at e0; cases e0; exact hm.lt
             have HKF := Lib.hid hkf
             have HKD := Lib.hid hkd
             replace HK := Lib.hid (HK.out.trans hx)
             clear hx hkd hkb hkf
             go_wp2_with fail
             refine hK.out _ _ (HCS.out _ HK.out) (fun _ => ?_)
             clear hK K
             obtain ⟨wc, rfl⟩ : ∃ z : World, z = wn := ⟨_, rfl⟩
             try simp only [List.getElem_toArray, List.getElem_cons_zero, List.getElem_cons_succ, Act.put, List.setIfInBounds_toArray, List.set_cons_zero, List.set_cons_succ]
             refine wpAnyH_take (i := 22) (v := ?_) rfl (by kernel_rfl) (by kernel_rfl) (by kernel_rfl) (fun _ _ _ h => h) (Or.inl ⟨by kernel_rfl, ?_⟩) (HCS.out _ HK.out) ?_
             rotate_left
             · (intro wq _; first | (go_simp; done) | (go_simp; with_reducible rfl))
             try simp only [List.getElem_toArray, List.getElem_cons_zero, List.getElem_cons_succ, Act.put, List.setIfInBounds_toArray, List.set_cons_zero, List.set_cons_succ])))
    all_goals (
     first
      | refine wpAnyH_ready (rs := [23]) (by decide +kernel) (by simp) ?_
     repeat' (first | exact AllReadyH.nil | (refine AllReadyH.cons rfl (fun K hK => ?_) ?_)))
    all_goals (
     first
      | (go_simp
         first
          | (have hx := Ext.alloc wc (.cells #[.bool (T.node x).dir, .int .i64 (T.node x).links, .slice (A x).da (T.node x).data.length (A x).dc, .map kb'] 199)
             have hbn := heap_alloc_new wc (.cells #[.bool (T.node x).dir, .int .i64 (T.node x).links, .slice (A x).da (T.node x).data.length (A x).dc, .map kb'] 199)
             have hle := HK.out.size
             refine hK.out _ (wc.alloc (.cells #[.bool (T.node x).dir, .int .i64 (T.node x).links, .slice (A x).da (T.node x).data.length (A x).dc, .map kb'] 199)) (HCS.out _ (HK.out.trans hx)) (fun _ => ?_)
             clear hK K
             have hlt : ∀ z ∈ (seenD T left).ids, wc.heap.size ≠ (A' z).blk := fun z hz e => by
              have h1 := (Array.getElem?_eq_some_iff.1 ((HTU.out.ext HK.out).node z hz).1).1
              omega
             replace HKD := Lib.hid (HKD.out.keep (Keep.of_ext (S := fun _ => True) hx) (fun _ _ => trivial))
             replace HK := Lib.hid (HK.out.trans hx)
             obtain ⟨NB, hNB⟩ : ∃ z, z = wc.heap.size := ⟨_, rfl⟩
             rw [← hNB] at hbn hle hlt ⊢
             have HBN := Lib.hid hbn
             have HLT := Lib.hid hlt
             clear hbn hNB hx hlt
             generalize wc.alloc (.cells #[.bool (T.node x).dir, .int .i64 (T.node x).links, .slice (A x).da (T.node x).data.length (A x).dc, .map kb'] 199) = wc at *
             try simp only [List.getElem_toArray, List.getElem_cons_zero, List.getElem_cons_succ, Act.put, List.setIfInBounds_toArray, List.set_cons_zero, List.set_cons_succ])))
    all_goals (
     refine wpAnyH_ready (rs := [24]) (by kernel_rfl) (by simp) ?_
     refine AllReadyH.cons rfl (fun K hK => ?_) AllReadyH.nil
     have hTc := HTU.out.ext HK.out
     have hMc := HMU.out.ext HK.out
     have hXc := HTX.out.ext HK.out
     have hsx := HX1'.out.size
     have hlen : (seenT T.ids left).length ≤ L := Nat.le_trans seen_len HF.out.count
     have hnn : NodeM wc N (T.node x) ⟨NB, (A x).da, (A x).dc, kb'⟩ := ⟨HBN.out, (hXc.node x HXM.out).2.1, (hXc.node x HXM.out).2.2.1, HKD.out⟩
     obtain ⟨w2, hrun, hm2, hk2⟩ := hMc.store (t := 201) int_keyedA Tryz.underlying201 (by unfold maxLen; omega) keyI_inj (.pointer (some ⟨NB, 0, none⟩)) hkx
     have hstep := seen_step HG.out.nodup HXM.out HLP.out
     have hsl := hstep.length_eq
     rw [List.length_cons] at hsl
     have hlen2 : (seenT T.ids left).length + 1 ≤ L := by rw [← hsl]; exact Nat.le_trans seen_len HF.out.count
     have hT2 := hTc.put x hk2 hnn HLT.out HKF.out.1 HKF.out.2.1 (fun hdir => by
      obtain ⟨b, hb⟩ := HT.out.kbd x HXM.out hdir
      cases hq : kb' with
      | none => rw [hkn hq] at hb; cases hb
      | some b' => exact ⟨b', rfl⟩) ⟨by show S ≤ NB; omega, fun b e => (HKF.out.2.2 b e).1⟩ (Nat.le_refl N) (hm2.mono (by omega)) (I := seenT T.ids fun z => left z && !decide (z = x)) (fun z => seen_mem HXM.out z)
     have he : ({ seenD T left with ids := seenT T.ids fun z => left z && !decide (z = x), node := fun z => if z = x then T.node x else (seenD T left).node z } : TreeD) = seenD T fun z => left z && !decide (z = x) := by
      unfold seenD
      simp only [TreeD.mk.injEq, true_and, and_true]
      funext z
      split
      · rename_i e; rw [e]
      · rfl
     have hM2 : MapF keyI w2 3 um (seenT T.ids fun z => left z && !decide (z = x)).length (nodeF (seenD T fun z => left z && !decide (z = x)) (fun z => if z = x then ⟨NB, (A x).da, (A x).dc, kb'⟩ else A' z)) := by
      rw [hsl]
      refine hm2.same ?_
      funext z
      have hz := seen_mem (left := left) HXM.out z
      unfold nodeF seenD
      simp only
      by_cases e : z = x
      · rw [if_pos e, if_pos (hz.2 (Or.inl e)), if_pos e]
      · rw [if_neg e, if_neg e]
        have : z ∈ (seenT T.ids fun z => left z && !decide (z = x)) ↔ z ∈ seenT T.ids left := by rw [hz]; exact ⟨fun h => h.resolve_left e, Or.inr⟩
        simp only [this]
     rw [he] at hT2
     have hx2 : Ext w w2 := ((Keep.of_ext (S := fun j => j < w.heap.size) (HX1'.out.trans HK.out)).andThen hk2 (fun j hj _ => by show j ≠ um; omega)).ext_lt
     have hg2 : MapG keyI w2 3 mb r N (nodeF T A) (fun z => left z && !decide (z = x)) cnt1 := (HG1.out.ext HK.out).keep hk2 hmm (by show r ≠ um; omega)
     obtain ⟨es, cl, hbm⟩ := hMc.block
     have hne : ∀ {g : Nat} {cur : Array Value} {t : TypeId} {fr : Nat × Nat}, wc.heap[g]? = some (.cells cur t fr) → g ≠ um := fun hg e => by rw [e, hbm] at hg; cases hg
     have hxn := hk2.heap (hne (hXc.node x HXM.out).1) (hXc.node x HXM.out).1
     go_simp
     refine hK.out _ _ ⟨blk_cell hT2.top 0 _ rfl, blk_cell hxn 0 _ rfl, blk_cell hxn 1 _ rfl, blk_cell hxn 2 _ rfl, blk_cell hxn 3 _ rfl⟩ (fun _ => ?_)
     clear hK K hrun
     try simp only [List.getElem_toArray, List.getElem_cons_zero, List.getElem_cons_succ, Act.put, List.setIfInBounds_toArray, List.set_cons_zero, List.set_cons_succ])
    all_goals (
     refine wpAnyH_done (by kernel_rfl) ?_ _
     refine NoPanic.normal ?_
     have HT2 := Lib.hid hT2
     have HM2 := Lib.hid hM2
     have HX2 := Lib.hid hx2
     have HG2 := Lib.hid hg2
     clear hT2 hM2 hx2 hg2 hxn hne hbm hTc hMc hXc hnn hm2 hk2 hstep he
     go_wp2_with fail
     go_roundw
     case rel =>
      first
       | exact ⟨_, cnt1, _, HG2, HT2, HM2, HX2⟩
       | (repeat apply Exists.intro; exact ⟨⟨_, cnt1, _, HG2, HT2, HM2, HX2⟩, rfl⟩)
     case measure =>
      rw [HG2.out.count, HGC.out]
      exact HLT1.out)
  · intro hall
    have hfin : seenD T left = T := by unfold seenD; rw [seen_all hall]
    have hTu := hTu.out
    rw [hfin] at hTu
    have HTU := Lib.hid hTu; clear hTu hall hfin
    go_wp2_with fail
    rw [HR.out]
    exact ⟨ub, um, A', rfl, HTU.out, hX.out⟩
 end
 end Go.Proofs.YtefpllpichhojaaGreatDoor
