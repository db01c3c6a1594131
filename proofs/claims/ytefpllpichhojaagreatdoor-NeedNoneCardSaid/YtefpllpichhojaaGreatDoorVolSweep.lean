/- vol's sweep: loose files that nobody holds are taken away. -/
import Derived.Test.YtefpllpichhojaaGreatDoorM7
import Derived.Test.YtefpllpichhojaaGreatDoorM14
import Derived.Shelf.SlicesE.DeleteFunc
namespace Go.Proofs.YtefpllpichhojaaGreatDoor
open Go.RowKit Go.Sort Go.Shelf
variable [Low]
abbrev I64 := {x : Int // -9223372036854775808 ≤ x ∧ x ≤ 9223372036854775807}
instance : Inhabited I64 := ⟨⟨0, by omega, by omega⟩⟩
def encI (x : I64) : Value := .int .i64 x.1
def clipI (x : Int) : I64 := if h : -9223372036854775808 ≤ x ∧ x ≤ 9223372036854775807 then ⟨x, h⟩ else ⟨0, by omega, by omega⟩
omit [Low] in
theorem clipI_val {x : Int} (h : -9223372036854775808 ≤ x ∧ x ≤ 9223372036854775807) : (clipI x).1 = x := by unfold clipI; rw [dif_pos h]
omit [Low] in
theorem encI_clip {x : Int} (h : -9223372036854775808 ≤ x ∧ x ≤ 9223372036854775807) : encI (clipI x) = .int .i64 x := by unfold encI; rw [clipI_val h]
def keepQ (hd : Int → Option Nat) (x : Int) : Bool := decide (0 < heldN hd x)
def freeX (V : VolD) : List Int := (looseT V.T).filter fun i => !keepQ V.hd i
noncomputable def sweptV (V : VolD) : VolD := { V with T := reapsT V.T (freeX V) }
omit [Low] in
theorem mem_looseT {T : TreeD} {x : Int} (h : x ∈ looseT T) : x ∈ T.ids := by
 unfold looseT at h
 exact (List.mem_filter.1 (List.mem_mergeSort.1 h)).1
omit [Low] in
theorem looseT_len (T : TreeD) : (looseT T).length ≤ T.ids.length := by
 unfold looseT
 rw [List.length_mergeSort]
 exact List.length_filter_le _ _
omit [Low] in
theorem reapT_fitV {T : TreeD} {K : Nat} (h : FitT T K) (i : Int) : FitT (reapT T i) K := by
 unfold reapT; split
 · exact h.del i
 · exact h
omit [Low] in
theorem reapsT_fitV : ∀ (X : List Int) {T : TreeD} {K : Nat}, FitT T K → FitT (reapsT T X) K
 | [], _, _, h => h
 | i :: X, _, _, h => reapsT_fitV X (reapT_fitV h i)
omit [Low] in
theorem reapT_idsV {T : TreeD} {i x : Int} (h : x ∈ (reapT T i).ids) : x ∈ T.ids := by
 unfold reapT at h
 split at h
 · exact (List.mem_filter.1 h).1
 · exact h
omit [Low] in
theorem reapsT_idsV : ∀ (X : List Int) {T : TreeD} {x : Int}, x ∈ (reapsT T X).ids → x ∈ T.ids
 | [], _, _, h => h
 | i :: X, T, _, h => reapT_idsV (reapsT_idsV X (T := reapT T i) h)
omit [Low] in
theorem OwnIs.low {w : World} {b c : Nat} {a : Option Addr} {k : Nat} {X : List Int} (h : OwnIs w b a k X) (hb : c ≤ b) : OwnIs w c a k X := by
 obtain ⟨h1, h2⟩ := h
 refine ⟨h1, ?_⟩
 rcases h2 with h2 | ⟨g, c', cur, e, hg, r⟩
 · exact Or.inl h2
 · exact Or.inr ⟨g, c', cur, e, Nat.le_trans hb hg, r⟩
omit [Low] in
theorem sweep_fn {W : World} {B vb hb N : Nat} {hd : Int → Option Nat} (cB : W.cell? ⟨B, 0, none⟩ = some (.pointer (some ⟨vb, 0, none⟩))) (c3 : W.cell? ⟨vb, 3, none⟩ = some (.map (some hb))) (hm : MapF keyI W 3 hb N (heldV hd)) (x : I64) :
 FnGives Tryz.prog 132 #[.pointer (some ⟨B, 0, none⟩)] #[encI x] (.bool (keepQ hd x.1)) W := by
 obtain ⟨Q, hQ⟩ : ∃ Q : Ending → World → Prop, Q = fun e w' => e = .returned (.bool (keepQ hd x.1)) ∧ ∃ q, w' = W.drewN q := ⟨_, rfl⟩
 unfold FnGives
 rw [← hQ, show (#[encI x] ++ #[Value.pointer (some ⟨B, 0, none⟩)] : Array Value) = #[.int .i64 x.1, .pointer (some ⟨B, 0, none⟩)] from rfl]
 have HQ := Lib.hid hQ; clear hQ
 obtain ⟨i, hi1, hi2⟩ := x
 have hkn : ((heldV hd i).getD (.int .i64 0)) = .int .i64 (heldN hd i : Nat) := by unfold heldV heldN; cases hd i <;> rfl
 have HKN := Lib.hid hkn; clear hkn
 have HM := Lib.hid hm; clear hm
 generalize hk : heldN hd i = k at HKN
 have HKK := Lib.hid hk; clear hk
 simp only
 go_enter Tryz.func132, Tryz.ntmps132
 go_wp2_with (at_lookup; refine wpList_look_F rfl _ _ 122 rfl 3 int_keyedA Tryz.underlying122 _ (Tryz.zeroValue3 _) hb N (heldV hd) rfl HM.out _ i rfl (key_int hi1 hi2) ?_; rw [HKN.out])
 rw [HQ.out]
 refine ⟨?_, 0, rfl⟩
 unfold keepQ
 rw [HKK.out]
omit [Low] in
theorem index_nil (a : Option Addr) (c : Nat) (F : Value) (w : World) : Calls Tryz.prog 174 #[.slice a 0 c, F] w fun e w' => e = .returned (.int .i64 (-1)) ∧ Ext w w' := by
 obtain ⟨Q, hQ⟩ : ∃ Q : Ending → World → Prop, Q = fun e w' => e = .returned (.int .i64 (-1)) ∧ Ext w w' := ⟨_, rfl⟩
 rw [← hQ]
 have HQ := Lib.hid hQ; clear hQ
 go_enter Tryz.func174, Tryz.ntmps174
 go_wp2_with fail
 go_loopw [8] (fun i wr => i = .int .i64 0 ∧ Hid (Ext w wr)) (fun _ _ => 0)
 case atStart => exact ⟨rfl, Lib.hid (Ext.refl _)⟩
 case round =>
  obtain ⟨rfl, HX⟩ := hrel
  go_wp2_with fail
  all_goals (try go_ret)
  all_goals (rw [HQ.out]; exact ⟨rfl, HX.out⟩)
omit [Low] in
theorem delete_nil (a : Option Addr) (c : Nat) (F : Value) (w : World) : Calls Tryz.prog 131 #[.slice a 0 c, F] w fun e w' => e = .returned (.slice a 0 c) ∧ Ext w w' := by
 obtain ⟨Q, hQ⟩ : ∃ Q : Ending → World → Prop, Q = fun e w' => e = .returned (.slice a 0 c) ∧ Ext w w' := ⟨_, rfl⟩
 rw [← hQ]
 have HQ := Lib.hid hQ; clear hQ
 go_enter Tryz.func131, Tryz.ntmps131
 go_wp2_with (go_at_call 174; refine (index_nil _ _ _ _).mono ?_; rintro e w1 ⟨rfl, hx1⟩)
 all_goals (try go_ret)
 rw [HQ.out]
 exact ⟨rfl, hx1⟩
section
variable {w : World} {base B vb hb N c : Nat} {a : Option Addr} {X : List Int} {hd : Int → Option Nat}
omit [Low] in
theorem sweep_eg (args : Array Value) (w : World) : (callFunc 132 args).run Tryz.prog w = .ok (.enter 132 args) w :=
 enters_of Tryz.func132 (by kernel_rfl) rfl args w
omit [Low] in
theorem below_put {g : Nat} (hg : base ≤ g) (hbw : base ≤ w.heap.size) (n : Nat) (os : Array Obj) (d : Array I64) : Below base w (sortWorld encI w g 0 n d os) := by
 unfold sortWorld
 refine ⟨rfl, rfl, rfl, by simp, fun k hk => ?_⟩
 rw [heap_grow_old _ _ (by simpa using (show k < w.heap.size by omega))]
 have : g ≠ k := by omega
 simp [putRow, mapBlock, Sort.ahead, Array.getElem?_modify, this]
omit [Low] in
theorem clip_filter (hr : ∀ x ∈ X, -9223372036854775808 ≤ x ∧ x ≤ 9223372036854775807) : (X.map clipI).filter (fun x => !keepQ hd x.1) = (X.filter fun x => !keepQ hd x).map clipI := by
 rw [List.filter_map]
 congr 1
 apply List.filter_congr
 intro x hx
 simp only [Function.comp]
 rw [clipI_val (hr x hx)]
omit [Low] in
theorem delete_held (hO : OwnIs w base a c X) (cB : w.cell? ⟨B, 0, none⟩ = some (.pointer (some ⟨vb, 0, none⟩))) (c3 : w.cell? ⟨vb, 3, none⟩ = some (.map (some hb))) (hm : MapF keyI w 3 hb N (heldV hd))
 (hbw : base ≤ w.heap.size) (hB : B < base) (hV : vb < base) (hH : hb < base) (hr : ∀ x ∈ X, -9223372036854775808 ≤ x ∧ x ≤ 9223372036854775807) (hl : X.length ≤ 1099511627776) :
 Calls Tryz.prog 131 #[.slice a X.length c, .func (.func 132) #[] #[.pointer (some ⟨B, 0, none⟩)]] w fun e w' =>
  ∃ a' c', e = .returned (.slice a' (X.filter fun i => !keepQ hd i).length c') ∧ RunM w' a' (intV (X.filter fun i => !keepQ hd i)) ∧ Below base w w' := by
 rcases hO.2 with ⟨h1, h2⟩ | ⟨g, c', cur, h1, hbg, hg, hn, hmx, hs, ht⟩
 · have h0 : X = [] := List.eq_nil_of_length_eq_zero h2
   subst h0
   refine (delete_nil a c _ w).mono ?_
   rintro e w' ⟨he, hx⟩
   exact ⟨a, c, he, Or.inl rfl, hx.mono hbw⟩
 · obtain ⟨rfl, rfl⟩ : a = some ⟨g, 0, none⟩ ∧ c = c' := by cases h1; exact ⟨rfl, rfl⟩
   have hgl : g < w.heap.size := (Array.getElem?_eq_some_iff.1 hg).1
   rw [Nat.mul_one] at ht
   have hHo := holds_of_blockI hg ht
   obtain ⟨d, hd'⟩ : ∃ d, d = (X.map clipI).toArray := ⟨_, rfl⟩
   have hds : d.size = X.length := by rw [hd']; simp
   have hHd : Holds encI w g 0 d := by
    intro j hj
    have hjX : j < X.length := by omega
    obtain ⟨q1, q2⟩ := hHo j (by simpa using hjX)
    refine ⟨?_, q2⟩
    rw [q1]
    have e1 : X.toArray[j]! = X[j] := by simp [hjX]
    have e2 : d[j]! = clipI X[j] := by rw [hd']; simp [hjX]
    rw [e1, e2, encI_clip (hr _ (List.getElem_mem hjX))]
   have hcell : ∀ (W : World), Below base w W → W.cell? ⟨B, 0, none⟩ = some (.pointer (some ⟨vb, 0, none⟩)) ∧ W.cell? ⟨vb, 3, none⟩ = some (.map (some hb)) ∧ MapF keyI W 3 hb N (heldV hd) := by
    intro W hW
    exact ⟨(hW.cell hB).trans cB, (hW.cell hV).trans c3, hm.keep (Keep.of_below hW) hH⟩
   have hF : ∀ (W : World) (x : I64), Below base w W → FnGives Tryz.prog 132 #[.pointer (some ⟨B, 0, none⟩)] #[encI x] (.bool (keepQ hd x.1)) W := fun W x hW =>
    sweep_fn (hcell W hW).1 (hcell W hW).2.1 (hcell W hW).2.2 x
   have h := AnyE.slices_DeleteFunc Tryz.deletefunc_int encI (fun _ => rfl) (fun x : I64 => keepQ hd x.1) 132 #[.pointer (some ⟨B, 0, none⟩)] sweep_eg ⟨0, by omega, by omega⟩ (fun w => Tryz.zeroValue3 w) g 0 c d w
    (fun W x hW => hF W x (hW.mono hbw)) (fun n os dk x hdk => hF _ x (below_put hbg hbw n os dk)) hHd (by omega) (by omega)
   rw [hds] at h
   have hfl : d.toList.filter (fun x => !keepQ hd x.1) = (X.filter fun x => !keepQ hd x).map clipI := by
    rw [hd']; exact clip_filter hr
   rw [hfl] at h
   refine Calls.mono h ?_
   rintro e w' ⟨rfl, q, rfl⟩
   rw [List.length_map]
   have hle : (X.filter fun x => !keepQ hd x).length ≤ X.length := List.length_filter_le _ _
   refine ⟨some ⟨g, 0, none⟩, c, rfl, ?_, ?_⟩
   · obtain ⟨d', hd2⟩ : ∃ d', d' = (List.map clipI (X.filter fun x => !keepQ hd x) ++ List.replicate (X.length - (X.filter fun x => !keepQ hd x).length) (⟨0, by omega, by omega⟩ : I64)).toArray := ⟨_, rfl⟩
     have hs2 : d'.size = d.size := by rw [hd2, hds]; simp; omega
     have hH2 := holds_putRow encI (Sort.ahead w q) g 0 d d' (holds_ahead encI w q g 0 d hHd) hs2
     rw [← hd2]
     refine Or.inr ⟨g, 0, rfl, by rw [size_putRow]; exact hgl, fun j u hj => ?_⟩
     unfold intV at hj
     rw [List.getElem?_map] at hj
     obtain ⟨x, hx, rfl⟩ := Option.map_eq_some_iff.1 hj
     have hjl := (List.getElem?_eq_some_iff.1 hx).1
     have hxm : x ∈ X := (List.mem_filter.1 (List.mem_of_getElem? hx)).1
     have hjd : j < d'.size := by omega
     have h4 := (hH2 j hjd).1
     have e2 : d'[j]! = clipI x := by
      rw [getElem!_pos d' j hjd]
      have : d'[j]? = some (clipI x) := by
       rw [hd2, List.getElem?_toArray, List.getElem?_append_left (by rw [List.length_map]; exact hjl), List.getElem?_map, hx]; rfl
      rw [Array.getElem?_eq_getElem hjd] at this
      exact Option.some.inj this
     rw [e2, encI_clip (hr x hxm)] at h4
     exact h4
   · have := below_put (w := w) hbg hbw q #[] (List.map clipI (X.filter fun x => !keepQ hd x) ++ List.replicate (X.length - (X.filter fun x => !keepQ hd x).length) (⟨0, by omega, by omega⟩ : I64)).toArray
     unfold sortWorld at this
     rw [grow_empty] at this
     exact this
end
section
variable {X : Nat → Prop} {w : World} {vb db kb n N : Nat} {V : VolD}
set_option maxRecDepth 100000 in
set_option maxHeartbeats 6400000 in
theorem vol_sweep (h : VolM X w vb db kb n N V) (hg : GoodT (sweptV V).T) (hN : N ≤ 1000000000) :
 Calls Tryz.prog 80 #[.pointer (some ⟨vb, 0, none⟩)] w fun e w' => e = .returned (.tuple #[]) ∧ VolM X w' vb db kb n N (sweptV V) ∧ KeepY X w w' := by
 obtain ⟨R, hR⟩ : ∃ R : Ending → World → Prop, R = fun e w' => e = .returned (.tuple #[]) ∧ VolM X w' vb db kb n N (sweptV V) ∧ KeepY X w w' := ⟨_, rfl⟩
 rw [← hR]
 have HR := Lib.hid hR; clear hR
 obtain ⟨tb, lb, hb, mb, A, h⟩ := h
 have HV := Lib.hid h
 have hf : ∀ x ∈ looseT V.T, 1 ≤ x ∧ x < V.T.next := fun x hx => h.good.low x (mem_looseT hx)
 have hln : (looseT V.T).length ≤ N := Nat.le_trans (looseT_len _) h.fit.count
 have hnx := h.fit.next
 have LB : Hid (∀ x ∈ looseT V.T, -9223372036854775808 ≤ x ∧ x ≤ 9223372036854775807) := Lib.hid fun x hx => by have := hf x hx; omega
 have LL : Hid ((looseT V.T).length ≤ 1099511627776) := Lib.hid (by omega)
 have FB : Hid (∀ x ∈ freeX V, -9223372036854775808 ≤ x ∧ x ≤ 9223372036854775807) := Lib.hid fun x hx => LB.out x (List.mem_filter.1 hx).1
 have FL : Hid ((freeX V).length ≤ 1099511627776) := Lib.hid (Nat.le_trans (List.length_filter_le _ _) LL.out)
 have HG := Lib.hid h.good; have HF := Lib.hid h.fit
 obtain ⟨es, cl, hmm⟩ := h.tree.map.block
 obtain ⟨es2, cl2, hmh⟩ := h.held.block
 have hvl := (Array.getElem?_eq_some_iff.1 h.top).1
 have hhl := (Array.getElem?_eq_some_iff.1 hmh).1
 have hml := (Array.getElem?_eq_some_iff.1 hmm).1
 have hx1 : Ext w (w.alloc (.cells #[.pointer (some ⟨vb, 0, none⟩)] 24)) := Ext.alloc _ _
 have hb1 := heap_alloc_new w (.cells #[.pointer (some ⟨vb, 0, none⟩)] 24)
 have hs1 : (w.alloc (.cells #[.pointer (some ⟨vb, 0, none⟩)] 24)).heap.size = w.heap.size + 1 := by simp
 clear hf hln hnx
 go_enter Tryz.func80, Tryz.ntmps80
 go_upto_region 1 with (fail)
 generalize w.alloc (.cells #[.pointer (some ⟨vb, 0, none⟩)] 24) = w1 at hx1 hb1 hs1 ⊢
 obtain ⟨B, hB⟩ : ∃ x, x = w.heap.size := ⟨_, rfl⟩
 rw [← hB] at hb1 hs1 hvl hhl hml ⊢
 have HX1 := Lib.hid hx1
 have HT := Lib.hid (h.tree.ext hx1)
 have hcs : ∀ W, Ext w1 W → W.cell? ⟨B, 0, none⟩ = some (.pointer (some ⟨vb, 0, none⟩)) ∧ W.cell? ⟨vb, 0, none⟩ = some (.pointer (some ⟨tb, 0, none⟩)) := fun W k => ⟨blk_cell (k.heap hb1) 0 _ rfl, blk_cell ((hx1.trans k).heap h.top) 0 _ rfl⟩
 have HCS := Lib.hid hcs
 have HC3 : Hid (∀ W, Ext w1 W → W.cell? ⟨vb, 3, none⟩ = some (.map (some hb))) := Lib.hid fun W k => blk_cell ((hx1.trans k).heap h.top) 3 _ rfl
 have HMH : Hid (∀ W, Ext w1 W → MapF keyI W 3 hb N (heldV V.hd)) := Lib.hid fun W k => h.held.ext (hx1.trans k)
 have HBL : Hid (B < w1.heap.size) := Lib.hid (by omega)
 have HVL : Hid (vb < w1.heap.size) := Lib.hid (by omega)
 have HHL : Hid (hb < w1.heap.size) := Lib.hid (by omega)
 have HNB : Hid (B ≠ mb) := Lib.hid (by omega)
 have HNV : Hid (vb ≠ mb) := Lib.hid fun e => by have := h.top; rw [e, hmm] at this; cases this
 have HNE := Lib.hid h.ne; have HGG := Lib.hid hg; have HNN := Lib.hid hN
 have HMM := Lib.hid hmm
 clear h hx1 hb1 hs1 hcs hvl hhl hml hmm hmh hg hN hB
 have HK := Lib.hid ((Ext.refl w1).drew)
 refine wp_region_noPanic ?_
 refine wp_region_held_drew (S := (fun W => W.cell? ⟨B, 0, none⟩ = some (.pointer (some ⟨vb, 0, none⟩)) ∧ W.cell? ⟨vb, 0, none⟩ = some (.pointer (some ⟨tb, 0, none⟩)))) (by kernel_rfl) (HCS.out _ HK.out) (fun hHeld => ?_)
 clear hHeld
 generalize w1.drew = wc at HK ⊢
 refine wpAnyH_take (i := 0) (v := ?_) rfl (by kernel_rfl) (by kernel_rfl) (by kernel_rfl) (fun _ _ _ h => h) (Or.inl ⟨by kernel_rfl, ?_⟩) (HCS.out _ HK.out) ?_
 rotate_left
 · (intro wq hSw; (try dsimp only at hSw); first | (go_simp; done) | (go_simp; with_reducible rfl))
 try simp only [List.getElem_toArray, List.getElem_cons_zero, Act.put, List.setIfInBounds_toArray, List.set_cons_zero, List.set_cons_succ]
 refine wpAnyH_take (i := 1) (v := ?_) rfl (by kernel_rfl) (by kernel_rfl) (by kernel_rfl) (fun _ _ _ h => h) (Or.inl ⟨by kernel_rfl, ?_⟩) (HCS.out _ HK.out) ?_
 rotate_left
 · (intro wq _; first | (go_simp; done) | (go_simp; with_reducible rfl))
 try simp only [List.getElem_toArray, List.getElem_cons_zero, List.getElem_cons_succ, Act.put, List.setIfInBounds_toArray, List.set_cons_zero, List.set_cons_succ]
 refine wpAnyH_take (i := 2) (v := ?_) rfl (by kernel_rfl) (by kernel_rfl) (by kernel_rfl) (fun _ _ _ h => h) (Or.inl ⟨by kernel_rfl, ?_⟩) (HCS.out _ HK.out) ?_
 rotate_left
 · (intro wq _; first | (go_simp; done) | (go_simp; with_reducible rfl))
 try simp only [List.getElem_toArray, List.getElem_cons_zero, List.getElem_cons_succ, Act.put, List.setIfInBounds_toArray, List.set_cons_zero, List.set_cons_succ]
 refine wpAnyH_take (i := 3) (v := ?_) rfl (by kernel_rfl) (by kernel_rfl) (by kernel_rfl) (fun _ _ _ h => h) (Or.inl ⟨by kernel_rfl, ?_⟩) (HCS.out _ HK.out) ?_
 rotate_left
 · (intro wq hSw; (try dsimp only at hSw); first | (go_simp; done) | (go_simp; with_reducible rfl))
 try simp only [List.getElem_toArray, List.getElem_cons_zero, List.getElem_cons_succ, Act.put, List.setIfInBounds_toArray, List.set_cons_zero, List.set_cons_succ]
 refine wpAnyH_take (i := 4) (v := ?_) rfl (by kernel_rfl) (by kernel_rfl) (by kernel_rfl) (fun _ _ _ h => h) (Or.inl ⟨by kernel_rfl, ?_⟩) (HCS.out _ HK.out) ?_
 rotate_left
 · (intro wq hSw; (try dsimp only at hSw); first | (go_simp; done) | (go_simp; with_reducible rfl))
 try simp only [List.getElem_toArray, List.getElem_cons_zero, List.getElem_cons_succ, Act.put, List.setIfInBounds_toArray, List.set_cons_zero, List.set_cons_succ]
 refine wpAnyH_take (i := 5) (v := ?_) rfl (by kernel_rfl) (by kernel_rfl) (by kernel_rfl) (fun _ _ _ h => h) (Or.inl ⟨by kernel_rfl, ?_⟩) (HCS.out _ HK.out) ?_
 rotate_left
 · (intro wq _; first | (go_simp; done) | (go_simp; with_reducible rfl))
 try simp only [List.getElem_toArray, List.getElem_cons_zero, List.getElem_cons_succ, Act.put, List.setIfInBounds_toArray, List.set_cons_zero, List.set_cons_succ]
 refine wpAnyH_take (i := 6) (v := ?_) rfl (by kernel_rfl) (by kernel_rfl) (by kernel_rfl) (fun _ _ _ h => h) (Or.inl ⟨by kernel_rfl, ?_⟩) (HCS.out _ HK.out) ?_
 rotate_left
 · (intro wq _; first | (go_simp; done) | (go_simp; with_reducible rfl))
 try simp only [List.getElem_toArray, List.getElem_cons_zero, List.getElem_cons_succ, Act.put, List.setIfInBounds_toArray, List.set_cons_zero, List.set_cons_succ]
 refine wpAnyH_take (i := 7) (v := ?_) rfl (by kernel_rfl) (by kernel_rfl) (by kernel_rfl) (fun _ _ _ h => h) (Or.inl ⟨by kernel_rfl, ?_⟩) (HCS.out _ HK.out) ?_
 rotate_left
 · (intro wq hSw; (try dsimp only at hSw); first | (go_simp; done) | (go_simp; with_reducible rfl))
 try simp only [List.getElem_toArray, List.getElem_cons_zero, List.getElem_cons_succ, Act.put, List.setIfInBounds_toArray, List.set_cons_zero, List.set_cons_succ]
 refine wpAnyH_take (i := 9) (v := ?_) rfl (by kernel_rfl) (by kernel_rfl) (by kernel_rfl) (fun _ _ _ h => h) (Or.inl ⟨by kernel_rfl, ?_⟩) (HCS.out _ HK.out) ?_
 rotate_left
 · (intro wq _; first | (go_simp; done) | (go_simp; with_reducible rfl))
 try simp only [List.getElem_toArray, List.getElem_cons_zero, List.getElem_cons_succ, Act.put, List.setIfInBounds_toArray, List.set_cons_zero, List.set_cons_succ]
 all_goals (
  first
   | refine wpAnyH_ready (rs := [8]) (by decide +kernel) (by simp) ?_
  repeat' (first | exact AllReadyH.nil | (refine AllReadyH.cons rfl (fun K hK => ?_) ?_)))
 all_goals (
  first
   | (go_simp
      first
       | (go_at_call 105
          refine (tree_Loose wc (HT.out.ext HK.out) HG.out HF.out HNN.out).mono ?_
          rintro E wn ⟨a1, c1, rfl, hO1, hx⟩
          have HO1 := Lib.hid (hO1.low HK.out.size)
          replace HK := Lib.hid (HK.out.trans hx)
          clear hx hO1
          go_wp2_with fail
          refine hK.out _ _ (HCS.out _ HK.out) (fun _ => ?_)
          clear hK K
          obtain ⟨wc, rfl⟩ : ∃ x : World, x = wn := ⟨_, rfl⟩
          try simp only [List.getElem_toArray, List.getElem_cons_zero, List.getElem_cons_succ, Act.put, List.setIfInBounds_toArray, List.set_cons_zero, List.set_cons_succ])))
 all_goals (
  first
   | refine wpAnyH_ready (rs := [10]) (by decide +kernel) (by simp) ?_
  repeat' (first | exact AllReadyH.nil | (refine AllReadyH.cons rfl (fun K hK => ?_) ?_)))
 all_goals (
  first
   | (go_simp
      first
       | (go_at_call 131
          refine (delete_held HO1.out (HCS.out _ HK.out).1 (HC3.out _ HK.out) (HMH.out _ HK.out) HK.out.size HBL.out HVL.out HHL.out (LB.out) LL.out).mono ?_
          rintro E wn ⟨a2, c2, rfl, hR2, hx⟩
          have HR2 := Lib.hid hR2
          replace HK := Lib.hid (Below.trans HK.out hx)
          clear hx hR2
          go_wp2_with fail
          refine hK.out _ _ (HCS.out _ HK.out) (fun _ => ?_)
          clear hK K
          obtain ⟨wc, rfl⟩ : ∃ x : World, x = wn := ⟨_, rfl⟩
          try simp only [List.getElem_toArray, List.getElem_cons_zero, List.getElem_cons_succ, Act.put, List.setIfInBounds_toArray, List.set_cons_zero, List.set_cons_succ])))
 all_goals (
  first
   | refine wpAnyH_ready (rs := [11]) (by decide +kernel) (by simp) ?_
  repeat' (first | exact AllReadyH.nil | (refine AllReadyH.cons rfl (fun K hK => ?_) ?_)))
 all_goals (
  first
   | (go_simp
      first
       | (go_at_call 130
          refine (tree_Reap _ a2 c2 wc (HT.out.ext HK.out) HR2.out FB.out FL.out).mono ?_
          rintro E wn ⟨rfl, hTn, hkn⟩
          have HTN := Lib.hid hTn
          have HKN := Lib.hid hkn
          clear hTn hkn
          go_wp2_with fail
          refine hK.out _ _ ⟨HKN.out.cell HNB.out (HCS.out _ HK.out).1, HKN.out.cell HNV.out (HCS.out _ HK.out).2⟩ (fun _ => ?_)
          clear hK K
          try simp only [List.getElem_toArray, List.getElem_cons_zero, List.getElem_cons_succ, Act.put, List.setIfInBounds_toArray, List.set_cons_zero, List.set_cons_succ])))
 all_goals (
  refine wpAnyH_done (by kernel_rfl) ?_ _
  refine NoPanic.normal ?_
  go_end0
  rw [HR.out]
  have hxx := HX1.out.trans HK.out
  have hmw := hxx.heap HMM.out
  refine ⟨rfl, ⟨tb, lb, hb, mb, A, HKN.out.heap HNV.out (hxx.heap HV.out.top), HTN.out, (HV.out.log.ext hxx).keepC HKN.out (fun g cs t fr hh e => by have e : g = mb := e; rw [e, hmw] at hh; cases hh), (HV.out.held.ext hxx).keep HKN.out HNE.out.1, ⟨HNE.out.1, fun i hi => HNE.out.2 i (reapsT_idsV _ hi)⟩, HGG.out, reapsT_fitV _ HF.out, HV.out.glog, ⟨HV.out.out.1, HV.out.out.2.1, fun g hg => Nat.lt_of_lt_of_le (HV.out.out.2.2 g hg) (Nat.le_trans hxx.size HKN.out.size)⟩, HV.out.lows, fun i hi => HV.out.kids i (reapsT_idsV _ hi)⟩, ?_⟩
  exact (KeepY.of_ext hxx).trans (KeepY.of_map HKN.out HV.out.tree.low.2.1 HV.out.out.2.1 hmw))
end
end Go.Proofs.YtefpllpichhojaaGreatDoor
