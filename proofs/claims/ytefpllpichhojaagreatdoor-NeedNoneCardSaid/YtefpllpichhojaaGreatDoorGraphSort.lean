/- graph.sort: units in an order. -/
import Derived.Test.YtefpllpichhojaaGreatDoorM11
import Derived.Test.YtefpllpichhojaaGreatDoorGraphPut
namespace Go.Proofs.YtefpllpichhojaaGreatDoor
open Go.RowKit
theorem BehM.keep {S : Nat → Prop} {w w' : World} {base hb N : Nat} {b : Bs → List Bs} {A : BehA} (h : BehM w base hb N b A) (k : Keep S w w') (h1 : S hb) (h2 : ∀ g, RowsB b A g → S g) : BehM w' base hb N b A :=
 ⟨h.map.keep k h1, fun n => ownsRow_keep (h.row n) k (fun g cur hv _ _ => by
  obtain ⟨z, hz, e⟩ := ownBlock_some (g := g) (by rw [hv])
  exact h2 g ⟨n, z, hz, e.symm⟩), h.apart⟩
theorem sort_test2 (x : Bs) (W : World) {S0 gb oc : Nat} {oa : Option Addr} {order : List Bs} (h0 : W.cell? ⟨S0, 0, none⟩ = some (.pointer (some ⟨gb, 0, none⟩))) (h2 : W.cell? ⟨gb, 2, none⟩ = some (.slice oa order.length oc)) (ho : Strs W oa order) (hl : order.length ≤ 1000000) :
 Calls Tryz.prog 138 (#[.string (bs x)] ++ #[.pointer (some ⟨S0, 0, none⟩)]) W fun e w' => e = .returned (.bool (!decide (x ∈ order))) ∧ Ext W w' := by
 obtain ⟨R, hR⟩ : ∃ R : Ending → World → Prop, R = fun e w' => e = .returned (.bool (!decide (x ∈ order))) ∧ Ext W w' := ⟨_, rfl⟩
 rw [← hR]
 have HR := Lib.hid hR; clear hR
 have HC := Lib.hid (contains_s oa oc order x W ho hl)
 obtain ⟨b, hb⟩ : ∃ b, b = decide (x ∈ order) := ⟨_, rfl⟩
 rw [← hb] at HC HR
 clear hb ho
 go_enter Tryz.func138, Tryz.ntmps138
 go_wp2_with (go_at_call 139; refine HC.out.mono ?_; rintro e w1 ⟨rfl, hx1⟩; have hx1 := Lib.hid hx1)
 rw [HR.out]
 exact ⟨rfl, hx1.out⟩
theorem all_not_any {α : Type} (p : α → Bool) (L : List α) : (L.any fun x => !p x) = !(L.all p) := by
 induction L with
 | nil => rfl
 | cons a L ih => rw [List.any_cons, List.all_cons, ih]; cases p a <;> rfl
theorem sort_test1 (n : Bs) (W : World) {S0 gb ub hb oc base N : Nat} {oa : Option Addr} {order : List Bs} {b : Bs → List Bs} {A : BehA} (hn : n.length ≤ 100000) (h0 : W.cell? ⟨S0, 0, none⟩ = some (.pointer (some ⟨gb, 0, none⟩))) (hg : W.heap[gb]? = some (.cells (graphV ub hb oa order.length oc) 164 (0, 0))) (hB : BehM W base hb N b A) (ho : Strs W oa order) (hl : order.length ≤ 1000000) (hbl : (b n).length ≤ 1000000) :
 Calls Tryz.prog 137 (#[.string (bs n)] ++ #[.pointer (some ⟨S0, 0, none⟩)]) W fun e w' => e = .returned (.bool (freeB b order n)) ∧ Ext W w' := by
 obtain ⟨R, hR⟩ : ∃ R : Ending → World → Prop, R = fun e w' => e = .returned (.bool (freeB b order n)) ∧ Ext W w' := ⟨_, rfl⟩
 rw [← hR]
 have HR := Lib.hid hR; clear hR
 have c1 := blk_cell hg 1 (.map (some hb)) rfl
 have c2 := blk_cell hg 2 (.slice oa order.length oc) rfl
 have hlv := hB.map.lookup str_keyed Tryz.underlying162 (Tryz.zeroValue29 W) (key_by hn)
 rw [BehM.lookV] at hlv
 have hcf := contains_funcS (fun x => !decide (x ∈ order)) 138 #[.pointer (some ⟨S0, 0, none⟩)] (enters_of Tryz.func138 (by kernel_rfl) rfl) (behRow b A n) (b n) (behCap b A n) W (fun W' x _ k => sort_test2 x W' (k.cell h0) (k.cell c2) (ho.ext k) hl) (hB.row n).strs.1 (by omega)
 rw [all_not_any] at hcf
 have he : freeB b order n = (b n).all fun x => decide (x ∈ order) := rfl
 rw [← he] at hcf
 generalize freeB b order n = r at hcf HR
 have HC := Lib.hid hcf
 clear hcf he hg hB ho c2
 go_enter Tryz.func137, Tryz.ntmps137
 go_wp2_with (go_at_call 133; refine HC.out.mono ?_; rintro e w1 ⟨rfl, hx1⟩; have hx1 := Lib.hid hx1)
 rw [HR.out]
 refine ⟨?_, hx1.out⟩
 first | rfl | (cases r <;> rfl)
def SortR (U : List UnitD) (b : Bs → List Bs) (gb ub hb : Nat) (w : World) (e : Ending) (w' : World) : Prop :=
 ∃ oa oc, e = .returned (.string (bs (sortU b U.length (namesU U) []).2)) ∧ w'.heap[gb]? = some (.cells (graphV ub hb oa (sortU b U.length (namesU U) []).1.length oc) 164 (0, 0)) ∧ OwnS w' w.heap.size oa oc (sortU b U.length (namesU U) []).1 ∧ Keep (fun g => g < w.heap.size ∧ g ≠ gb) w w'
theorem sortU_some {b : Bs → List Bs} {k i : Nat} {left order : List Bs} (hl : left ≠ []) (h : left.findIdx? (freeB b order) = some i) : sortU b (k + 1) left order = sortU b k (left.eraseIdx i) (order ++ [left.getD i []]) := by
 cases left with
 | nil => exact absurd rfl hl
 | cons m r =>
   show (match (m :: r).findIdx? (freeB b order) with | none => (order, m) | some i => sortU b k ((m :: r).eraseIdx i) (order ++ [(m :: r).getD i []])) = _
   rw [h]
theorem sortU_none {b : Bs → List Bs} {k : Nat} {left order : List Bs} (hl : left ≠ []) (h : left.findIdx? (freeB b order) = none) : sortU b (k + 1) left order = (order, left.getD 0 []) := by
 cases left with
 | nil => exact absurd rfl hl
 | cons m r =>
   show (match (m :: r).findIdx? (freeB b order) with | none => (order, m) | some i => sortU b k ((m :: r).eraseIdx i) (order ++ [(m :: r).getD i []])) = _
   rw [h]
   rfl
theorem sortU_nil (b : Bs → List Bs) (k : Nat) (order : List Bs) : sortU b k [] order = (order, []) := by cases k <;> rfl
set_option maxRecDepth 100000 in
set_option maxHeartbeats 6400000 in
theorem graph_sort {w : World} {gb ub hb N base : Nat} {U : List UnitD} {A0 : GraphA} {b : Bs → List Bs} {A : BehA} (ht : w.heap[gb]? = some (.cells (graphV ub hb none 0 0) 164 (0, 0))) (hu : MapF keyS w 9 ub N (unitF U A0)) (hnd : (U.map UnitD.name).Nodup) (hB : BehM w base hb N b A) (hN : N ≤ 100000)
 (hul : U.length ≤ 1000) (hnl : ∀ u ∈ U, u.name.length ≤ 100000) (hbl : ∀ n, (b n).length ≤ 1000000) :
 Calls Tryz.prog 93 #[.pointer (some ⟨gb, 0, none⟩)] w (SortR U b gb ub hb w) := by
 obtain ⟨R, hR⟩ : ∃ R, R = SortR U b gb ub hb w := ⟨_, rfl⟩
 rw [← hR]
 have HR := Lib.hid hR; clear hR
 have hx0 := Ext.alloc w (.cells #[.pointer (some ⟨gb, 0, none⟩)] 74)
 have hb0 := heap_alloc_new w (.cells #[.pointer (some ⟨gb, 0, none⟩)] 74)
 have hnm := graph_Names (hx0.heap ht) (hu.ext hx0) hnd hN
 have hnames : ∀ x ∈ namesU U, x.length ≤ 100000 := fun x hx => by
  rw [namesU_mem, hasU_iff] at hx
  obtain ⟨u, hu, rfl⟩ := List.mem_map.1 hx
  exact hnl u hu
 have hgl := (Array.getElem?_eq_some_iff.1 ht).1
 obtain ⟨es, cl, hmb⟩ := hB.map.block
 have hhl := (Array.getElem?_eq_some_iff.1 hmb).1
 have hne : hb ≠ gb := fun e => by rw [e, ht] at hmb; cases hmb
 have HT := Lib.hid ht; have HB := Lib.hid hB; have HNM := Lib.hid hnm; have HNL := Lib.hid hnames; have HBL := Lib.hid hbl; have HX0 := Lib.hid hx0; have HB0 := Lib.hid hb0; have HGL := Lib.hid hgl; have HHL := Lib.hid hhl; have HNE := Lib.hid hne
 have HUL := Lib.hid (show (namesU U).length ≤ 1000 by rw [namesU_len]; exact hul)
 have HLK := Lib.hid (namesU_len U)
 clear ht hu hB hnm hnames hbl hx0 hb0 hgl hmb hhl hne hul hnl hnd
 obtain ⟨V, hV⟩ : ∃ V, V = sortU b U.length (namesU U) [] := ⟨_, rfl⟩
 have HV0 := Lib.hid hV
 obtain ⟨names, hnms⟩ : ∃ n, n = namesU U := ⟨_, rfl⟩
 rw [← hnms] at hV HNM HNL HUL HLK
 have HV := Lib.hid hV; clear hV hnms
 go_enter Tryz.func93, Tryz.ntmps93
 go_wp2_with (go_at_call 58; refine HNM.out.mono ?_; rintro e w1 ⟨la, lc, rfl, hO, hlc, hx1⟩; have HO := Lib.hid hO; have HX1 := Lib.hid (HX0.out.trans hx1); have HB1 := Lib.hid (hx1.heap HB0.out); clear hO hx1)
 obtain ⟨S0, hS0⟩ : ∃ S0, S0 = w.heap.size := ⟨_, rfl⟩
 have HS0 := Lib.hid hS0
 rw [← hS0] at HB1 ⊢
 clear hS0
 go_loopw [3] (fun s wr => ∃ (k : Nat) (left order : List Bs) (la : Option Addr) (lc : Nat) (oa : Option Addr) (oc : Nat), s = .slice la left.length lc ∧ left.length ≤ k ∧ left.length ≤ 1000 ∧ Hid (∀ x ∈ left, x.length ≤ 100000) ∧ Hid (OwnS wr (w.heap.size + 1) la lc left) ∧ Hid (wr.heap[gb]? = some (.cells (graphV ub hb oa order.length oc) 164 (0, 0))) ∧ Hid (OwnS wr (w.heap.size + 1) oa oc order) ∧ Hid (order.length + left.length ≤ 1000) ∧ Hid (∀ x y, la = some x → oa = some y → x.block ≠ y.block) ∧ Hid (V = sortU b k left order) ∧ Hid (Keep (fun g => g ≤ w.heap.size ∧ g ≠ gb) w1 wr)) (fun s _ => match s with | .slice _ n _ => n | _ => 0)
 case atStart => exact ⟨U.length, names, [], la, lc, none, 0, rfl, Nat.le_of_eq HLK.out, HUL.out, HNL, Lib.hid (HO.out.base2 (by simp)), Lib.hid (HX1.out.heap HT.out), Lib.hid (OwnS.nil _ _), Lib.hid (by have := HUL.out; simp; omega), Lib.hid (fun x y _ hy => by cases hy), HV, Lib.hid (Keep.refl _ _)⟩
 case round =>
  obtain ⟨k, left, order, la, lc, oa, oc, rfl, hlk, hl1, hnl, hL, hT, hO, hlo, hap, hV, hkp⟩ := hrel
  by_cases hcl : left = []
  · have hVV := hV.out
    rw [hcl, sortU_nil] at hVV
    have HVV := Lib.hid hVV
    subst hcl
    clear hVV
    go_wp2_with fail
    rw [HR.out]
    have hsz := HX1.out.size
    refine ⟨oa, oc, by rw [← HV0.out, HVV.out]; rfl, by rw [← HV0.out, HVV.out]; exact hT.out, by rw [← HV0.out, HVV.out]; exact hO.out.base2 (by omega), ?_⟩
    exact (Keep.of_ext (S := fun g => g < w.heap.size ∧ g ≠ gb) HX1.out).trans (hkp.out.mono fun g _ hg => ⟨Nat.le_of_lt hg.1, hg.2⟩)
  · have hpos : 0 < left.length := List.length_pos_iff.2 hcl
    obtain ⟨k, rfl⟩ : ∃ k', k = k' + 1 := ⟨k - 1, by omega⟩
    obtain ⟨lg, hla, hlb, hlc, hlm, ⟨lcs, hlg⟩, hlcell⟩ := hL.out.cells hcl
    have hBk : BehM wr base hb N b A := (HB.out.ext HX1.out).keep hkp.out ⟨Nat.le_of_lt HHL.out, HNE.out⟩ fun g hg => by
     obtain ⟨h1, _, cs, h2⟩ := HB.out.lt hg
     refine ⟨Nat.le_of_lt h1, fun e => ?_⟩
     rw [e, HT.out] at h2
     injection (Option.some.inj h2) with _ h3
     exact absurd h3 (by decide)
    have hgs : gb ≠ w.heap.size := by have := HGL.out; omega
    have hbox := hkp.out.heap (g := S0) (by rw [HS0.out]; exact ⟨Nat.le_refl _, fun e => hgs e.symm⟩) HB1.out
    have hor := (OwnS.strs hO.out).1
    have hol : order.length ≤ 1000000 := by have := hlo.out; omega
    have hidx := index_funcS (freeB b order) 137 #[.pointer (some ⟨S0, 0, none⟩)] (enters_of Tryz.func137 (by kernel_rfl) rfl) la left lc wr (fun W x hx kk => sort_test1 x W (hnl.out x hx) (blk_cell (kk.heap hbox) 0 _ rfl) (kk.heap hT.out) (hBk.ext kk) (hor.ext kk) hol (HBL.out x)) (OwnS.strs hL.out).1 (by omega)
    subst hla
    have HBOX := Lib.hid hbox; have HLC := Lib.hid hlcell; have HLG := Lib.hid hlg; have HLB := Lib.hid hlb; have HGS := Lib.hid hgs
    clear hBk hor hol hbox hlc hlm hlg hlb hgs
    cases hfi : left.findIdx? (freeB b order) with
    | none =>
      have hVV := hV.out
      rw [sortU_none hcl hfi] at hVV
      have he : idxS (freeB b order) left = -1 := by unfold idxS; rw [hfi]
      rw [he] at hidx
      obtain ⟨nm, hnm⟩ : ∃ nm, nm = left.getD 0 [] := ⟨_, rfl⟩
      have hc0 := HLC.out 0 hpos
      rw [← hnm] at hc0 hVV
      have HVV := Lib.hid hVV; have HID := Lib.hid hidx; have HC0 := Lib.hid hc0
      clear hVV hidx he hfi hcl hlcell hc0 hnm
      go_wp2_with (go_at_call 136; refine HID.out.mono ?_; rintro e w3 ⟨rfl, hx3⟩; have c0 := hx3.cell HC0.out; have HX3 := Lib.hid hx3; clear hx3)
      rw [HR.out]
      have hsz := HX1.out.size
      refine ⟨oa, oc, by rw [← HV0.out, HVV.out]; rfl, by rw [← HV0.out, HVV.out]; exact HX3.out.heap hT.out, by rw [← HV0.out, HVV.out]; exact (hO.out.ext HX3.out).base2 (by omega), ?_⟩
      exact ((Keep.of_ext (S := fun g => g < w.heap.size ∧ g ≠ gb) HX1.out).trans (hkp.out.mono fun g _ hg => ⟨Nat.le_of_lt hg.1, hg.2⟩)).trans (Keep.of_ext HX3.out)
    | some i =>
      have hVV := hV.out
      rw [sortU_some hcl hfi] at hVV
      have he : idxS (freeB b order) left = (i : Int) := by unfold idxS; rw [hfi]
      have hil : i < left.length := (List.findIdx?_eq_some_iff_getElem.1 hfi).1
      rw [he] at hidx
      obtain ⟨nm, hnm⟩ : ∃ nm, nm = left.getD i [] := ⟨_, rfl⟩
      have hci := HLC.out i hil
      rw [← hnm] at hci hVV
      obtain ⟨on, hon⟩ : ∃ on, on = order.length := ⟨_, rfl⟩
      have hOR : wr.ownsRow (w.heap.size + 1) 9 1 (.slice oa on oc) on (textV order) := by rw [hon]; exact hO.out
      have hTT := hT.out
      rw [← hon] at hTT
      have hdi : decide ((i : Int) < 0) = false := decide_eq_false (by omega)
      have HVV := Lib.hid hVV; have HID := Lib.hid hidx; have HCI := Lib.hid hci; have HOR := Lib.hid hOR; have HON := Lib.hid (show on ≤ 1000 by have := hlo.out; omega); have HONE := Lib.hid hon; have HT2 := Lib.hid hTT; have HI := Lib.hid hil
      clear hVV hidx he hfi hcl hlcell hci hOR hTT hon hnm
      go_wp2_with (go_at_call 136; refine HID.out.mono ?_; rintro e w3 ⟨rfl, hx3⟩; have HX3 := Lib.hid hx3; clear hx3)
      have hgo : ∀ y, oa = some y → gb ≠ y.block := fun y hy e => by
       obtain ⟨_, cs, h2⟩ := hO.out.blk hy
       rw [← e, hT.out] at h2
       injection (Option.some.inj h2) with _ h3
       exact absurd h3 (by decide)
      have hcs : ∀ W, Keep (fun g => g ≠ gb ∧ ∀ y, oa = some y → g ≠ y.block) wr W → W.cell? ⟨S0, 0, none⟩ = some (.pointer (some ⟨gb, 0, none⟩)) ∧ W.cell? ⟨lg, i, none⟩ = some (.string (bs nm)) := fun W kk => by
       refine ⟨blk_cell (kk.heap ⟨?_, fun y hy e => ?_⟩ HBOX.out) 0 _ rfl, kk.cell ⟨fun e => ?_, fun y hy e => hap.out _ y rfl hy e⟩ HCI.out⟩
       · rw [HS0.out]; exact fun e => HGS.out e.symm
       · have h1 := (hO.out.blk hy).1
         have h2 := HS0.out
         omega
       · have h1 := HLG.out
         have e : lg = gb := e
         rw [e, hT.out] at h1
         injection (Option.some.inj h1) with _ h3
         exact absurd h3 (by decide)
      have HCS := Lib.hid hcs; have HGO := Lib.hid hgo
      have HT := HT2
      have HSZ : Hid (w.heap.size + 1 ≤ wr.heap.size) := Lib.hid (by have := (Array.getElem?_eq_some_iff.1 HBOX.out).1; have := HS0.out; omega)
      have HX := Lib.hid HX3.out.drew
      have HK := Lib.hid (Keep.of_ext (S := fun g => g ≠ gb ∧ ∀ y, oa = some y → g ≠ y.block) HX3.out.drew)
      clear hcs hgo HX3 HID
      refine wp_region_noPanic ?_
      refine wp_region_held_drew (S := (fun W => W.cell? ⟨S0, 0, none⟩ = some (.pointer (some ⟨gb, 0, none⟩)) ∧ W.cell? ⟨lg, i, none⟩ = some (.string (bs nm)))) (by kernel_rfl) (HCS.out _ HK.out) (fun hHeld => ?_)
      clear hHeld
      generalize w3.drew = wc at HK HX ⊢
      refine wpAnyH_take (i := 0) (v := ?_) rfl (by kernel_rfl) (by kernel_rfl) (by kernel_rfl) (fun _ _ _ h => h) (Or.inl ⟨by kernel_rfl, ?_⟩) (HCS.out _ HK.out) ?_
      rotate_left
      · (intro wq hSw; (try dsimp only at hSw); first | (go_simp; done) | (go_simp; with_reducible rfl))
      try simp only [List.getElem_toArray, List.getElem_cons_zero, Act.put, List.setIfInBounds_toArray, List.set_cons_zero, List.set_cons_succ]
      refine wpAnyH_take (i := 1) (v := ?_) rfl (by kernel_rfl) (by kernel_rfl) (by kernel_rfl) (fun _ _ _ h => h) (Or.inl ⟨by kernel_rfl, ?_⟩) (HCS.out _ HK.out) ?_
      rotate_left
      · (intro wq hSw; (try dsimp only at hSw); first | (go_simp; done) | (go_simp; with_reducible rfl))
      try simp only [List.getElem_toArray, List.getElem_cons_zero, List.getElem_cons_succ, Act.put, List.setIfInBounds_toArray, List.set_cons_zero, List.set_cons_succ]
      refine wpAnyH_take (i := 2) (v := ?_) rfl (by kernel_rfl) (by kernel_rfl) (by kernel_rfl) (fun _ _ _ h => h) (Or.inl ⟨by kernel_rfl, ?_⟩) (HCS.out _ HK.out) ?_
      rotate_left
      · (intro wq _; first | (go_simp; done) | (go_simp; with_reducible rfl))
      try simp only [List.getElem_toArray, List.getElem_cons_zero, List.getElem_cons_succ, Act.put, List.setIfInBounds_toArray, List.set_cons_zero, List.set_cons_succ]
      refine wpAnyH_take (i := 3) (v := ?_) rfl (by kernel_rfl) (by kernel_rfl) (by kernel_rfl) (fun _ _ _ h => h) (Or.inl ⟨by kernel_rfl, ?_⟩) (HCS.out _ HK.out) ?_
      rotate_left
      · (intro wq _; first | (go_simp; done) | (go_simp; with_reducible rfl))
      try simp only [List.getElem_toArray, List.getElem_cons_zero, List.getElem_cons_succ, Act.put, List.setIfInBounds_toArray, List.set_cons_zero, List.set_cons_succ]
      refine wpAnyH_take (i := 5) (v := ?_) rfl (by kernel_rfl) (by kernel_rfl) (by kernel_rfl) (fun _ _ _ h => h) (Or.inl ⟨by kernel_rfl, ?_⟩) (HCS.out _ HK.out) ?_
      rotate_left
      · (intro wq _; first | (go_simp; done) | (go_simp; with_reducible rfl))
      try simp only [List.getElem_toArray, List.getElem_cons_zero, List.getElem_cons_succ, Act.put, List.setIfInBounds_toArray, List.set_cons_zero, List.set_cons_succ]
      refine wpAnyH_take (i := 6) (v := ?_) rfl (by kernel_rfl) (by kernel_rfl) (by kernel_rfl) (fun _ _ _ h => h) (Or.inl ⟨by kernel_rfl, ?_⟩) (HCS.out _ HK.out) ?_
      rotate_left
      · (intro wq _; first | (go_simp; done) | (go_simp; with_reducible rfl))
      try simp only [List.getElem_toArray, List.getElem_cons_zero, List.getElem_cons_succ, Act.put, List.setIfInBounds_toArray, List.set_cons_zero, List.set_cons_succ]
      refine wpAnyH_take (i := 7) (v := ?_) rfl (by kernel_rfl) (by kernel_rfl) (by kernel_rfl) (fun _ _ _ h => h) (Or.inl ⟨by kernel_rfl, ?_⟩) (HCS.out _ HK.out) ?_
      rotate_left
      · (intro wq _; first | (go_simp; done) | (go_simp; with_reducible rfl))
      try simp only [List.getElem_toArray, List.getElem_cons_zero, List.getElem_cons_succ, Act.put, List.setIfInBounds_toArray, List.set_cons_zero, List.set_cons_succ]
      refine wpAnyH_take (i := 8) (v := ?_) rfl (by kernel_rfl) (by kernel_rfl) (by kernel_rfl) (fun _ _ _ h => h) (Or.inl ⟨by kernel_rfl, ?_⟩) (HCS.out _ HK.out) ?_
      rotate_left
      · (intro wq hSw; (try dsimp only at hSw); first | (go_simp; done) | (go_simp; with_reducible rfl))
      try simp only [List.getElem_toArray, List.getElem_cons_zero, List.getElem_cons_succ, Act.put, List.setIfInBounds_toArray, List.set_cons_zero, List.set_cons_succ]
      all_goals (
       first
        | refine wpAnyH_ready (rs := [4, 9]) (by decide +kernel) (by simp) ?_
       repeat' (first | exact AllReadyH.nil | (refine AllReadyH.cons rfl (fun K hK => ?_) ?_)))
      all_goals (
       first
        | (go_simp
           first
            | (have c2 := blk_cell (HX.out.heap HT.out) 2 (.slice oa on oc) rfl
               go_simp
               refine hK.out _ _ (HCS.out _ HK.out) (fun _ => ?_)
               clear hK K c2
               try simp only [List.getElem_toArray, List.getElem_cons_zero, List.getElem_cons_succ, Act.put, List.setIfInBounds_toArray, List.set_cons_zero, List.set_cons_succ])
            | (have hx := Ext.alloc wc (.cells #[.string (bs nm)] 9)
               have hbn := heap_alloc_new wc (.cells #[.string (bs nm)] 9)
               refine hK.out _ (wc.alloc (.cells #[.string (bs nm)] 9)) (HCS.out _ (HK.out.trans (Keep.of_ext hx))) (fun _ => ?_)
               clear hK K
               replace HK := Lib.hid (HK.out.trans (Keep.of_ext hx))
               replace HX := Lib.hid (Ext.trans HX.out hx)
               obtain ⟨G, hG⟩ : ∃ x, x = wc.heap.size := ⟨_, rfl⟩
               rw [← hG] at hbn ⊢
               have HG := Lib.hid hbn
               clear hbn hG hx
               generalize wc.alloc (.cells #[.string (bs nm)] 9) = wc at *
               try simp only [List.getElem_toArray, List.getElem_cons_zero, List.getElem_cons_succ, Act.put, List.setIfInBounds_toArray, List.set_cons_zero, List.set_cons_succ])))
      all_goals (
       first
        | refine wpAnyH_ready (rs := [9]) (by decide +kernel) (by simp) ?_
        | refine wpAnyH_ready (rs := [4]) (by decide +kernel) (by simp) ?_
       repeat' (first | exact AllReadyH.nil | (refine AllReadyH.cons rfl (fun K hK => ?_) ?_)))
      all_goals (
       first
        | (go_simp
           first
            | (have c2 := blk_cell (HX.out.heap HT.out) 2 (.slice oa on oc) rfl
               go_simp
               refine hK.out _ _ (HCS.out _ HK.out) (fun _ => ?_)
               clear hK K c2
               try simp only [List.getElem_toArray, List.getElem_cons_zero, List.getElem_cons_succ, Act.put, List.setIfInBounds_toArray, List.set_cons_zero, List.set_cons_succ])
            | (have hx := Ext.alloc wc (.cells #[.string (bs nm)] 9)
               have hbn := heap_alloc_new wc (.cells #[.string (bs nm)] 9)
               refine hK.out _ (wc.alloc (.cells #[.string (bs nm)] 9)) (HCS.out _ (HK.out.trans (Keep.of_ext hx))) (fun _ => ?_)
               clear hK K
               replace HK := Lib.hid (HK.out.trans (Keep.of_ext hx))
               replace HX := Lib.hid (Ext.trans HX.out hx)
               obtain ⟨G, hG⟩ : ∃ x, x = wc.heap.size := ⟨_, rfl⟩
               rw [← hG] at hbn ⊢
               have HG := Lib.hid hbn
               clear hbn hG hx
               generalize wc.alloc (.cells #[.string (bs nm)] 9) = wc at *
               try simp only [List.getElem_toArray, List.getElem_cons_zero, List.getElem_cons_succ, Act.put, List.setIfInBounds_toArray, List.set_cons_zero, List.set_cons_succ])))
      all_goals (
       first
        | refine wpAnyH_ready (rs := [10]) (by decide +kernel) (by simp) ?_
       repeat' (first | exact AllReadyH.nil | (refine AllReadyH.cons rfl (fun K hK => ?_) ?_)))
      all_goals (
       first
        | (refine step_append_at (by rfl) _ _ 29 9 (.string ⟨#[]⟩) 1 16 (by rfl) Tryz.underlying29 info_string rfl (by decide) (w.heap.size + 1) oa on oc (textV order) (by simp [Act.eval]) (ownsRow_ext HOR.out HX.out) ⟨G, 0, none⟩ 1 1 (textV [nm]) (by simp [Act.eval]) (by rfl) (run_blk HG.out) (textV_one [nm]) (by have := HON.out; omega) (by decide) (by have h1 := HX.out.size; have h2 := HSZ.out; omega) (on + 1) rfl ?_
           intro oa2 oc2 wn hown hk3 hat
           have hkq : Keep (fun g => g ≠ gb ∧ ∀ y, oa = some y → g ≠ y.block) wc wn := hk3.mono fun g _ hg e => by
            obtain ⟨z, hz, e3⟩ := ownBlock_some e.symm
            exact hg.2 z hz e3
           have HAT := Lib.hid hat
           have HOWN := Lib.hid hown
           have HKP := Lib.hid hk3
           refine hK.out _ _ (HCS.out _ (HK.out.trans hkq)) (fun _ => ?_)
           clear hK K hown hat hk3 HG
           replace HK := Lib.hid (HK.out.trans hkq)
           clear hkq
           obtain ⟨wd, hwd⟩ : ∃ x : World, x = wc := ⟨_, rfl⟩
           rw [← hwd] at HX HAT HKP
           clear hwd
           rename_i wo
           try clear wo
           obtain ⟨wc, rfl⟩ : ∃ x : World, x = wn := ⟨_, rfl⟩
           try simp only [List.getElem_toArray, List.getElem_cons_zero, List.getElem_cons_succ, Act.put, List.setIfInBounds_toArray, List.set_cons_zero, List.set_cons_succ]
           refine wpAnyH_take (i := 11) (v := ?_) rfl (by kernel_rfl) (by kernel_rfl) (by kernel_rfl) (fun _ _ _ h => h) (Or.inl ⟨by kernel_rfl, ?_⟩) (HCS.out _ HK.out) ?_
           rotate_left
           · (intro wq _; first | (go_simp; done) | (go_simp; with_reducible rfl))
           try simp only [List.getElem_toArray, List.getElem_cons_zero, List.getElem_cons_succ, Act.put, List.setIfInBounds_toArray, List.set_cons_zero, List.set_cons_succ]
           refine wpAnyH_take (i := 12) (v := ?_) rfl (by kernel_rfl) (by kernel_rfl) (by kernel_rfl) (fun _ _ _ h => h) (Or.inl ⟨by kernel_rfl, ?_⟩) (HCS.out _ HK.out) ?_
           rotate_left
           · (intro wq _; first | (go_simp; done) | (go_simp; with_reducible rfl))
           try simp only [List.getElem_toArray, List.getElem_cons_zero, List.getElem_cons_succ, Act.put, List.setIfInBounds_toArray, List.set_cons_zero, List.set_cons_succ]))
      all_goals (
       refine wpAnyH_ready (rs := [13]) (by kernel_rfl) (by simp) ?_
       refine AllReadyH.cons rfl (fun K hK => ?_) AllReadyH.nil
       have htn := HKP.out.heap (fun e => by
        obtain ⟨z, hz, e3⟩ := ownBlock_some e.symm
        exact HGO.out z hz e3) (HX.out.heap HT.out)
       have cn2 := blk_cell htn 2 (.slice oa on oc) rfl
       have fn2 := blk_free htn 2
       have HTN := Lib.hid htn
       clear htn
       go_simp
       have hks : Keep (fun g => g ≠ gb ∧ ∀ y, oa = some y → g ≠ y.block) wc (wc.setCell ⟨gb, 2, none⟩ (.slice oa2 (on + 1) oc2)) := (Keep.refl _ _).setCell (fun _ h => h.1) _ _
       refine hK.out _ _ (HCS.out _ (HK.out.trans hks)) (fun _ => ?_)
       clear hK K cn2 fn2
       try simp only [List.getElem_toArray, List.getElem_cons_zero, List.getElem_cons_succ, Act.put, List.setIfInBounds_toArray, List.set_cons_zero, List.set_cons_succ])
      all_goals (
       refine wpAnyH_done (by kernel_rfl) ?_ _
       refine NoPanic.normal ?_
       have hks : Keep (fun g => g ≠ gb) wc (wc.setCell ⟨gb, 2, none⟩ (.slice oa2 (on + 1) oc2)) := (Keep.refl _ _).setCell (fun _ h => h) _ _
       have htf := setCell_row (i := 2) HTN.out (.slice oa2 (on + 1) oc2)
       generalize wc.setCell ⟨gb, 2, none⟩ (.slice oa2 (on + 1) oc2) = wf at hks htf ⊢
       have hnt : ∀ g cs, wc.heap[g]? = some (.cells cs 9 (0, 0)) → g ≠ gb := fun g cs hg e => by
        rw [e, HTN.out] at hg
        injection (Option.some.inj hg) with _ h3
        exact absurd h3 (by decide)
       have hlf : OwnS wf (w.heap.size + 1) (some ⟨lg, 0, none⟩) lc left := OwnS.keep (ownsRow_keep (hL.out.ext HX.out) HKP.out (fun g cur hv _ _ e => by
        obtain ⟨z, hz, e3⟩ := ownBlock_some e.symm
        obtain ⟨z2, hz2, e4⟩ := ownBlock_some (g := g) (by rw [hv])
        exact hap.out z2 z hz2 hz (e4.symm.trans e3))) hks hnt
       have hof : wf.ownsRow (w.heap.size + 1) 9 1 (.slice oa2 (on + 1) oc2) (on + 1) (textV order ++ textV [nm]) := ownsRow_keep HOWN.out hks (fun g cur _ _ hg => hnt g cur hg)
       have HDEL := Lib.hid (delete_s hlf HI.out)
       have HTF := Lib.hid htf; have HKS := Lib.hid hks; have HOF := Lib.hid hof
       clear htf hks hof hlf hnt
       go_wp2_with (go_at_call 140; refine HDEL.out.mono ?_; rintro e w5 ⟨rfl, hL5, hk5⟩; have HL5 := Lib.hid hL5; have HK5 := Lib.hid hk5; clear hL5 hk5)
       go_roundw
       case rel =>
        have hlgne : lg ≠ gb := fun e => by
         have h1 := HLG.out
         rw [e, hT.out] at h1
         injection (Option.some.inj h1) with _ h3
         exact absurd h3 (by decide)
        have hlgl : lg < wr.heap.size := (Array.getElem?_eq_some_iff.1 HLG.out).1
        have hoa2 : ∀ y, oa2 = some y → y.block ≠ lg := fun y hy e => by
         rcases HAT.out y hy with ⟨z, hz, e2⟩ | e2
         · exact hap.out _ z rfl hz (e.symm.trans e2)
         · have := HX.out.size; omega
        have hle : (left.eraseIdx i).length = left.length - 1 := List.length_eraseIdx_of_lt HI.out
        have hil := HI.out
        have hon := HONE.out
        have h5 := HK5.out.heap (g := gb) (fun x hx e => by cases hx; exact hlgne e.symm) HTF.out
        refine ⟨k, left.eraseIdx i, order ++ [nm], some ⟨lg, 0, none⟩, lc, oa2, oc2, by first | rfl | go_num, by omega, by omega, Lib.hid (fun x hx => hnl.out x (List.mem_of_mem_eraseIdx hx)), HL5, Lib.hid ?_, Lib.hid ?_, Lib.hid ?_, Lib.hid ?_, HVV, Lib.hid ?_⟩
        · rw [List.length_append, List.length_singleton, ← hon]
          exact h5
        · have h6 := ownsRow_keep HOF.out HK5.out (fun g cur hv _ _ => fun x hx e => by
              cases hx
              obtain ⟨z, hz, e2⟩ := ownBlock_some (g := g) (by rw [hv])
              exact hoa2 z hz (e2.symm.trans e))
          unfold OwnS
          rw [List.length_append, List.length_singleton, ← hon]
          simpa [textV] using h6
        · have := hlo.out; rw [List.length_append, List.length_singleton]; omega
        · exact fun x y hx hy e => by cases hx; exact hoa2 y hy e.symm
        · have ho1 : ∀ z, oa = some z → w.heap.size + 1 ≤ z.block := fun z hz => (hO.out.blk hz).1
          refine (((hkp.out.trans (Keep.of_ext HX.out)).trans (HKP.out.mono fun g _ hg e => ?_)).trans (HKS.out.mono fun g _ hg => hg.2)).trans (HK5.out.mono fun g _ hg x hx e => ?_)
          · obtain ⟨z, hz, e3⟩ := ownBlock_some e.symm
            have h1 := ho1 z hz
            have h2 : g ≤ w.heap.size := hg.1
            omega
          · cases hx
            have h1 := HLB.out
            have h2 : g ≤ w.heap.size := hg.1
            have e : g = lg := e
            omega
       case measure =>
        have hle : (left.eraseIdx i).length = left.length - 1 := List.length_eraseIdx_of_lt HI.out
        have hil := HI.out
        simp only []
        show (left.eraseIdx i).length < left.length
        omega)
end Go.Proofs.YtefpllpichhojaaGreatDoor
