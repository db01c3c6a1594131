/- tree.file: other bytes. -/
import Derived.Test.YtldgpcmnmegioaaGreatDoorTreeOps
import Derived.Test.YtldgpcmnmegioaaGreatDoorCloneY
import Derived.Test.YtldgpcmnmegioaaGreatDoorOrdersK
namespace Go.Proofs.YtldgpcmnmegioaaGreatDoor
open Go.RowKit
section
variable {base tb mb N L : Nat} {T : TreeD} {A : Int → NodeA}

/-- What a step makes. -/
def StepR (base tb mb N : Nat) (r : TreeD × Int) (w : World) (e : Ending) (w' : World) : Prop :=
  ∃ A', e = .returned (.int .i64 r.2) ∧ TreeM w' base tb mb (N + 2) r.1 A' ∧ Keep (· < base) w w'
set_option maxRecDepth 100000 in
set_option maxHeartbeats 6400000 in
theorem file_write (kd : Int) (pt ds dt : By) (oa : Option Addr) (oc : Nat) (d : Int) (x : By) (i : Int) (w : World) (hT : TreeM w base tb mb N T A) (hg : GoodT T) (hf : FitT T L) (hL : L ≤ 1000000000) (hN : N ≤ 1000000000) (hd : d ∈ T.ids) (hdd : (T.node d).dir = true) (hx : x.length ≤ 100000) (hi : i ∈ T.ids) (hid : (T.node i).dir = false) (hbs : base ≤ w.heap.size) (hk : kd = 3) (hB : Bytes w oa dt) (hdl : dt.length ≤ 3500) :
    Calls Tryz.prog 60 #[.pointer (some ⟨tb, 0, none⟩), .agg #[.int .i64 kd, .string (bs pt), .string (bs ds), .slice oa dt.length oc], .pointer (some ⟨(A d).blk, 0, none⟩), .string (bs x), .int .i64 i] w (StepR base tb mb N (setT T i ⟨false, (T.node i).links, dt, noK⟩, 0) w) := by
  obtain ⟨R, hR⟩ : ∃ R, R = StepR base tb mb N (setT T i ⟨false, (T.node i).links, dt, noK⟩, 0) w := ⟨_, rfl⟩
  rw [← hR]
  have HR := Lib.hid hR; clear hR
  have HB := Lib.hid hB; clear hB
  have hT0 := hT
  have hlow := hg.low i hi
  have hnx := hf.next
  have hlk0 := hf.links i hi
  have HT := Lib.hid hT; clear hT
  have HG := Lib.hid hg; clear hg
  have HF := Lib.hid hf; clear hf
  have HD := Lib.hid hd; clear hd
  have HDD := Lib.hid hdd; clear hdd
  have HI := Lib.hid hi; clear hi
  have HID := Lib.hid hid; clear hid
  have hkx := key_by hx
  have hki := key_int (i := i) (by omega) (by omega)
  obtain ⟨w1, hw1⟩ : ∃ z, z = w.alloc (.cells #[.int .i64 kd, .string (bs pt), .string (bs ds), .slice oa dt.length oc] 38) := ⟨_, rfl⟩
  have hx1 : Ext w w1 := by rw [hw1]; exact Ext.alloc _ _
  have hbx : w1.heap[w.heap.size]? = some (.cells #[.int .i64 kd, .string (bs pt), .string (bs ds), .slice oa dt.length oc] 38 (0, 0)) := by rw [hw1]; exact heap_alloc_new w _
  have k0 := blk_cell hbx 0 _ rfl
  have hT1 := HT.out.ext hx1
  have c0 := blk_cell hT1.top 0 (Value.map (some mb)) rfl
  have hlk := hT1.look HI.out (by omega) (by omega)
  have HX1 := Lib.hid hx1; clear hx1
  have HT1 := Lib.hid hT1; clear hT1 hT0
  have HBX := Lib.hid hbx; clear hbx
  have HKD := Lib.hid hk; clear hk
  go_enter Tryz.func60, Tryz.ntmps60
  go_upto_region 1 with fail
  rw [← hw1]
  clear hw1
  have HBS := Lib.hid hbs
  obtain ⟨BX, hBXe⟩ : ∃ z, z = w.heap.size := ⟨_, rfl⟩
  have hBX2 := HBX.out
  rw [← hBXe] at hBX2 hbs k0 ⊢
  have HBX2 := Lib.hid hBX2; clear hBX2 HBX hBXe
  have hk := HKD.out
  go_upto_region 4 with fail
  clear c0 hlk k0
  have hcs : ∀ W, Ext w1 W → (W.cell? ⟨tb, 0, none⟩ = some (.map (some mb)) ∧ W.cell? ⟨(A i).blk, 1, none⟩ = some (.int .i64 (T.node i).links) ∧ W.cell? ⟨BX, 3, none⟩ = some (.slice oa dt.length oc)) := fun W k => ⟨blk_cell (HT1.out.ext k).top 0 _ rfl, blk_cell ((HT1.out.ext k).node i HI.out).1 1 _ rfl, blk_cell (k.heap HBX2.out) 3 _ rfl⟩
  have HCS := Lib.hid hcs; clear hcs
  have HK := Lib.hid ((Ext.refl w1).drew)
  refine wp_region_noPanic ?_
  refine wp_region_held_drew (S := (fun W => W.cell? ⟨tb, 0, none⟩ = some (.map (some mb)) ∧ W.cell? ⟨(A i).blk, 1, none⟩ = some (.int .i64 (T.node i).links) ∧ W.cell? ⟨BX, 3, none⟩ = some (.slice oa dt.length oc))) (by kernel_rfl) (HCS.out _ HK.out) (fun hHeld => ?_)
  clear hHeld
  generalize w1.drew = wc at HK ⊢
  refine wpAnyH_take (i := 0) (v := ?_) rfl (by kernel_rfl) (by kernel_rfl) (by kernel_rfl) (fun _ _ _ h => h) (Or.inl ⟨by kernel_rfl, ?_⟩) (HCS.out _ HK.out) ?_
  rotate_left
  · (intro wq _; first | (go_simp; done) | (go_simp; with_reducible rfl))
  try simp only [List.getElem_toArray, List.getElem_cons_zero, Act.put, List.setIfInBounds_toArray, List.set_cons_zero, List.set_cons_succ]
  refine wpAnyH_take (i := 1) (v := ?_) rfl (by kernel_rfl) (by kernel_rfl) (by kernel_rfl) (fun _ _ _ h => h) (Or.inl ⟨by kernel_rfl, ?_⟩) (HCS.out _ HK.out) ?_
  rotate_left
  · (intro wq _; first | (go_simp; done) | (go_simp; with_reducible rfl))
  try simp only [List.getElem_toArray, List.getElem_cons_zero, List.getElem_cons_succ, Act.put, List.setIfInBounds_toArray, List.set_cons_zero, List.set_cons_succ]
  refine wpAnyH_take (i := 2) (v := ?_) rfl (by kernel_rfl) (by kernel_rfl) (by kernel_rfl) (fun _ _ _ h => h) (Or.inl ⟨by kernel_rfl, ?_⟩) (HCS.out _ HK.out) ?_
  rotate_left
  · (intro wq _; first | (go_simp; done) | (go_simp; with_reducible rfl))
  try simp only [List.getElem_toArray, List.getElem_cons_zero, List.getElem_cons_succ, Act.put, List.setIfInBounds_toArray, List.set_cons_zero, List.set_cons_succ]
  refine wpAnyH_take (i := 3) (v := ?_) rfl (by kernel_rfl) (by kernel_rfl) (by kernel_rfl) (fun _ _ _ h => h) (Or.inl ⟨by kernel_rfl, ?_⟩) (HCS.out _ HK.out) ?_
  rotate_left
  · (intro wq hSw; (try dsimp only at hSw); first | (go_simp; done) | (go_simp; with_reducible rfl))
  try simp only [List.getElem_toArray, List.getElem_cons_zero, List.getElem_cons_succ, Act.put, List.setIfInBounds_toArray, List.set_cons_zero, List.set_cons_succ]
  refine wpAnyH_take (i := 4) (v := ?_) rfl (by kernel_rfl) (by kernel_rfl) (by kernel_rfl) (fun _ _ _ h => h) (Or.inl ⟨by kernel_rfl, ?_⟩) (HCS.out _ HK.out) ?_
  rotate_left
  · (intro wq _; first | (go_simp; done) | (go_simp; with_reducible rfl))
  try simp only [List.getElem_toArray, List.getElem_cons_zero, List.getElem_cons_succ, Act.put, List.setIfInBounds_toArray, List.set_cons_zero, List.set_cons_succ]
  refine wpAnyH_take (i := 5) (v := ?_) rfl (by kernel_rfl) (by kernel_rfl) (by kernel_rfl) (fun _ _ _ h => h) (Or.inl ⟨by kernel_rfl, ?_⟩) (HCS.out _ HK.out) ?_
  rotate_left
  · (intro wq _; first | (go_simp; done) | (go_simp; with_reducible rfl))
  try simp only [List.getElem_toArray, List.getElem_cons_zero, List.getElem_cons_succ, Act.put, List.setIfInBounds_toArray, List.set_cons_zero, List.set_cons_succ]
  refine wpAnyH_take (i := 6) (v := ?_) rfl (by kernel_rfl) (by kernel_rfl) (by kernel_rfl) (fun _ _ _ h => h) (Or.inl ⟨by kernel_rfl, ?_⟩) (HCS.out _ HK.out) ?_
  rotate_left
  · (intro wq _; first | (go_simp; done) | (go_simp; with_reducible rfl))
  try simp only [List.getElem_toArray, List.getElem_cons_zero, List.getElem_cons_succ, Act.put, List.setIfInBounds_toArray, List.set_cons_zero, List.set_cons_succ]
  refine wpAnyH_take (i := 7) (v := ?_) rfl (by kernel_rfl) (by kernel_rfl) (by kernel_rfl) (fun _ _ _ h => h) (Or.inl ⟨by kernel_rfl, ?_⟩) (HCS.out _ HK.out) ?_
  rotate_left
  · (intro wq _; first | (go_simp; done) | (go_simp; with_reducible rfl))
  try simp only [List.getElem_toArray, List.getElem_cons_zero, List.getElem_cons_succ, Act.put, List.setIfInBounds_toArray, List.set_cons_zero, List.set_cons_succ]
  refine wpAnyH_take (i := 8) (v := ?_) rfl (by kernel_rfl) (by kernel_rfl) (by kernel_rfl) (fun _ _ _ h => h) (Or.inl ⟨by kernel_rfl, ?_⟩) (HCS.out _ HK.out) ?_
  rotate_left
  · (intro wq hSw; (try dsimp only at hSw); first | (go_simp; done) | (go_simp; with_reducible rfl))
  try simp only [List.getElem_toArray, List.getElem_cons_zero, List.getElem_cons_succ, Act.put, List.setIfInBounds_toArray, List.set_cons_zero, List.set_cons_succ]
  refine wpAnyH_take (i := 9) (v := ?_) rfl (by kernel_rfl) (by kernel_rfl) (by kernel_rfl) (fun _ _ _ h => h) (Or.inl ⟨by kernel_rfl, ?_⟩) (HCS.out _ HK.out) ?_
  rotate_left
  · (intro wq _; first | (go_simp; done) | (go_simp; with_reducible rfl))
  try simp only [List.getElem_toArray, List.getElem_cons_zero, List.getElem_cons_succ, Act.put, List.setIfInBounds_toArray, List.set_cons_zero, List.set_cons_succ]
  refine wpAnyH_take (i := 10) (v := ?_) rfl (by kernel_rfl) (by kernel_rfl) (by kernel_rfl) (fun _ _ _ h => h) (Or.inl ⟨by kernel_rfl, ?_⟩) (HCS.out _ HK.out) ?_
  rotate_left
  · (intro wq hSw; (try dsimp only at hSw); first | (go_simp; done) | (go_simp; with_reducible rfl))
  try simp only [List.getElem_toArray, List.getElem_cons_zero, List.getElem_cons_succ, Act.put, List.setIfInBounds_toArray, List.set_cons_zero, List.set_cons_succ]
  all_goals (
    first
      | refine wpAnyH_ready (rs := [11]) (by decide +kernel) (by simp) ?_
    repeat' (first | exact AllReadyH.nil | (refine AllReadyH.cons rfl (fun K hK => ?_) ?_)))
  all_goals (
    first
      | (go_simp
         first
           | (go_at_call 51
              refine (clone_y oa oc dt wc (HB.out.ext (HX1.out.trans HK.out)) (by omega)).mono ?_
              rintro e wn ⟨ca, cc, rfl, hcc, hdm, _, hx⟩
              replace HK := Lib.hid (HK.out.trans hx)
              have HDM := Lib.hid hdm
              clear hx hdm
              go_wp2_with fail
              refine hK.out _ _ (HCS.out _ HK.out) (fun _ => ?_)
              clear hK K
              obtain ⟨wc, rfl⟩ : ∃ z : World, z = wn := ⟨_, rfl⟩
              try simp only [List.getElem_toArray, List.getElem_cons_zero, List.getElem_cons_succ, Act.put, List.setIfInBounds_toArray, List.set_cons_zero, List.set_cons_succ]
              refine wpAnyH_take (i := 12) (v := ?_) rfl (by kernel_rfl) (by kernel_rfl) (by kernel_rfl) (fun _ _ _ h => h) (Or.inl ⟨by kernel_rfl, ?_⟩) (HCS.out _ HK.out) ?_
              rotate_left
              · (intro wq _; first | (go_simp; done) | (go_simp; with_reducible rfl))
              try simp only [List.getElem_toArray, List.getElem_cons_zero, List.getElem_cons_succ, Act.put, List.setIfInBounds_toArray, List.set_cons_zero, List.set_cons_succ])))
  all_goals (
    first
      | refine wpAnyH_ready (rs := [13]) (by decide +kernel) (by simp) ?_
    repeat' (first | exact AllReadyH.nil | (refine AllReadyH.cons rfl (fun K hK => ?_) ?_)))
  all_goals (
    first
      | (go_simp
         first
           | (have hx := Ext.alloc wc (.cells #[.bool false, .int .i64 (T.node i).links, .slice ca dt.length cc, .map none] 71)
              have hbn := heap_alloc_new wc (.cells #[.bool false, .int .i64 (T.node i).links, .slice ca dt.length cc, .map none] 71)
              have hle := HK.out.size
              refine hK.out _ (wc.alloc (.cells #[.bool false, .int .i64 (T.node i).links, .slice ca dt.length cc, .map none] 71)) (HCS.out _ (HK.out.trans hx)) (fun _ => ?_)
              clear hK K
              replace HDM := Lib.hid (HDM.out.keep (Keep.of_ext (S := fun _ => True) hx) (datas_all wc))
              have hlt : ∀ j ∈ T.ids, wc.heap.size ≠ (A j).blk := fun j hj e => by
                have hq := (((HT1.out.ext HK.out).node j hj).1)
                have := (Array.getElem?_eq_some_iff.1 hq).1
                omega
              replace HK := Lib.hid (HK.out.trans hx)
              obtain ⟨NB, hNB⟩ : ∃ z, z = wc.heap.size := ⟨_, rfl⟩
              rw [← hNB] at hbn hle hlt ⊢
              have HBN := Lib.hid hbn
              have HLT := Lib.hid hlt
              clear hbn hNB hx hlt
              generalize wc.alloc (.cells #[.bool false, .int .i64 (T.node i).links, .slice ca dt.length cc, .map none] 71) = wc at *
              try simp only [List.getElem_toArray, List.getElem_cons_zero, List.getElem_cons_succ, Act.put, List.setIfInBounds_toArray, List.set_cons_zero, List.set_cons_succ])))
  all_goals (
    refine wpAnyH_ready (rs := [14]) (by kernel_rfl) (by simp) ?_
    refine AllReadyH.cons rfl (fun K hK => ?_) AllReadyH.nil
    have hTc := HT1.out.ext HK.out
    have hnn : NodeM wc N ⟨false, (T.node i).links, dt, noK⟩ ⟨NB, ca, cc, none⟩ := ⟨HBN.out, HDM.out, hcc, Or.inl ⟨rfl, rfl⟩⟩
    have hx1s := HX1.out.size
    have hbw := HBS.out
    obtain ⟨w2, hrun, hm2, hk2⟩ := hTc.map.store (t := 72) int_keyedA Tryz.underlying72 (by unfold maxLen; omega) keyI_inj (.pointer (some ⟨NB, 0, none⟩)) hki
    have hT2 := (hTc.mono (Nat.le_succ N)).put i hk2 (hnn.mono (Nat.le_succ N)) HLT.out (fun j _ b e => by cases e) (fun e => by cases e) (fun e => by cases e) ⟨by show base ≤ NB; omega, fun b e => by cases e⟩ (Nat.le_succ (N + 1)) (hm2.mono (Nat.le_succ (N + 1))) (I := T.ids) (fun j => ⟨Or.inr, fun h => h.elim (fun e => e ▸ HI.out) id⟩)
    have hkw : Keep (· < base) w w2 := (Keep.of_ext (HX1.out.trans HK.out)).andThen hk2 (fun j _ (hj : j < base) => by have := hTc.low.2.1; show j ≠ mb; omega)
    obtain ⟨es, cl, hbm⟩ := hTc.map.block
    have hbx2 := hk2.heap (g := BX) (by intro e; have h := HK.out.heap HBX2.out; rw [e, hbm] at h; cases h) (HK.out.heap HBX2.out)
    have hni := hk2.heap (g := (A i).blk) (by intro e; have h := (hTc.node i HI.out).1; rw [e, hbm] at h; cases h) (hTc.node i HI.out).1
    go_simp
    refine hK.out _ _ ⟨blk_cell hT2.top 0 _ rfl, blk_cell hni 1 _ rfl, blk_cell hbx2 3 _ rfl⟩ (fun _ => ?_)
    clear hK K hrun
    try simp only [List.getElem_toArray, List.getElem_cons_zero, List.getElem_cons_succ, Act.put, List.setIfInBounds_toArray, List.set_cons_zero, List.set_cons_succ])
  all_goals (
    refine wpAnyH_done (by kernel_rfl) ?_ _
    refine NoPanic.normal ?_
    have HT2 := Lib.hid hT2
    have HKW := Lib.hid hkw
    clear hT2 hkw hTc hnn hm2 hk2 hbm hbx2 hni HT HT1 HCS
    go_wp2_with fail
    rw [HR.out]
    exact ⟨_, rfl, HT2.out, HKW.out⟩)
end
end Go.Proofs.YtldgpcmnmegioaaGreatDoor
