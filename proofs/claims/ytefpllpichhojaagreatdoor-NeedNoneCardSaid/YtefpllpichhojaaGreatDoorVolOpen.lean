/- vol's Open. -/
import Derived.Test.YtefpllpichhojaaGreatDoorVolRep
namespace Go.Proofs.YtefpllpichhojaaGreatDoor
open Go.RowKit
variable [Low]
omit [Low] in
theorem TreeM.fresh_ne {w : World} {base tb mb N : Nat} {T : TreeD} {A : Int → NodeA} (h : TreeM w base tb mb N T A) : w.heap.size ≠ mb ∧ ∀ i ∈ T.ids, (A i).kb ≠ some w.heap.size := by
 obtain ⟨es, cl, hm⟩ := h.map.block
 have hl := (Array.getElem?_eq_some_iff.1 hm).1
 exact ⟨by omega, fun i hi e => by have := (h.blk_lt hi).2 _ e; omega⟩
theorem TreeM.low0 {w : World} {base tb mb N : Nat} {T : TreeD} {A : Int → NodeA} (h : TreeM w base tb mb N T A) (hls : Low.low ≤ base) : TreeM w Low.low tb mb N T A :=
 ⟨h.top, h.map, h.node, h.blk, h.kid, h.mkb, h.kbd, ⟨Nat.le_trans hls h.low.1, Nat.le_trans hls h.low.2.1, fun i hi => ⟨Nat.le_trans hls (h.low.2.2 i hi).1, fun b hb => Nat.le_trans hls ((h.low.2.2 i hi).2 b hb)⟩⟩⟩
omit [Low] in
theorem heldV_none : heldV (fun _ => none) = fun _ => none := rfl
section
variable {X : Nat → Prop} {w : World} {db kb n N : Nat} {q : Int} {img : Img} {L : LogD} {S : List By} {U : TreeD} {opss : List (List OpD)}
def OpenR (X : Nat → Prop) (w : World) (db kb n N : Nat) (V : VolD) (e : Ending) (w' : World) : Prop :=
 ∃ vb, e = .returned (.tuple #[.pointer (some ⟨vb, 0, none⟩), .int .i64 0]) ∧ VolM X w' vb db kb n N V ∧ KeepY X w w'
set_option maxRecDepth 100000 in
set_option maxHeartbeats 12800000 in
theorem vol_OpenN (hX : ∀ g, X g → g < w.heap.size) (hlw : Low.low ≤ w.heap.size) (hop : Calls Tryz.prog 108 #[.pointer (some ⟨db, 0, none⟩)] w fun e w' => ∃ lb, e = .returned (.tuple #[.pointer (some ⟨lb, 0, none⟩), .int .i64 0]) ∧ LogM w' lb db kb n img L ∧ KeepT logT w w')
 (hgl : GoodLog n img L) (hl : L.list = []) :
 Calls Tryz.prog 64 #[.pointer (some ⟨db, 0, none⟩), .int .i64 q] w (OpenR X w db kb n 1000 ⟨newT q, L, img, q, fun _ => none⟩) := by
 obtain ⟨R, hR⟩ : ∃ R, R = OpenR X w db kb n 1000 ⟨newT q, L, img, q, fun _ => none⟩ := ⟨_, rfl⟩
 rw [← hR]
 have HR := Lib.hid hR; clear hR
 have HXL := Lib.hid hX; have HLWS := Lib.hid hlw; have HOP := Lib.hid hop; have HGL := Lib.hid hgl
 have HLL := Lib.hid hl
 clear hX hlw hop hgl hl
 have hmk := @run_makeMap Tryz.prog
 go_enter Tryz.func64, Tryz.ntmps64
 go_upto_region 5 with (first
  | (go_at_call 108; refine HOP.out.mono ?_; rintro E w1 ⟨lb, rfl, hLM, hkt⟩; have HLM := Lib.hid hLM; have HKT := Lib.hid hkt; clear hLM hkt)
  | (go_at_call 109; refine (tree_New q _).mono ?_; rintro E w2 ⟨tb, mb, A, rfl, hT2, hx2⟩; have HT2 := Lib.hid hT2; have HX2 := Lib.hid hx2; clear hT2 hx2))
 clear hmk
 have hne := HT2.out.fresh_ne
 have hx4 : Ext w2 ((w2.alloc (.map #[] 0)).alloc (.cells #[.pointer (some ⟨tb, 0, none⟩), .pointer (some ⟨lb, 0, none⟩), .int .i64 q, .map (some w2.heap.size), .bool false] 124)) := (Ext.alloc _ _).trans (Ext.alloc _ _)
 have hm4 := (MapF.made keyI w2 3).ext (Ext.alloc _ (.cells #[.pointer (some ⟨tb, 0, none⟩), .pointer (some ⟨lb, 0, none⟩), .int .i64 q, .map (some w2.heap.size), .bool false] 124))
 have hb4 := heap_alloc_new (w2.alloc (.map #[] 0)) (.cells #[.pointer (some ⟨tb, 0, none⟩), .pointer (some ⟨lb, 0, none⟩), .int .i64 q, .map (some w2.heap.size), .bool false] 124)
 have hs4 : (w2.alloc (.map #[] 0)).heap.size = w2.heap.size + 1 := by simp
 rw [hs4] at hb4
 generalize (w2.alloc (.map #[] 0)).alloc (.cells #[.pointer (some ⟨tb, 0, none⟩), .pointer (some ⟨lb, 0, none⟩), .int .i64 q, .map (some w2.heap.size), .bool false] 124) = wc at hx4 hm4 hb4 ⊢
 obtain ⟨vb, hvb⟩ : ∃ z, z = w2.heap.size + 1 := ⟨_, rfl⟩
 rw [← hvb] at hb4 ⊢
 obtain ⟨hb, hhb⟩ : ∃ z, z = w2.heap.size := ⟨_, rfl⟩
 rw [← hhb] at hb4 hm4 hne
 have hxv := HX2.out.trans hx4
 have hlw1 : Low.low ≤ w1.heap.size := Nat.le_trans HLWS.out HKT.out.size
 have hTc := ((HT2.out.low0 hlw1).ext hx4).mono (show 1 ≤ 1000 by omega)
 have HV0 : Hid (VolM X wc vb db kb n 1000 ⟨newT q, L, img, q, fun _ => none⟩) := Lib.hid ⟨tb, lb, hb, mb, A, hb4, hTc, LogC.ext HLM.out hxv, (heldV_none ▸ (hm4.mono (Nat.zero_le _)) : MapF keyI wc 3 hb 1000 (heldV fun _ => none)), hne, newT_good q, (newT_fit q).mono (by omega), HGL.out, ⟨fun hx => by have := HXL.out _ hx; have := HKT.out.size; have := HX2.out.size; omega, fun hx => by have := HXL.out _ hx; have := HKT.out.size; have := HT2.out.low.2.1; omega, fun g hg => by have := HXL.out _ hg; have := HKT.out.size; have := hxv.size; omega⟩, ⟨by have := HX2.out.size; omega, by have := HX2.out.size; omega⟩, fun i hi b hb hx => by have := HXL.out _ hx; have := HKT.out.size; have := (HT2.out.low.2.2 i hi).2 b hb; omega⟩
 have HKY : Hid (KeepY X w wc) := Lib.hid ((KeepY.of_keepT HKT.out (fun t ht => logT_vol t ht)).trans (KeepY.of_ext hxv))
 have HLM2 := Lib.hid (LogC.ext HLM.out hxv)
 clear hlw1 hne hx4 hm4 hb4 hs4 hxv hTc hvb hhb HX2 HT2 HLM
 go_upto_region 6 with (go_at_call 110; refine (log_List HLM2.out (by rw [HLL.out]; exact Nat.zero_le _) (by rw [HLL.out]; intro b hb; cases hb)).mono ?_; rintro E w3 ⟨ra, rc, rfl, _, hx3⟩; have HX3 := Lib.hid hx3; clear hx3)
 rw [HLL.out, List.length_nil]
 go_wp2_with fail
 go_loopw [10] (fun i wr => i = .int .i64 0 ∧ Hid (Ext w3 wr)) (fun _ _ => 0)
 case atStart => exact ⟨rfl, Lib.hid (Ext.refl _)⟩
 case round =>
  obtain ⟨rfl, HX⟩ := hrel
  by_cases hrk : rc = 0
  all_goals (
   go_upto_region 20 with fail
   go_loopw [90] (fun i wr => i = .int .i64 0 ∧ Hid (Ext w3 wr)) (fun _ _ => 0)
   case atStart => exact ⟨rfl, HX⟩
   case round =>
    obtain ⟨rfl, HX2⟩ := hrel
    go_wp2_with fail
    rw [HR.out]
    exact ⟨vb, rfl, HV0.out.ext (HX3.out.trans HX2.out), HKY.out.trans (KeepY.of_ext (HX3.out.trans HX2.out))⟩)
end
end Go.Proofs.YtefpllpichhojaaGreatDoor
