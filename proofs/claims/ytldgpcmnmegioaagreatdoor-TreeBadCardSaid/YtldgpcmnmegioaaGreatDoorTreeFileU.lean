/- tree.file: a name less. -/
import Derived.Test.YtldgpcmnmegioaaGreatDoorTreeFileW
namespace Go.Proofs.YtldgpcmnmegioaaGreatDoor
open Go.RowKit
section
variable {base tb mb N L : Nat} {T : TreeD} {A : Int → NodeA}

set_option maxRecDepth 100000 in
set_option maxHeartbeats 6400000 in
theorem file_unlink (kd : Int) (pt ds dt : By) (oa : Option Addr) (oc : Nat) (d : Int) (x : By) (i : Int) (w : World) (hT : TreeM w base tb mb N T A) (hg : GoodT T) (hf : FitT T L) (hL : L ≤ 1000000000) (_hN : N ≤ 1000000000) (hd : d ∈ T.ids) (hdd : (T.node d).dir = true) (hx : x.length ≤ 100000) (hi : i ∈ T.ids) (hid : (T.node i).dir = false) (hbs : base ≤ w.heap.size) (hk : kd = 6) :
    Calls Tryz.prog 60 #[.pointer (some ⟨tb, 0, none⟩), .agg #[.int .i64 kd, .string (bs pt), .string (bs ds), .slice oa dt.length oc], .pointer (some ⟨(A d).blk, 0, none⟩), .string (bs x), .int .i64 i] w (StepR base tb mb N (linkT (cutT T d x) i (-1), 0) w) := by
  obtain ⟨R, hR⟩ : ∃ R, R = StepR base tb mb N (linkT (cutT T d x) i (-1), 0) w := ⟨_, rfl⟩
  rw [← hR]
  have HR := Lib.hid hR; clear hR
  have hT0 := hT
  have hlow := hg.low i hi
  have hnx := hf.next
  have hlk0 := hf.links i hi
  have HT := Lib.hid hT; clear hT
  have HG := Lib.hid hg; clear hg
  have HF := Lib.hid hf; clear hf
  have HD := Lib.hid hd; clear hd
  have HDD := Lib.hid hdd; clear hdd
  have HI := Lib.hid hi; clear hi
  have HID := Lib.hid hid; clear hid
  have hkx := key_by hx
  have hki := key_int (i := i) (by omega) (by omega)
  obtain ⟨w1, hw1⟩ : ∃ z, z = w.alloc (.cells #[.int .i64 kd, .string (bs pt), .string (bs ds), .slice oa dt.length oc] 38) := ⟨_, rfl⟩
  have hx1 : Ext w w1 := by rw [hw1]; exact Ext.alloc _ _
  have hbx : w1.heap[w.heap.size]? = some (.cells #[.int .i64 kd, .string (bs pt), .string (bs ds), .slice oa dt.length oc] 38 (0, 0)) := by rw [hw1]; exact heap_alloc_new w _
  have k0 := blk_cell hbx 0 _ rfl
  have hT1 := HT.out.ext hx1
  have c0 := blk_cell hT1.top 0 (Value.map (some mb)) rfl
  have hlk := hT1.look HI.out (by omega) (by omega)
  have HX1 := Lib.hid hx1; clear hx1
  have HT1 := Lib.hid hT1; clear hT1 hT0
  have HBX := Lib.hid hbx; clear hbx
  have HKD := Lib.hid hk; clear hk
  go_enter Tryz.func60, Tryz.ntmps60
  go_upto_region 1 with fail
  rw [← hw1]
  clear hw1
  have HBS := Lib.hid hbs
  obtain ⟨BX, hBXe⟩ : ∃ z, z = w.heap.size := ⟨_, rfl⟩
  have hBX2 := HBX.out
  rw [← hBXe] at hBX2 hbs k0 ⊢
  have HBX2 := Lib.hid hBX2; clear hBX2 HBX hBXe
  have hk := HKD.out
  obtain ⟨kb, hkb⟩ := HT1.out.kbd d HD.out HDD.out
  have c3 : w1.cell? ⟨(A d).blk, 3, none⟩ = some (.map (some kb)) := by rw [← hkb]; exact blk_cell (HT1.out.node d HD.out).1 3 _ rfl
  have hmk : MapF keyS w1 9 kb N (kidsF (T.node d).kids) := by
    rcases (HT1.out.node d HD.out).2.2.2 with ⟨e, _⟩ | ⟨b, e, hm⟩
    · rw [hkb] at e; cases e
    · rw [hkb] at e; cases e; exact hm
  have HKB := Lib.hid hkb; clear hkb
  have HMK := Lib.hid hmk; clear hmk
  have hni : (cutT T d x).node i = T.node i := by
    unfold cutT
    rw [setT_node, if_neg]
    intro e
    have h1 := HID.out
    rw [e, HDD.out] at h1; cases h1
  have HNI := Lib.hid hni; clear hni
  go_upto_region 8 with (at_delete; refine wpList_delete_F rfl _ _ 69 rfl 3 str_keyed Tryz.underlying69 kb N _ rfl HMK.out keyS_inj _ x rfl hkx ?_; intro w2 hm2 hk2; go_frame)
  rw [kidsF_less] at hm2
  have hT2 : TreeM w2 base tb mb N (cutT T d x) A := HT1.out.set_kids HD.out HKB.out hk2 (Nat.le_refl _) hm2
  have hkw : Keep (· < base) w w2 := (Keep.of_ext HX1.out).andThen hk2 (fun j _ (hj : j < base) => by have := (HT1.out.low.2.2 d HD.out).2 kb HKB.out; show j ≠ kb; omega)
  have hnb := (hT2.node i HI.out).1
  have c1 : w2.cell? ⟨(A i).blk, 1, none⟩ = some (.int .i64 (T.node i).links) := by
    rw [← HNI.out]; exact blk_cell hnb 1 _ rfl
  have f1 := blk_free hnb 1
  have hfin := hT2.set_links HI.out (((cutT T d x).node i).links + -1)
  rw [HNI.out] at hfin
  have HFIN := Lib.hid hfin
  have HKW := Lib.hid hkw
  have hlo := hT2.low.2.2 i HI.out
  clear hnb hfin hkw hm2 hk2 hT2 c3
  go_wp2_with fail
  rw [HR.out]
  have hfin := (HFIN.out.mono (Nat.le_succ N)).mono (Nat.le_succ (N + 1))
  refine ⟨A, rfl, ?_, HKW.out.setCell (fun j (hj : j < base) => by have := hlo.1; omega) 1 _⟩
  unfold linkT
  rw [HNI.out]
  rw [show (T.node i).links - 1 = (T.node i).links + -1 by omega]
  exact hfin
end
end Go.Proofs.YtldgpcmnmegioaaGreatDoor
