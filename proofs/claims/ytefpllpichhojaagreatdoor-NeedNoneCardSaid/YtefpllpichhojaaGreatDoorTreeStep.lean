/- tree.step: an operation. -/
import Derived.Test.YtefpllpichhojaaGreatDoorTreeFileM
import Derived.Test.YtefpllpichhojaaGreatDoorTreeMake
namespace Go.Proofs.YtefpllpichhojaaGreatDoor
open Go.RowKit
theorem MapF.len0 {w : World} {b n : Nat} {f : By → Option Value} (h : MapF keyS w 9 b n f) (ty : TypeId) {t e : TypeId} (ht : Tryz.prog.underlying t = some (.map 9 e)) :
 ∃ m : Nat, (Builtin.len_ #[t] ty #[.map (some b)]).run Tryz.prog w = .ok (.int .i64 m) w ∧ (m = 0 ↔ ∀ x, f x = none) := by
 have h' := h
 obtain ⟨D, h1, _, h3⟩ := h
 obtain ⟨_, hnd, hmem⟩ := sorted_names h1 (fun x => (h3 x).2) (List.Perm.refl (strKeys D))
 refine ⟨_, h'.size_names hnd hmem ty ht, ?_⟩
 rw [List.length_eq_zero_iff]
 constructor
 · intro e x
   cases hx : f x with
   | none => rfl
   | some v =>
     have := (hmem x).2 (by rw [hx]; rfl)
     rw [e] at this; cases this
 · intro hall
   rw [List.eq_nil_iff_forall_not_mem]
   intro x hx
   have := (hmem x).1 hx
   rw [hall x] at this; cases this
theorem kidsF_none {k : By → Option Int} : (∀ x, kidsF k x = none) ↔ emptyK k := by
 unfold emptyK kidsF
 constructor
 · intro h x; have := h x; cases hk : k x with
   | none => rfl
   | some v => rw [hk] at this; cases this
 · intro h x; rw [h x]; rfl
section
variable {base tb mb N L : Nat} {T : TreeD} {A : Int → NodeA}
theorem tree_file (kd : Int) (pt ds dt : By) (oa : Option Addr) (oc : Nat) (d : Int) (x : By) (i : Int) (w : World) (hT : TreeM w base tb mb N T A) (hg : GoodT T) (hf : FitT T L) (hL : L ≤ 1000000000) (hN : N ≤ 1000000000) (hd : d ∈ T.ids) (hdd : (T.node d).dir = true) (hx : x.length ≤ 100000) (hi : i ∈ T.ids) (hid : (T.node i).dir = false) (hbs : base ≤ w.heap.size) (hE : Env w) (hB : Bytes w oa dt) (hdl : dt.length ≤ 3500) :
 Calls Tryz.prog 167 #[.pointer (some ⟨tb, 0, none⟩), .agg #[.int .i64 kd, .string (bs pt), .string (bs ds), .slice oa dt.length oc], .pointer (some ⟨(A d).blk, 0, none⟩), .string (bs x), .int .i64 i] w (StepR base tb mb N (fileT T ⟨kd, pt, ds, dt⟩ d x i) w) := by
 by_cases h3 : kd = 3
 · have e : fileT T ⟨kd, pt, ds, dt⟩ d x i = (setT T i ⟨false, (T.node i).links, dt, noK⟩, 0) := by unfold fileT; rw [if_pos h3]
   rw [e]
   exact file_write kd pt ds dt oa oc d x i w hT hg hf hL hN hd hdd hx hi hid hbs h3 hB hdl
 · by_cases h6 : kd = 6
   · have e : fileT T ⟨kd, pt, ds, dt⟩ d x i = (linkT (cutT T d x) i (-1), 0) := by unfold fileT; rw [if_neg h3, if_pos h6]
     rw [e]
     exact file_unlink kd pt ds dt oa oc d x i w hT hg hf hL hN hd hdd hx hi hid hbs h6
   · exact file_move kd pt ds dt oa oc d x i w hT hg hf hL hN hd hdd hx hi hid hbs hE ⟨h3, h6⟩
set_option maxRecDepth 100000 in
set_option maxHeartbeats 12800000 in
theorem tree_step (kd : Int) (pt ds dt : By) (oa : Option Addr) (oc : Nat) (w : World) (hE : Env w) (hT : TreeM w base tb mb N T A) (hg : GoodT T) (hf : FitT T L) (hL : L ≤ 1000000000) (hN : N ≤ 1000000000) (hbs : base ≤ w.heap.size) (hB : Bytes w oa dt) :
 Calls Tryz.prog 117 #[.pointer (some ⟨tb, 0, none⟩), .agg #[.int .i64 kd, .string (bs pt), .string (bs ds), .slice oa dt.length oc]] w (StepR base tb mb N (stepT T ⟨kd, pt, ds, dt⟩) w) := by
 obtain ⟨rr, hrr⟩ : ∃ rr, rr = stepT T ⟨kd, pt, ds, dt⟩ := ⟨_, rfl⟩
 rw [← hrr]
 unfold stepT at hrr
 simp only at hrr
 obtain ⟨R, hR⟩ : ∃ R, R = StepR base tb mb N rr w := ⟨_, rfl⟩
 rw [← hR]
 have HR := Lib.hid hR; clear hR
 have HRR := Lib.hid hrr; clear hrr
 have HE := Lib.hid hE; clear hE
 have HB := Lib.hid hB; clear hB
 have hnx := hf.next
 have HT := Lib.hid hT; clear hT
 have HG := Lib.hid hg; clear hg
 have HF := Lib.hid hf; clear hf
 obtain ⟨w1, hw1⟩ : ∃ z, z = w.alloc (.cells #[.int .i64 kd, .string (bs pt), .string (bs ds), .slice oa dt.length oc] 52) := ⟨_, rfl⟩
 have hx1 : Ext w w1 := by rw [hw1]; exact Ext.alloc _ _
 have hbx : w1.heap[w.heap.size]? = some (.cells #[.int .i64 kd, .string (bs pt), .string (bs ds), .slice oa dt.length oc] 52 (0, 0)) := by rw [hw1]; exact heap_alloc_new w _
 have hT1 := HT.out.ext hx1
 have HX1 := Lib.hid hx1; clear hx1
 have HT1 := Lib.hid hT1; clear hT1
 go_enter Tryz.func117, Tryz.ntmps117
 go_upto_region 1 with fail
 rw [← hw1]
 clear hw1
 have HBS := Lib.hid hbs
 obtain ⟨BX, hBXe⟩ : ∃ z, z = w.heap.size := ⟨_, rfl⟩
 rw [← hBXe] at hbx hbs ⊢
 clear hBXe
 have k0 := blk_cell hbx 0 (Value.int .i64 kd) rfl
 have k1 := blk_cell hbx 1 (Value.string (bs pt)) rfl
 have HBX := Lib.hid hbx; clear hbx
 by_cases hneg : kd < 0
 · have hrr := HRR.out
   rw [if_pos (Or.inl hneg)] at hrr
   have HRR2 := Lib.hid hrr; clear hrr HRR
   go_wp2_with fail
   rw [HR.out, HRR2.out]
   exact ⟨A, rfl, ((HT1.out.ext (Ext.refl _)).mono (Nat.le_succ N)).mono (Nat.le_succ (N + 1)), Keep.of_ext (HX1.out.trans (Ext.refl _))⟩
 · by_cases hbig : 6 < kd
   · have hrr := HRR.out
     rw [if_pos (Or.inr hbig)] at hrr
     have HRR2 := Lib.hid hrr; clear hrr HRR
     go_wp2_with fail
     rw [HR.out, HRR2.out]
     exact ⟨A, rfl, ((HT1.out.ext (Ext.refl _)).mono (Nat.le_succ N)).mono (Nat.le_succ (N + 1)), Keep.of_ext (HX1.out.trans (Ext.refl _))⟩
   · have hrr := HRR.out
     rw [if_neg (fun h => h.elim hneg hbig)] at hrr
     have hpl := tree_place pt w1 (HE.out.ext HX1.out) HT1.out HG.out (by omega)
     cases hp : placeT T pt with
     | bad e =>
       rw [hp] at hpl hrr
       have hbad := place_bad hp
       have he0 : e ≠ 0 := by omega
       have HRR2 := Lib.hid hrr; clear hrr HRR hbad hp
       have HPL := Lib.hid hpl; clear hpl
       go_wp2_with (go_at_call 165; refine HPL.out.mono ?_; rintro E w2 ⟨rfl, hx⟩; have HX2 := Lib.hid hx; clear hx)
       rw [HR.out, HRR2.out]
       exact ⟨A, rfl, ((HT1.out.ext HX2.out).mono (Nat.le_succ N)).mono (Nat.le_succ (N + 1)), Keep.of_ext (HX1.out.trans HX2.out)⟩
     | «at» d x =>
       rw [hp] at hpl hrr
       simp only at hrr
       obtain ⟨hd, hdd, hx12⟩ := HG.out.place_mem hp
       have HRR2 := Lib.hid hrr; clear hrr HRR hp
       have HPL := Lib.hid hpl; clear hpl
       have HD := Lib.hid hd; clear hd
       have HDD := Lib.hid hdd; clear hdd
       have hkx := key_by (x := x) (by omega)
       go_upto_region 6 with (go_at_call 165; refine HPL.out.mono ?_; rintro E w2 ⟨rfl, hx⟩; have HX2 := Lib.hid hx; clear hx)
       have hb2 := HX2.out.heap HBX.out
       clear k0 k1
       have k0 := blk_cell hb2 0 (Value.int .i64 kd) rfl
       have k3 := blk_cell hb2 3 (Value.slice oa dt.length oc) rfl
       have HBX2 := Lib.hid hb2; clear hb2 HBX HPL
       have hT2 := HT1.out.ext HX2.out
       have HT2 := Lib.hid hT2; clear hT2
       have HX12 := Lib.hid (HX1.out.trans HX2.out)
       by_cases hlong : 3500 < dt.length
       · have hrr := HRR2.out
         rw [if_pos hlong] at hrr
         have HRR := Lib.hid hrr; clear hrr HRR2
         go_wp2_with fail
         rw [HR.out, HRR.out]
         exact ⟨A, rfl, ((HT1.out.ext HX2.out).mono (Nat.le_succ N)).mono (Nat.le_succ (N + 1)), Keep.of_ext (HX1.out.trans HX2.out)⟩
       · have hrr := HRR2.out
         rw [if_neg hlong] at hrr
         have c3 := blk_cell (HT2.out.node d HD.out).1 3 (Value.map (A d).kb) rfl
         have hlk := (HT2.out.node d HD.out).2.2.2.look (x := x) (by omega)
         rw [show ((T.node d).kids x).getD 0 = kidT T d x from rfl] at hlk
         have hkz := HG.out.kid_zero (x := x) HD.out
         have hkm := HG.out.kid_mem (x := x) HD.out
         obtain ⟨i, hi⟩ : ∃ i, i = kidT T d x := ⟨_, rfl⟩
         rw [← hi] at hrr hlk hkm hkz
         have HI := Lib.hid hi; clear hi
         have HKZ := Lib.hid hkz; clear hkz
         have HKM := Lib.hid hkm; clear hkm
         go_upto_region 9 with fail
         clear c3 hlk
         by_cases h02 : kd = 0 ∨ kd = 2
         · rw [if_pos h02] at hrr
           by_cases hi0 : i = 0
           · rw [if_neg (fun h => h hi0)] at hrr
             have HRR := Lib.hid hrr; clear hrr HRR2
             have hmk := @run_makeMap Tryz.prog
             rcases h02 with h0 | h2
             · go_upto_region 17 with (go_at_call 166; refine Hid.out ?_)
               refine Lib.hid ?_
               have hs2 : ((w2.alloc (.map #[] 0)).alloc (.cells #[.bool true, .int .i64 1, .slice none 0 0, .map (some w2.heap.size)] 199)).heap.size = w2.heap.size + 2 := by rw [World.size_alloc, World.size_alloc]
               have hx4 : Ext w2 ((w2.alloc (.map #[] 0)).alloc (.cells #[.bool true, .int .i64 1, .slice none 0 0, .map (some w2.heap.size)] 199)) := (Ext.alloc _ _).trans (Ext.alloc _ _)
               have hm4 := (MapF.made keyS w2 9).ext (Ext.alloc (w2.alloc (.map #[] 0)) (.cells #[.bool true, .int .i64 1, .slice none 0 0, .map (some w2.heap.size)] 199))
               have hb4 := heap_alloc_new (w2.alloc (.map #[] 0)) (.cells #[.bool true, .int .i64 1, .slice none 0 0, .map (some w2.heap.size)] 199)
               rw [World.size_alloc] at hb4
               generalize (w2.alloc (.map #[] 0)).alloc (.cells #[.bool true, .int .i64 1, .slice none 0 0, .map (some w2.heap.size)] 199) = w4 at hs2 hx4 hm4 hb4 ⊢
               have hT4 := HT2.out.ext hx4
               have hlt : ∀ j ∈ T.ids, (A j).blk < w2.heap.size := fun j hj => (Array.getElem?_eq_some_iff.1 (HT2.out.node j hj).1).1
               have hbw := HBS.out
               have hsz := HX12.out.size
               have hn4 : NodeM w4 N newN ⟨w2.heap.size + 1, none, 0, some w2.heap.size⟩ := ⟨hb4, Or.inl rfl, Nat.le_refl _, Or.inr ⟨_, rfl, hm4.mono (Nat.zero_le _)⟩⟩
               refine (tree_make newN ⟨w2.heap.size + 1, none, 0, some w2.heap.size⟩ d x w4 hT4 HG.out (by omega) hN HD.out HDD.out (by omega) hn4 (fun j hj e => by have := hlt j hj; have e : w2.heap.size + 1 = (A j).blk := e; omega) (fun j hj b e e2 => ?_) (fun e => ?_) (fun _ => ⟨_, rfl⟩) ⟨by show base ≤ w2.heap.size + 1; omega, fun b e => by have := Option.some.inj e; omega⟩).mono ?_
               · have := Option.some.inj e
                 obtain ⟨es, cl, hbk⟩ := (HT2.out.node j hj).2.2.2.block e2
                 have := (Array.getElem?_eq_some_iff.1 hbk).1
                 omega
               · have e := Option.some.inj e
                 have := HT2.out.map.lt
                 omega
               rintro E w5 ⟨rfl, hT5, hk5⟩
               have HT5 := Lib.hid hT5
               have HK5 := Lib.hid ((Keep.of_ext (S := fun j => j < base) (HX12.out.trans hx4)).trans hk5)
               clear hT5 hk5 hT4 hx4 hm4 hb4 hn4 hs2 hlt hbw hsz hmk
               go_wp2_with fail
               rw [HR.out, HRR.out, if_pos h0]
               exact ⟨_, rfl, HT5.out, HK5.out⟩
             · go_upto_region 17 with (first
                 | (go_at_call 114; refine (clone_y oa oc dt w2 (HB.out.ext HX12.out) (by omega)).mono ?_; rintro E w3 ⟨ca, cc, rfl, hcc, hdm, _, hx⟩; have HDM := Lib.hid hdm; have HX3 := Lib.hid hx; clear hdm hx)
                 | (go_at_call 166; refine Hid.out ?_))
               refine Lib.hid ?_
               have hx4 := Ext.alloc w3 (.cells #[.bool false, .int .i64 1, .slice ca dt.length cc, .map none] 199)
               have hb4 := heap_alloc_new w3 (.cells #[.bool false, .int .i64 1, .slice ca dt.length cc, .map none] 199)
               have hd4 := HDM.out.keep (Keep.of_ext (S := fun _ => True) hx4) (datas_all w3)
               have hs2 := World.size_alloc w3 (.cells #[.bool false, .int .i64 1, .slice ca dt.length cc, .map none] 199)
               generalize w3.alloc (.cells #[.bool false, .int .i64 1, .slice ca dt.length cc, .map none] 199) = w4 at hs2 hx4 hb4 hd4 ⊢
               have hT4 := HT2.out.ext (HX3.out.trans hx4)
               have hlt : ∀ j ∈ T.ids, (A j).blk < w2.heap.size := fun j hj => (Array.getElem?_eq_some_iff.1 (HT2.out.node j hj).1).1
               have hbw := HBS.out
               have hsz := HX12.out.size
               have hsz3 := HX3.out.size
               have hn4 : NodeM w4 N (fileN dt) ⟨w3.heap.size, ca, cc, none⟩ := ⟨hb4, hd4, hcc, Or.inl ⟨rfl, rfl⟩⟩
               refine (tree_make (fileN dt) ⟨w3.heap.size, ca, cc, none⟩ d x w4 hT4 HG.out (by omega) hN HD.out HDD.out (by omega) hn4 (fun j hj e => by have := hlt j hj; have e : w3.heap.size = (A j).blk := e; omega) (fun j hj b e e2 => by cases e) (fun e => by cases e) (fun e => by cases e) ⟨by show base ≤ w3.heap.size; omega, fun b e => by cases e⟩).mono ?_
               rintro E w5 ⟨rfl, hT5, hk5⟩
               have HT5 := Lib.hid hT5
               have HK5 := Lib.hid ((Keep.of_ext (S := fun j => j < base) (HX12.out.trans (HX3.out.trans hx4))).trans hk5)
               clear hT5 hk5 hT4 hx4 hb4 hd4 hn4 hs2 hlt hbw hsz hsz3 hmk
               go_wp2_with fail
               rw [HR.out, HRR.out, if_neg (by omega)]
               exact ⟨_, rfl, HT5.out, HK5.out⟩
           · rw [if_pos hi0] at hrr
             have HRR := Lib.hid hrr; clear hrr HRR2
             rcases h02 with h0 | h2
             · go_wp2_with fail
               rw [HR.out, HRR.out]
               exact ⟨A, rfl, ((HT1.out.ext HX2.out).mono (Nat.le_succ N)).mono (Nat.le_succ (N + 1)), Keep.of_ext (HX1.out.trans HX2.out)⟩
             · go_wp2_with fail
               rw [HR.out, HRR.out]
               exact ⟨A, rfl, ((HT1.out.ext HX2.out).mono (Nat.le_succ N)).mono (Nat.le_succ (N + 1)), Keep.of_ext (HX1.out.trans HX2.out)⟩
         · rw [if_neg h02] at hrr
           have hk0 : kd ≠ 0 := fun e => h02 (Or.inl e)
           have hk2 : kd ≠ 2 := fun e => h02 (Or.inr e)
           by_cases hi0 : i = 0
           · rw [if_pos hi0] at hrr
             have HRR := Lib.hid hrr; clear hrr HRR2
             go_wp2_with fail
             rw [HR.out, HRR.out]
             exact ⟨A, rfl, ((HT1.out.ext HX2.out).mono (Nat.le_succ N)).mono (Nat.le_succ (N + 1)), Keep.of_ext (HX1.out.trans HX2.out)⟩
           · rw [if_neg hi0] at hrr
             obtain ⟨him, hix, hi1⟩ := HKM.out hi0
             have hlow := HG.out.low i him
             have HIM := Lib.hid him; clear him
             have HIX := Lib.hid hix; clear hix
             have hlki := HT2.out.look HIM.out (by omega) (by omega)
             have c0 := blk_cell HT2.out.top 0 (Value.map (some mb)) rfl
             have ci := blk_cell (HT2.out.node i HIM.out).1 0 (Value.bool (T.node i).dir) rfl
             by_cases h1 : kd = 1
             · rw [if_pos h1] at hrr
               cases hid : (T.node i).dir with
               | false =>
                 rw [if_pos hid] at hrr
                 have HRR := Lib.hid hrr; clear hrr HRR2
                 rw [hid] at ci
                 go_wp2_with fail
                 rw [HR.out, HRR.out]
                 exact ⟨A, rfl, ((HT1.out.ext HX2.out).mono (Nat.le_succ N)).mono (Nat.le_succ (N + 1)), Keep.of_ext (HX1.out.trans HX2.out)⟩
               | true =>
                 rw [if_neg (by rw [hid]; simp)] at hrr
                 rw [hid] at ci
                 obtain ⟨kbi, hkbi, hmi, c3i⟩ := HT2.out.kidmap HIM.out hid
                 obtain ⟨m, hlen, hm0⟩ := hmi.len0 3 Tryz.underlying65
                 rw [kidsF_none] at hm0
                 have HM0 := Lib.hid hm0; clear hm0 hmi
                 by_cases hem : emptyK (T.node i).kids
                 · rw [if_pos hem] at hrr
                   have HRR := Lib.hid hrr; clear hrr HRR2
                   obtain rfl : m = 0 := HM0.out.2 hem
                   obtain ⟨kb, hkb, hmd, c3⟩ := HT2.out.kidmap HD.out HDD.out
                   have HKB := Lib.hid hkb; clear hkb hkbi
                   have HMD := Lib.hid hmd; clear hmd
                   have hki := key_int (i := i) (by omega) (by omega)
                   go_upto_region 31 with (at_delete; refine wpList_delete_F rfl _ _ 65 rfl 3 str_keyed Tryz.underlying65 kb N _ rfl HMD.out keyS_inj _ x rfl hkx ?_; intro w4 hm4 hk4; go_frame)
                   rw [kidsF_less] at hm4
                   have hT4 : TreeM w4 base tb mb N (cutT T d x) A := HT2.out.set_kids (i := d) HD.out HKB.out hk4 (Nat.le_refl _) hm4
                   have hkw : Keep (· < base) w w4 := (Keep.of_ext HX12.out).andThen hk4 (fun j _ (hj : j < base) => by have := (HT2.out.low.2.2 d HD.out).2 kb HKB.out; show j ≠ kb; omega)
                   clear hm4 hk4 c3 HMD c3i hlen hlki ci c0 k0 k3
                   have c0 := blk_cell hT4.top 0 (Value.map (some mb)) rfl
                   have HT4 := Lib.hid hT4; clear hT4
                   have HKW := Lib.hid hkw; clear hkw
                   go_wp2_with (at_delete; refine wpList_delete_F rfl _ _ 201 rfl 200 int_keyedA Tryz.underlying201 mb N _ rfl HT4.out.map keyI_inj _ i rfl hki ?_; intro w5 hm5 hk5; go_frame)
                   have hT5 := HT4.out.del i hk5 hm5
                   rw [HR.out, HRR.out]
                   exact ⟨A, rfl, (hT5.mono (Nat.le_succ N)).mono (Nat.le_succ (N + 1)), HKW.out.andThen hk5 (fun j _ (hj : j < base) => by have := HT4.out.low.2.1; show j ≠ mb; omega)⟩
                 · rw [if_neg hem] at hrr
                   have HRR := Lib.hid hrr; clear hrr HRR2
                   have hm1 : 0 < m := by
                    rcases Nat.eq_zero_or_pos m with h | h
                    · exact absurd (HM0.out.1 h) hem
                    · exact h
                   clear hkbi
                   go_wp2_with fail
                   rw [HR.out, HRR.out]
                   exact ⟨A, rfl, ((HT1.out.ext HX2.out).mono (Nat.le_succ N)).mono (Nat.le_succ (N + 1)), Keep.of_ext (HX1.out.trans HX2.out)⟩
             · rw [if_neg h1] at hrr
               cases hid : (T.node i).dir with
               | true =>
                 rw [if_pos hid] at hrr
                 have HRR := Lib.hid hrr; clear hrr HRR2
                 rw [hid] at ci
                 go_wp2_with fail
                 rw [HR.out, HRR.out]
                 exact ⟨A, rfl, ((HT1.out.ext HX2.out).mono (Nat.le_succ N)).mono (Nat.le_succ (N + 1)), Keep.of_ext (HX1.out.trans HX2.out)⟩
               | false =>
                 rw [if_neg (by rw [hid]; simp)] at hrr
                 have HRR := Lib.hid hrr; clear hrr HRR2
                 rw [hid] at ci
                 have k1 := blk_cell HBX2.out 1 (Value.string (bs pt)) rfl
                 have k2 := blk_cell HBX2.out 2 (Value.string (bs ds)) rfl
                 have hsz := HX12.out.size
                 have hbw := HBS.out
                 have hfl := tree_file kd pt ds dt oa oc d x i w2 HT2.out HG.out HF.out hL hN HD.out HDD.out (by omega) HIM.out hid (by omega) (HE.out.ext HX12.out) (HB.out.ext HX12.out) (by omega)
                 have HFL := Lib.hid hfl; clear hfl
                 go_wp2_with (go_at_call 167; refine HFL.out.mono ?_; rintro E w5 ⟨A5, rfl, hT5, hk5⟩; have HT5 := Lib.hid hT5; have HK5 := Lib.hid hk5; clear hT5 hk5)
                 rw [HR.out, HRR.out]
                 exact ⟨A5, rfl, HT5.out, (Keep.of_ext HX12.out).trans HK5.out⟩
end
end Go.Proofs.YtefpllpichhojaaGreatDoor
