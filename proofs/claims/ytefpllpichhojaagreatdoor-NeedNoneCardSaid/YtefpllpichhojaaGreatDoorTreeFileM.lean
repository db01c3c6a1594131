/- tree.file: a name more, or another one. -/
import Derived.Test.YtefpllpichhojaaGreatDoorM4
namespace Go.Proofs.YtefpllpichhojaaGreatDoor
open Go.RowKit
section
variable {base tb mb N L : Nat} {T : TreeD} {A : Int → NodeA}
theorem place_bad {p : By} {e : Int} (h : placeT T p = .bad e) : e = 14 ∨ e = 8 ∨ e = 11 := by
 unfold placeT at h
 split at h
 · cases h; exact Or.inl rfl
 · split at h
   · cases h; exact Or.inr (Or.inl rfl)
   · split at h
     · cases h
     · cases h; exact Or.inr (Or.inr rfl)
theorem TreeM.kidmap {w : World} (h : TreeM w base tb mb N T A) {d : Int} (hd : d ∈ T.ids) (hdd : (T.node d).dir = true) : ∃ b, (A d).kb = some b ∧ MapF keyS w 9 b N (kidsF (T.node d).kids) ∧ w.cell? ⟨(A d).blk, 3, none⟩ = some (.map (some b)) := by
 obtain ⟨b, hb⟩ := h.kbd d hd hdd
 refine ⟨b, hb, ?_, by rw [← hb]; exact blk_cell (h.node d hd).1 3 _ rfl⟩
 rcases (h.node d hd).2.2.2 with ⟨e, _⟩ | ⟨b', e, hm⟩
 · rw [hb] at e; cases e
 · rw [hb] at e; cases e; exact hm
set_option maxRecDepth 100000 in
set_option maxHeartbeats 6400000 in
theorem file_move (kd : Int) (pt ds dt : By) (oa : Option Addr) (oc : Nat) (d : Int) (x : By) (i : Int) (w : World) (hT : TreeM w base tb mb N T A) (hg : GoodT T) (hf : FitT T L) (hL : L ≤ 1000000000) (hN : N ≤ 1000000000) (hd : d ∈ T.ids) (hdd : (T.node d).dir = true) (hx : x.length ≤ 100000) (hi : i ∈ T.ids) (hid : (T.node i).dir = false) (hbs : base ≤ w.heap.size) (hE : Env w) (hk : kd ≠ 3 ∧ kd ≠ 6) :
 Calls Tryz.prog 167 #[.pointer (some ⟨tb, 0, none⟩), .agg #[.int .i64 kd, .string (bs pt), .string (bs ds), .slice oa dt.length oc], .pointer (some ⟨(A d).blk, 0, none⟩), .string (bs x), .int .i64 i] w (StepR base tb mb N (fileT T ⟨kd, pt, ds, dt⟩ d x i) w) := by
 obtain ⟨R, hR⟩ : ∃ R, R = StepR base tb mb N (fileT T ⟨kd, pt, ds, dt⟩ d x i) w := ⟨_, rfl⟩
 rw [← hR]
 have HR := Lib.hid hR; clear hR
 have HE := Lib.hid hE; clear hE
 have hT0 := hT
 have hlow := hg.low i hi
 have hnx := hf.next
 have hlk0 := hf.links i hi
 have HT := Lib.hid hT; clear hT
 have HG := Lib.hid hg; clear hg
 have HF := Lib.hid hf; clear hf
 have HD := Lib.hid hd; clear hd
 have HDD := Lib.hid hdd; clear hdd
 have HI := Lib.hid hi; clear hi
 have HID := Lib.hid hid; clear hid
 have hkx := key_by hx
 have hki := key_int (i := i) (by omega) (by omega)
 obtain ⟨w1, hw1⟩ : ∃ z, z = w.alloc (.cells #[.int .i64 kd, .string (bs pt), .string (bs ds), .slice oa dt.length oc] 52) := ⟨_, rfl⟩
 have hx1 : Ext w w1 := by rw [hw1]; exact Ext.alloc _ _
 have hbx : w1.heap[w.heap.size]? = some (.cells #[.int .i64 kd, .string (bs pt), .string (bs ds), .slice oa dt.length oc] 52 (0, 0)) := by rw [hw1]; exact heap_alloc_new w _
 have k0 := blk_cell hbx 0 _ rfl
 have hT1 := HT.out.ext hx1
 have c0 := blk_cell hT1.top 0 (Value.map (some mb)) rfl
 have hlk := hT1.look HI.out (by omega) (by omega)
 have HX1 := Lib.hid hx1; clear hx1
 have HT1 := Lib.hid hT1; clear hT1 hT0
 have HBX := Lib.hid hbx; clear hbx
 have HKD := Lib.hid hk; clear hk
 go_enter Tryz.func167, Tryz.ntmps167
 go_upto_region 1 with fail
 rw [← hw1]
 clear hw1
 have HBS := Lib.hid hbs
 obtain ⟨BX, hBXe⟩ : ∃ z, z = w.heap.size := ⟨_, rfl⟩
 have hBX2 := HBX.out
 rw [← hBXe] at hBX2 hbs k0 ⊢
 have HBX2 := Lib.hid hBX2; clear hBX2 HBX hBXe
 have hk := HKD.out
 obtain ⟨hk3, hk6⟩ := hk
 have k2 := blk_cell HBX2.out 2 (Value.string (bs ds)) rfl
 have hpl := tree_place ds w1 (HE.out.ext HX1.out) HT1.out HG.out (by omega)
 cases hp : placeT T ds with
 | bad e =>
   rw [hp] at hpl
   have hbad := place_bad hp
   have he0 : e ≠ 0 := by omega
   have hres : fileT T ⟨kd, pt, ds, dt⟩ d x i = (T, e) := by
    unfold fileT
    simp only [hp]
    rw [if_neg hk3, if_neg hk6]
   have HRES := Lib.hid hres; clear hres hbad hp
   have HPL := Lib.hid hpl; clear hpl
   go_wp2_with (go_at_call 165; refine HPL.out.mono ?_; rintro E w2 ⟨rfl, hx⟩; have HX2 := Lib.hid hx; clear hx)
   rw [HR.out, HRES.out]
   exact ⟨A, rfl, ((HT1.out.ext HX2.out).mono (Nat.le_succ N)).mono (Nat.le_succ (N + 1)), Keep.of_ext (HX1.out.trans HX2.out)⟩
 | «at» d2 y =>
   rw [hp] at hpl
   obtain ⟨hd2, hdd2, hy12⟩ := HG.out.place_mem hp
   obtain ⟨ff, hff⟩ : ∃ ff, ff = fileT T ⟨kd, pt, ds, dt⟩ d x i := ⟨_, rfl⟩
   rw [← hff] at HR
   unfold fileT at hff
   simp only [hp] at hff
   rw [if_neg hk3, if_neg hk6] at hff
   clear hp
   have hky := key_by (x := y) (by omega)
   have HPL := Lib.hid hpl; clear hpl
   have HD2 := Lib.hid hd2; clear hd2
   have HDD2 := Lib.hid hdd2; clear hdd2
   have hjm := HG.out.kid_mem (x := y) HD2.out
   obtain ⟨j, hj⟩ : ∃ j, j = kidT T d2 y := ⟨_, rfl⟩
   rw [← hj] at hff hjm
   have HFF := Lib.hid hff; clear hff
   have HJ := Lib.hid hj; clear hj
   have hlj : j ≠ 0 → 1 ≤ j ∧ j < T.next := fun h => HG.out.low j (hjm h).1
   have hjlk : j ≠ 0 → -(L : Int) ≤ (T.node j).links ∧ (T.node j).links ≤ L := fun h => HF.out.links j (hjm h).1
   have HJM := Lib.hid hjm; clear hjm
   have HLJ := Lib.hid hlj; clear hlj
   have HJL := Lib.hid hjlk; clear hjlk
   go_upto_region 17 with (go_at_call 165; refine HPL.out.mono ?_; rintro E w2 ⟨rfl, hx⟩; have c3 := blk_cell ((HT1.out.ext hx).node d2 HD2.out).1 3 (Value.map (A d2).kb) rfl; have hlk2 := ((HT1.out.ext hx).node d2 HD2.out).2.2.2.look (x := y) (by omega); rw [show ((T.node d2).kids y).getD 0 = kidT T d2 y from rfl, ← HJ.out] at hlk2; have HX2 := Lib.hid hx; clear hx)
   clear c3 hlk2
   have k0 := HX2.out.cell k0
   have hT2 := HT1.out.ext HX2.out
   have c0 := blk_cell hT2.top 0 (Value.map (some mb)) rfl
   have HT2 := Lib.hid hT2; clear hT2
   have HX12 := Lib.hid (HX1.out.trans HX2.out)
   clear k2 hlk HBX2
   have hff := HFF.out
   by_cases h4 : kd = 4
   · by_cases hj0 : j = 0
     · rw [if_neg (fun h => h.2 hj0), if_neg (fun h => h.1 hj0), if_neg (by omega), if_pos h4] at hff
       have HFF2 := Lib.hid hff; clear hff HFF
       have c1 := blk_cell (HT2.out.node i HI.out).1 1 (Value.int .i64 (T.node i).links) rfl
       have f1 := blk_free (HT2.out.node i HI.out).1 1
       have hT3 := HT2.out.set_links HI.out ((T.node i).links + 1)
       have hkw : Keep (· < base) w (w2.setCell ⟨(A i).blk, 1, none⟩ (.int .i64 ((T.node i).links + 1))) := (Keep.of_ext (S := fun j => j < base) HX12.out).setCell (fun j (hj : j < base) => by have := (HT2.out.low.2.2 i HI.out).1; omega) 1 _
       have HHH := Lib.hid (And.intro hT3 hkw); clear hT3 hkw
       go_upto_region 25 with fail
       generalize w2.setCell ⟨(A i).blk, 1, none⟩ (.int .i64 ((T.node i).links + 1)) = w3 at HHH ⊢
       clear c1 f1 c0 k0 HT2
       have HTC : Hid (TreeM w3 base tb mb N (linkT T i 1) A) := Lib.hid HHH.out.1
       have HKW := Lib.hid HHH.out.2
       clear HHH
       obtain ⟨kb2, hkb2, hmm, c3⟩ := HTC.out.kidmap (d := d2) HD2.out (by rw [linkT_dir]; exact HDD2.out)
       have HKB2 := Lib.hid hkb2; clear hkb2
       have HMM := Lib.hid hmm; clear hmm
       go_wp2_with (at_mapUpdate; refine wpList_store_F rfl _ _ _ 65 rfl 3 str_keyed Tryz.underlying65 kb2 N _ rfl HMM.out (by unfold maxLen; omega) keyS_inj _ (.int .i64 i) y rfl rfl hky ?_; intro w9 hm9 hk9; go_frame)
       rw [kidsF_with] at hm9
       have hT9 := (HTC.out.mono (Nat.le_succ N)).set_kids (i := d2) HD2.out HKB2.out hk9 (Nat.le_refl _) hm9
       rw [HR.out, HFF2.out]
       exact ⟨A, rfl, hT9.mono (Nat.le_succ (N + 1)), HKW.out.andThen hk9 (fun j _ (hj : j < base) => by have := (HTC.out.low.2.2 d2 HD2.out).2 kb2 HKB2.out; show j ≠ kb2; omega)⟩
     · rw [if_pos ⟨h4, hj0⟩] at hff
       have HFF2 := Lib.hid hff; clear hff HFF
       go_wp2_with fail
       rw [HR.out, HFF2.out]
       exact ⟨A, rfl, (HT2.out.mono (Nat.le_succ N)).mono (Nat.le_succ (N + 1)), Keep.of_ext HX12.out⟩
   · rw [if_neg (fun h => h4 h.1)] at hff
     by_cases hj0 : j = 0
     · rw [if_neg (fun h => h.1 hj0), if_neg (by omega), if_neg h4, if_neg (fun h => h hj0)] at hff
       have HFF2 := Lib.hid hff; clear hff HFF
       have HTB := HT2
       have HKW := Lib.hid (Keep.of_ext (S := fun j => j < base) HX12.out)
       go_upto_region 16 with fail
       clear c0 k0 HT2
       obtain ⟨kb, hkb, hmd, c3⟩ := HTB.out.kidmap (d := d) HD.out (by exact HDD.out)
       have HKB := Lib.hid hkb; clear hkb
       have HMD := Lib.hid hmd; clear hmd
       go_upto_region 25 with (at_delete; refine wpList_delete_F rfl _ _ 65 rfl 3 str_keyed Tryz.underlying65 kb N _ rfl HMD.out keyS_inj _ x rfl hkx ?_; intro w4 hm4 hk4; go_frame)
       rw [kidsF_less] at hm4
       have hT4 : TreeM w4 base tb mb N (cutT T d x) A := HTB.out.set_kids (i := d) HD.out HKB.out hk4 (Nat.le_refl _) hm4
       have hkw := HKW.out.andThen hk4 (fun j _ (hj : j < base) => by have := (HTB.out.low.2.2 d HD.out).2 kb HKB.out; show j ≠ kb; omega)
       clear HKW HTB HMD hm4 hk4 c3
       have HTC := Lib.hid hT4; clear hT4
       have HKW := Lib.hid hkw; clear hkw
       obtain ⟨kb2, hkb2, hmm, c3⟩ := HTC.out.kidmap (d := d2) HD2.out (by rw [cutT_dir]; exact HDD2.out)
       have HKB2 := Lib.hid hkb2; clear hkb2
       have HMM := Lib.hid hmm; clear hmm
       go_wp2_with (at_mapUpdate; refine wpList_store_F rfl _ _ _ 65 rfl 3 str_keyed Tryz.underlying65 kb2 N _ rfl HMM.out (by unfold maxLen; omega) keyS_inj _ (.int .i64 i) y rfl rfl hky ?_; intro w9 hm9 hk9; go_frame)
       rw [kidsF_with] at hm9
       have hT9 := (HTC.out.mono (Nat.le_succ N)).set_kids (i := d2) HD2.out HKB2.out hk9 (Nat.le_refl _) hm9
       rw [HR.out, HFF2.out]
       exact ⟨A, rfl, hT9.mono (Nat.le_succ (N + 1)), HKW.out.andThen hk9 (fun j _ (hj : j < base) => by have := (HTC.out.low.2.2 d2 HD2.out).2 kb2 HKB2.out; show j ≠ kb2; omega)⟩
     · obtain ⟨hjm, _, _⟩ := HJM.out hj0
       have hlj := HLJ.out hj0
       have hlkj := HT2.out.look hjm (by omega) (by omega)
       cases hjd : (T.node j).dir with
       | true =>
         rw [if_pos ⟨hj0, hjd⟩] at hff
         have HFF2 := Lib.hid hff; clear hff HFF
         have cj := blk_cell (HT2.out.node j hjm).1 0 (Value.bool (T.node j).dir) rfl
         rw [hjd] at cj
         go_wp2_with fail
         rw [HR.out, HFF2.out]
         exact ⟨A, rfl, (HT2.out.mono (Nat.le_succ N)).mono (Nat.le_succ (N + 1)), Keep.of_ext HX12.out⟩
       | false =>
         rw [if_neg (fun h => by rw [hjd] at h; cases h.2)] at hff
         have cj := blk_cell (HT2.out.node j hjm).1 0 (Value.bool (T.node j).dir) rfl
         rw [hjd] at cj
         by_cases hji : j = i
         · rw [if_pos hji] at hff
           have HFF2 := Lib.hid hff; clear hff HFF
           subst hji
           go_wp2_with fail
           rw [HR.out, HFF2.out]
           exact ⟨A, rfl, (HT2.out.mono (Nat.le_succ N)).mono (Nat.le_succ (N + 1)), Keep.of_ext HX12.out⟩
         · rw [if_neg hji, if_neg h4, if_pos hj0] at hff
           have HFF2 := Lib.hid hff; clear hff HFF
           have c1 := blk_cell (HT2.out.node j hjm).1 1 (Value.int .i64 (T.node j).links) rfl
           have f1 := blk_free (HT2.out.node j hjm).1 1
           have hjl := HJL.out hj0
           have hT3 := HT2.out.set_links hjm ((T.node j).links - 1)
           have hkw : Keep (· < base) w (w2.setCell ⟨(A j).blk, 1, none⟩ (.int .i64 ((T.node j).links - 1))) := (Keep.of_ext (S := fun j => j < base) HX12.out).setCell (fun k (hk : k < base) => by have := (HT2.out.low.2.2 j hjm).1; omega) 1 _
           have HHH := Lib.hid (And.intro hT3 hkw); clear hT3 hkw
           go_upto_region 16 with fail
           generalize w2.setCell ⟨(A j).blk, 1, none⟩ (.int .i64 ((T.node j).links - 1)) = w3 at HHH ⊢
           clear c1 f1 c0 k0 HT2 cj hlkj
           have HTB : Hid (TreeM w3 base tb mb N (linkT T j (-1)) A) := Lib.hid (by
            unfold linkT
            rw [show (T.node j).links + -1 = (T.node j).links - 1 by omega]
            exact HHH.out.1)
           have HKW := Lib.hid HHH.out.2
           clear HHH
           obtain ⟨kb, hkb, hmd, c3⟩ := HTB.out.kidmap (d := d) HD.out (by rw [linkT_dir]; exact HDD.out)
           have HKB := Lib.hid hkb; clear hkb
           have HMD := Lib.hid hmd; clear hmd
           go_upto_region 25 with (at_delete; refine wpList_delete_F rfl _ _ 65 rfl 3 str_keyed Tryz.underlying65 kb N _ rfl HMD.out keyS_inj _ x rfl hkx ?_; intro w4 hm4 hk4; go_frame)
           rw [kidsF_less] at hm4
           have hT4 : TreeM w4 base tb mb N (cutT (linkT T j (-1)) d x) A := HTB.out.set_kids (i := d) HD.out HKB.out hk4 (Nat.le_refl _) hm4
           have hkw := HKW.out.andThen hk4 (fun j _ (hj : j < base) => by have := (HTB.out.low.2.2 d HD.out).2 kb HKB.out; show j ≠ kb; omega)
           clear HKW HTB HMD hm4 hk4 c3
           have HTC := Lib.hid hT4; clear hT4
           have HKW := Lib.hid hkw; clear hkw
           obtain ⟨kb2, hkb2, hmm, c3⟩ := HTC.out.kidmap (d := d2) HD2.out (by rw [cutT_dir, linkT_dir]; exact HDD2.out)
           have HKB2 := Lib.hid hkb2; clear hkb2
           have HMM := Lib.hid hmm; clear hmm
           go_wp2_with (at_mapUpdate; refine wpList_store_F rfl _ _ _ 65 rfl 3 str_keyed Tryz.underlying65 kb2 N _ rfl HMM.out (by unfold maxLen; omega) keyS_inj _ (.int .i64 i) y rfl rfl hky ?_; intro w9 hm9 hk9; go_frame)
           rw [kidsF_with] at hm9
           have hT9 := (HTC.out.mono (Nat.le_succ N)).set_kids (i := d2) HD2.out HKB2.out hk9 (Nat.le_refl _) hm9
           rw [HR.out, HFF2.out]
           exact ⟨A, rfl, hT9.mono (Nat.le_succ (N + 1)), HKW.out.andThen hk9 (fun j _ (hj : j < base) => by have := (HTC.out.low.2.2 d2 HD2.out).2 kb2 HKB2.out; show j ≠ kb2; omega)⟩
end
end Go.Proofs.YtefpllpichhojaaGreatDoor
