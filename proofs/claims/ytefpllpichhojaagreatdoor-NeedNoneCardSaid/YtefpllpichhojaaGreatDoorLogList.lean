/- The log's List: copies of all records. -/
import Derived.Test.YtefpllpichhojaaGreatDoorLogNextS
namespace Go.Proofs.YtefpllpichhojaaGreatDoor
open Go.RowKit
variable [Low]
omit [Low] in
theorem RowsM.at {w : World} {base : Nat} {a : Option Addr} {c : Nat} {D : List (List UInt8)} (h : RowsM w base a c D) {k : Nat} (hk : k < D.length) :
 ∃ g p pc, a = some ⟨g, 0, none⟩ ∧ base ≤ g ∧ w.cell? ⟨g, k, none⟩ = some (.slice p (D.getD k []).length pc) ∧ DataM w p (D.getD k []) ∧ (D.getD k []).length ≤ pc := by
 obtain ⟨Z, hZ, hr, hz⟩ := h
 have hl : Z.length = D.length := by rw [← hZ, List.length_map]
 have hkZ : k < Z.length := by omega
 have e : D.getD k [] = Z[k].1 := by
  subst hZ
  simp [List.getD_eq_getElem?_getD, hkZ]
 have hzk := hz _ (List.getElem_mem hkZ)
 obtain ⟨_, h | ⟨g, c', cur, hv, hb, hg, _, _, _, ht⟩⟩ := hr
 · omega
 · cases hv
   refine ⟨g, Z[k].2.oa, Z[k].2.oc, rfl, hb, ?_, by rw [e]; exact hzk.1, by rw [e]; exact hzk.2⟩
   have hf := flat_atm (F := rowV) (m := 1) Z (fun _ _ => rfl) k 0 hkZ (by omega)
   rw [cell_of_row _ _ _ _ _ _ hg, ← Array.getElem?_toList, e]
   rw [← ht, List.getElem?_take] at hf
   rw [Nat.mul_one, Nat.add_zero] at hf
   split at hf
   · exact hf
   · cases hf
section
variable {w : World} {lb db kb n : Nat} {img : Img} {L : LogD}
set_option maxRecDepth 100000 in
set_option maxHeartbeats 12800000 in
theorem log_List (h : LogM w lb db kb n img L) (hn : L.list.length ≤ 1000000) (hl : ∀ b ∈ L.list, b.length ≤ 4096) :
 Calls Tryz.prog 110 #[.pointer (some ⟨lb, 0, none⟩)] w fun e w' => ∃ a c, e = .returned (.slice a L.list.length c) ∧ RowsM w' w.heap.size a c L.list ∧ Ext w w' := by
 obtain ⟨Q, hQ⟩ : ∃ Q : Ending → World → Prop, Q = fun e w' => ∃ a c, e = .returned (.slice a L.list.length c) ∧ RowsM w' w.heap.size a c L.list ∧ Ext w w' := ⟨_, rfl⟩
 rw [← hQ]
 have HQ := Lib.hid hQ; clear hQ
 obtain ⟨⟨la, lc, ht, hr⟩, _⟩ := h
 have d5 := blk_cell ht 5 (.slice la L.list.length lc) rfl
 clear ht
 have HR := Lib.hid hr; clear hr
 generalize hD : L.list = D at HR hn hl d5 HQ
 clear hD
 obtain ⟨m, hm⟩ : ∃ m, m = D.length := ⟨_, rfl⟩
 rw [← hm] at d5 hn HQ
 have HM := Lib.hid hm; have HL := Lib.hid hl; clear hm hl
 go_enter Tryz.func110, Tryz.ntmps110
 go_upto_region 3 with (fail)
 clear d5
 go_loopw [3, 11] (fun v i wr => ∃ (k : Nat) (a : Option Addr) (c : Nat), i = .int .i64 k ∧ v = .slice a k c ∧ k ≤ m ∧ Hid (RowsM wr w.heap.size a c (D.take k)) ∧ Hid (Ext w wr)) (fun _ i _ => m - (intOf i).toNat)
 case atStart => exact ⟨0, none, 0, rfl, rfl, Nat.zero_le _, Lib.hid (RowsM.nil _ _), Lib.hid (Ext.refl _)⟩
 case round =>
  obtain ⟨k, a, c, rfl, rfl, hk, HRM, HX⟩ := hrel
  by_cases hlt : k < m
  · have hkD : k < D.length := by have := HM.out; omega
    have hlk : (D.take k).length = k := List.length_take_of_le (by omega)
    obtain ⟨g, p, pc, hla, _, hce, hdt, hpc⟩ := (HR.out.ext HX.out).at hkD
    subst hla
    have hll : (D.getD k []).length ≤ 4096 := HL.out _ (by
     have e : D.getD k [] = D[k] := by simp [List.getD_eq_getElem?_getD, List.getElem?_eq_getElem hkD]
     rw [e]; exact List.getElem_mem hkD)
    have htk := take_getD hkD
    generalize D.getD k [] = b at hce hdt hpc hll htk
    obtain ⟨Z, hZ, hro, hzd⟩ := HRM.out
    rw [hlk] at hro
    have HZ := Lib.hid hZ; have HRO := Lib.hid hro; have HZD := Lib.hid hzd; have HTK := Lib.hid htk; have HDT := Lib.hid hdt; have HLK := Lib.hid hlk
    clear hZ hro hzd htk hdt hlk HRM
    have HDB := Lib.hid HDT.out.bytes.run
    generalize hbn : b.length = bn at hce hpc hll
    have HBN := Lib.hid hbn; clear hbn
    go_wp2_with (first | (at_builtin; refine wpList_append_any rfl _ _ 50 5 (.int .u8 0) 1 1 rfl Tryz.underlying50 info_byte1 rfl (by decide) wr.heap.size none 0 0 [] rfl (World.ownsRow_nil _ _ _ _) p bn pc (byteV b) rfl (by rw [byteV_len, HBN.out, Nat.mul_one]) HDB.out (byteV_one b) (by omega) (by decide) (Nat.le_refl _) bn (by omega) ?_; intro a6 c6 w5 hown hkp hbl; have HO6 := Lib.hid hown; have HK6 := Lib.hid hkp; clear hown hkp hbl HDB) | (at_builtin; refine wpList_append_any rfl _ _ 194 50 (.slice none 0 0) 1 24 rfl Tryz.underlying194 info_row rfl (by decide) w.heap.size a k c (Z.flatMap rowV) rfl (ownsRow_keep (ownsRow_keep HRO.out (HK6.out.mono (T := fun _ => True) (fun _ _ _ => by simp [Value.ownBlock])) (fun _ _ _ _ _ => trivial)) (Keep.of_ext (S := fun _ => True) (Ext.alloc w5 _)) (fun _ _ _ _ _ => trivial)) (some ⟨w5.heap.size, 0, none⟩) 1 1 [.slice a6 bn c6] rfl rfl (run_blk (heap_alloc_new w5 _)) (by intro u hu; rw [List.mem_singleton.1 hu]; rfl) (by omega) (by decide) (by have h1 := HX.out.size; have h2 := HK6.out.size; rw [World.size_alloc]; omega) (k + 1) (by omega) ?_; intro a8 c8 w9 hown hkp hbl; have HO8 := Lib.hid hown; have HK8 := Lib.hid hkp; have HBL8 := Lib.hid hbl; clear hown hkp hbl))
    have hx5 : Ext wr w5 := (HK6.out.mono (T := fun _ => True) (fun _ _ _ => by simp [Value.ownBlock])).ext
    have hxa := hx5.trans (Ext.alloc w5 (.cells #[.slice a6 bn c6] 50))
    obtain ⟨a6x, c6x, hve, h6c, h6d, _⟩ := DataM.of_row (l := b) (by simpa using HO6.out)
    cases hve
    have h6a := h6d.keep (Keep.of_ext (S := fun _ => True) (Ext.alloc w5 (.cells #[.slice a6 bn c6] 50))) (datas_all _)
    have hra := rows_app (c := c) (c' := c8) (D := D.take k) (l := b) (o := ⟨a6, c6⟩) HZ.out (by rw [HLK.out]; exact ownsRow_keep HRO.out (Keep.of_ext (S := fun _ => True) hxa) (fun _ _ _ _ _ => trivial)) (fun z hz => ⟨(HZD.out z hz).1.keep (Keep.of_ext (S := fun _ => True) hxa) (datas_all _), (HZD.out z hz).2⟩) h6a (by rw [HBN.out]; exact h6c) (by rw [HLK.out, HBN.out]; exact HO8.out) (by rw [HLK.out]; exact HK8.out)
    rw [← HTK.out] at hra
    have HRA := Lib.hid hra
    have HXN := Lib.hid (ext_below rfl (HX.out.trans hxa) (Ext.refl _) HBL8.out)
    go_roundw
    case rel => exact ⟨k + 1, a8, c8, by go_num, rfl, by omega, HRA, HXN⟩
    case measure => simp [intOf]; omega
  · have hkm : k = m := by omega
    subst hkm
    have hra := HRM.out
    rw [HM.out, List.take_length] at hra
    go_wp2_with fail
    rw [HQ.out]
    exact ⟨a, c, rfl, hra, HX.out⟩
end
end Go.Proofs.YtefpllpichhojaaGreatDoor
