/- Several texts of mine, one behind the other: SecEq, LogGood. -/
import Derived.Test.YtefpllpichhojaaGreatDoorDiskW
import Derived.KernelRfl
import Derived.Test.YtefpllpichhojaaGreatDoorLogRew
namespace Go.Proofs.YtefpllpichhojaaGreatDoor
open Go.RowKit
variable [Low]
omit [Low] in
theorem eq_zeroS (w : World) : (Op.equalIn 10000 234 (.agg (byteV zeroS).toArray) (.agg (byteV zeroS).toArray)).run Tryz.prog w = .ok true w := by kernel_rfl
omit [Low] in
theorem eq_markS (V : List Value) (w : World) : (Op.equalIn 10000 234 (.agg (Value.int .u8 1 :: V).toArray) (.agg (byteV zeroS).toArray)).run Tryz.prog w = .ok false w := by kernel_rfl
end Go.Proofs.YtefpllpichhojaaGreatDoor
namespace Go.Proofs.YtefpllpichhojaaGreatDoor
open Go.RowKit
variable [Low]
omit [Low] in
theorem bytes_mid {w : World} {g o : Nat} {s l : List UInt8} {t : TypeId} {fr : Nat × Nat} (hg : w.heap[g]? = some (.cells (byteV s).toArray t fr)) (h : (s.drop o).take l.length = l) : Bytes w (some ⟨g, o, none⟩) l := by
 refine Or.inr ⟨g, o, rfl, (Array.getElem?_eq_some_iff.1 hg).1, fun i hi => ?_⟩
 rw [cell_of_row _ _ _ _ _ _ hg]
 have := byteV_at hi
 rw [← h] at this
 simp only [byteV, List.getElem?_map, List.getElem?_take_of_lt hi, List.getElem?_drop] at this
 simpa [byteV, h] using this
omit [Low] in
theorem eq_zeroL (w : World) : (Op.equalIn 10000 234 (.agg (byteV zeroS).toArray) (.agg #[.int .u8 0, .int .u8 0, .int .u8 0, .int .u8 0, .int .u8 0, .int .u8 0, .int .u8 0, .int .u8 0, .int .u8 0, .int .u8 0, .int .u8 0, .int .u8 0, .int .u8 0, .int .u8 0, .int .u8 0, .int .u8 0, .int .u8 0, .int .u8 0, .int .u8 0, .int .u8 0, .int .u8 0, .int .u8 0, .int .u8 0, .int .u8 0, .int .u8 0, .int .u8 0, .int .u8 0, .int .u8 0, .int .u8 0, .int .u8 0, .int .u8 0, .int .u8 0, .int .u8 0, .int .u8 0, .int .u8 0, .int .u8 0, .int .u8 0, .int .u8 0, .int .u8 0, .int .u8 0, .int .u8 0, .int .u8 0, .int .u8 0, .int .u8 0, .int .u8 0, .int .u8 0, .int .u8 0, .int .u8 0, .int .u8 0, .int .u8 0, .int .u8 0, .int .u8 0, .int .u8 0, .int .u8 0, .int .u8 0, .int .u8 0, .int .u8 0, .int .u8 0, .int .u8 0, .int .u8 0, .int .u8 0, .int .u8 0, .int .u8 0, .int .u8 0])).run Tryz.prog w = .ok true w := eq_zeroS w
omit [Low] in
theorem eq_markL (V : List Value) (w : World) : (Op.equalIn 10000 234 (.agg (Value.int .u8 1 :: V).toArray) (.agg #[.int .u8 0, .int .u8 0, .int .u8 0, .int .u8 0, .int .u8 0, .int .u8 0, .int .u8 0, .int .u8 0, .int .u8 0, .int .u8 0, .int .u8 0, .int .u8 0, .int .u8 0, .int .u8 0, .int .u8 0, .int .u8 0, .int .u8 0, .int .u8 0, .int .u8 0, .int .u8 0, .int .u8 0, .int .u8 0, .int .u8 0, .int .u8 0, .int .u8 0, .int .u8 0, .int .u8 0, .int .u8 0, .int .u8 0, .int .u8 0, .int .u8 0, .int .u8 0, .int .u8 0, .int .u8 0, .int .u8 0, .int .u8 0, .int .u8 0, .int .u8 0, .int .u8 0, .int .u8 0, .int .u8 0, .int .u8 0, .int .u8 0, .int .u8 0, .int .u8 0, .int .u8 0, .int .u8 0, .int .u8 0, .int .u8 0, .int .u8 0, .int .u8 0, .int .u8 0, .int .u8 0, .int .u8 0, .int .u8 0, .int .u8 0, .int .u8 0, .int .u8 0, .int .u8 0, .int .u8 0, .int .u8 0, .int .u8 0, .int .u8 0, .int .u8 0])).run Tryz.prog w = .ok false w := eq_markS V w
section
variable {w : World} {lb : Nat}
omit [Low] in
set_option maxRecDepth 100000 in
set_option maxHeartbeats 3200000 in
theorem log_good0 : Calls Tryz.prog 150 #[.pointer (some ⟨lb, 0, none⟩), .agg (byteV zeroS).toArray] w fun e w' => e = .returned (.tuple #[.int .i64 0, .bool false]) ∧ Ext w w' := by
 have hvl : (byteV zeroS).length = 64 := by rw [byteV_len]; exact zeroS_len
 have heq := eq_zeroL
 generalize byteV zeroS = V at hvl heq
 have HVL := Lib.hid hvl; clear hvl
 go_enter Tryz.func150, Tryz.ntmps150
 go_upto_region 1 with (fail)
 have hx := Ext.alloc w (.cells V.toArray 234)
 have hb := heap_alloc_new w (.cells V.toArray 234)
 obtain ⟨B, hB⟩ : ∃ B, B = w.heap.size := ⟨_, rfl⟩
 rw [← hB] at hb ⊢
 clear hB
 generalize w.alloc (.cells V.toArray 234) = w1 at hx hb ⊢
 have HX := Lib.hid hx; have HB := Lib.hid hb; clear hx hb
 have hr : w1.rangeAt B 0 V := fun j v hv => by rw [Nat.zero_add, cell_of_row _ _ _ _ _ _ HB.out]; simpa using hv
 have HRG := Lib.hid hr; clear hr
 go_wp2_with (refine wpList_load_mid rfl _ _ rfl _ _ rfl V _ HRG.out Tryz.underlying234 rfl (by rw [HVL.out]; exact size_sector) ?_)
 all_goals (try go_ret2)
 all_goals exact ⟨rfl, HX.out⟩
omit [Low] in
set_option maxRecDepth 100000 in
set_option maxHeartbeats 6400000 in
theorem log_good1 (ep : Nat) (hep : ep ≤ 2147483648) : Calls Tryz.prog 150 #[.pointer (some ⟨lb, 0, none⟩), .agg (byteV (hdrS ep)).toArray] w fun e w' => e = .returned (.tuple #[.int .i64 (ep : Nat), .bool true]) ∧ Ext w w' := by
 have hvl : (byteV (hdrS ep)).length = 64 := by rw [byteV_len]; exact hdrS_len ep
 obtain ⟨sm, hsm⟩ : ∃ sm, sm = (crcL (hdrB ep)).toNat := ⟨_, rfl⟩
 have hq : sm < 4294967296 := by rw [hsm]; exact (crcL _).isLt
 have h8 : (((hdrS ep).drop 1).take (num4 ep ++ num4 sm).length) = num4 ep ++ num4 sm := by
  have l : (num4 ep ++ num4 sm).length = 8 := by simp [num4_len]
  rw [l, hsm]; rfl
 have h5 : (((hdrS ep).drop 0).take (hdrB ep).length) = hdrB ep := by
  have l : (hdrB ep).length = 5 := by simp [hdrB, num4_len]
  rw [l]; rfl
 have hVc : byteV (hdrS ep) = Value.int .u8 1 :: (byteV (hdrS ep)).tail := rfl
 have heq : ∀ w, (Op.equalIn 10000 234 (.agg (byteV (hdrS ep)).toArray) (.agg #[.int .u8 0, .int .u8 0, .int .u8 0, .int .u8 0, .int .u8 0, .int .u8 0, .int .u8 0, .int .u8 0, .int .u8 0, .int .u8 0, .int .u8 0, .int .u8 0, .int .u8 0, .int .u8 0, .int .u8 0, .int .u8 0, .int .u8 0, .int .u8 0, .int .u8 0, .int .u8 0, .int .u8 0, .int .u8 0, .int .u8 0, .int .u8 0, .int .u8 0, .int .u8 0, .int .u8 0, .int .u8 0, .int .u8 0, .int .u8 0, .int .u8 0, .int .u8 0, .int .u8 0, .int .u8 0, .int .u8 0, .int .u8 0, .int .u8 0, .int .u8 0, .int .u8 0, .int .u8 0, .int .u8 0, .int .u8 0, .int .u8 0, .int .u8 0, .int .u8 0, .int .u8 0, .int .u8 0, .int .u8 0, .int .u8 0, .int .u8 0, .int .u8 0, .int .u8 0, .int .u8 0, .int .u8 0, .int .u8 0, .int .u8 0, .int .u8 0, .int .u8 0, .int .u8 0, .int .u8 0, .int .u8 0, .int .u8 0, .int .u8 0, .int .u8 0])).run Tryz.prog w = .ok false w := by
  rw [hVc]; exact fun w => eq_markL _ w
 have hbm := fun W (hg : W.heap[(w.heap.size)]? = some (.cells (byteV (hdrS ep)).toArray 234 (0, 0))) => bytes_mid (w := W) (o := 1) hg h8
 have hbm5 := fun W (hg : W.heap[(w.heap.size)]? = some (.cells (byteV (hdrS ep)).toArray 234 (0, 0))) => bytes_mid (w := W) (o := 0) hg h5
 have hz0 : (byteV (hdrS ep))[0]? = some (.int .u8 1) := rfl
 have hcr := fun W a c (hp : Parts W a [hdrB ep]) => crc_ofs a c [hdrB ep] W hp (by intro l hl; rw [List.mem_singleton.1 hl]; simp [hdrB, num4_len]) (by simp)
 have hfl1 : [hdrB ep].flatten = hdrB ep := by simp
 rw [hfl1, ← hsm] at hcr
 have hl5 : (hdrB ep).length = 5 := by simp [hdrB, num4_len]
 have hrn1 := rNum_back (most := 2147483648) (n := ep) hep (by omega) (num4 sm ++ [])
 have hrn2 := rNum_back (most := 4294967295) (n := sm) (by omega) hq []
 rw [List.append_nil] at hrn1
 have hrr := fun W a c (hb : Bytes W a (num4 ep ++ num4 sm)) => rec_read a c (num4 ep ++ num4 sm) W hb (by simp [num4_len])
 have hll : (num4 ep ++ num4 sm).length = 8 := by simp [num4_len]
 rw [List.append_nil] at hrn2
 simp only [hll] at hrr
 have hln : (num4 sm).length = 4 := num4_len _
 generalize num4 ep ++ num4 sm = L8 at hrn1 hrr hbm hll
 generalize num4 sm = N2 at hrn1 hrn2 hln
 generalize hdrB ep = HB1 at hcr hbm5 hl5
 generalize byteV (hdrS ep) = V at hvl heq hbm hbm5 hz0
 clear h8 h5 hVc hsm hfl1
 have HBM := Lib.hid hbm; have HBM5 := Lib.hid hbm5; have HCR := Lib.hid hcr; have HR1 := Lib.hid hrn1; have HR2 := Lib.hid hrn2; have HRR := Lib.hid hrr; have HZ0 := Lib.hid hz0; have HL8 := Lib.hid hll; have HL5 := Lib.hid hl5; have HLN := Lib.hid hln
 clear hbm hbm5 hcr hrn1 hrn2 hrr hz0 hll hl5 hln
 have hwu : IntKind.u32.wrap (sm : Int) = (sm : Int) := IntWalk.u32_in _ ⟨by omega, by omega⟩
 have HVL := Lib.hid hvl; clear hvl
 go_enter Tryz.func150, Tryz.ntmps150
 go_upto_region 1 with (fail)
 have hx := Ext.alloc w (.cells V.toArray 234)
 have hb := heap_alloc_new w (.cells V.toArray 234)
 obtain ⟨B, hB⟩ : ∃ B, B = w.heap.size := ⟨_, rfl⟩
 rw [← hB] at hb HBM HBM5 ⊢
 clear hB
 generalize w.alloc (.cells V.toArray 234) = w1 at hx hb ⊢
 have HX := Lib.hid hx; have HB := Lib.hid hb; clear hx hb
 have hr : w1.rangeAt B 0 V := fun j v hv => by rw [Nat.zero_add, cell_of_row _ _ _ _ _ _ HB.out]; simpa using hv
 have HRG := Lib.hid hr; clear hr
 have hrr1 := HRR.out w1 (some ⟨B, 1, none⟩) 63 (HBM.out w1 HB.out)
 have HRR1 := Lib.hid hrr1; clear hrr1
 go_upto_region 4 with (first | (refine wpList_load_mid rfl _ _ rfl _ _ rfl V _ HRG.out Tryz.underlying234 rfl (by rw [HVL.out]; exact size_sector) ?_) | (go_at_call 153; refine HRR1.out.mono ?_; rintro E w2 ⟨R, rfl, hRw, hrd, hx2⟩; have HRW := Lib.hid hRw; have HRD := Lib.hid hrd; have HX2 := Lib.hid hx2; clear hRw hrd hx2))
 clear heq
 have hn1 := rd_num _ R 2147483648 _ w2 HRD.out (by show L8.length ≤ _; rw [HL8.out]; omega) (by omega)
 rw [HR1.out] at hn1
 have HN1 := Lib.hid hn1; clear hn1
 go_upto_region 5 with (go_at_call 154; refine HN1.out.mono ?_; rintro E w3 ⟨rfl, hrd3, hbt3⟩; have HRD3 := Lib.hid hrd3; have HBT3 := Lib.hid hbt3; clear hrd3 hbt3)
 have hn2 := rd_num _ R 4294967295 _ w3 HRD3.out (by show N2.length ≤ _; rw [HLN.out]; omega) (by omega)
 rw [HR2.out] at hn2
 have HN2 := Lib.hid hn2; clear hn2
 go_upto_region 6 with (go_at_call 154; refine HN2.out.mono ?_; rintro E w4 ⟨rfl, hrd4, hbt4⟩; have HRD4 := Lib.hid hrd4; have HBT4 := Lib.hid hbt4; clear hrd4 hbt4)
 have hx12 : Ext w1 w4 := But.ext HX2.out (HBT3.out.trans HBT4.out) HRW.out
 have hb4 := hx12.heap HB.out
 have hx4 := HX.out.trans hx12
 have HX4 := Lib.hid hx4; have HB4 := Lib.hid hb4; clear hx12 hb4 hx4
 have hc0 : w4.cell? ⟨B, 0, none⟩ = some (.int .u8 1) := by rw [cell_of_row _ _ _ _ _ _ HB4.out]; simpa using HZ0.out
 have hps := fun W (hx : Ext w4 W) G (hg : W.heap[G]? = some (.cells #[.slice (some ⟨B, 0, none⟩) 5 64] 50 (0, 0))) => HCR.out W (some ⟨G, 0, none⟩) 1 (parts_blk (vs := [.slice (some ⟨B, 0, none⟩) 5 64]) hg (by have h := PartsS.one (c := 64) (HBM5.out W (hx.heap HB4.out)).row; rw [HL5.out] at h; exact h))
 have HPS := Lib.hid hps; clear hps
 go_wp2_with (go_at_call 168; refine (HPS.out _ (Ext.alloc _ _) _ (heap_alloc_new _ _)).mono ?_; rintro E w5 ⟨rfl, rfl⟩)
 all_goals (try go_ret2)
 all_goals exact ⟨rfl, HX4.out.trans (Ext.alloc _ _)⟩
end
end Go.Proofs.YtefpllpichhojaaGreatDoor
