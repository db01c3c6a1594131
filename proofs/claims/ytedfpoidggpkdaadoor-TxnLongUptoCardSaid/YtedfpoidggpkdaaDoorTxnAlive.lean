/- farrierlaw18.alive: the document's example of an upgrade. -/
import Derived.Test.YtedfpoidggpkdaaDoorTxnUnpack
namespace Go.Proofs.YtedfpoidggpkdaaDoor
open Go.RowKit
def exT : TxnD := ⟨1, 1, [(1, [47, 102])], [[97]], []⟩
theorem exT_len : (packT exT).length = 35 := by decide +kernel
theorem exT_back : unpackT (packT exT) = some exT := by kernel_rfl
theorem one_bad : unpackT [1] = none := by kernel_rfl
theorem exT_right : rightT exT = true := by decide +kernel
theorem ex1_right : rightT ⟨0, 1, [], [], []⟩ = false := by decide +kernel
set_option maxRecDepth 100000 in
set_option maxHeartbeats 1600000 in
theorem alive18 (w : World) (hE : Env w) :
    Calls Tryd.prog 25 #[] w fun e w' => e = .returned (.bool true) ∧ Ext w w' := by
  go_enter Tryd.func25, Tryd.ntmps25
  go_wp2_with fail
  have hM0 : ∀ o1 o2, Moves (((w.alloc (.cells #[.int .i64 1, .string ⟨#[47, 102]⟩] 47)).alloc o1).alloc o2) (some ⟨w.heap.size, 0, none⟩) exT.moves := by
    intro o1 o2
    refine Moves.ext (Moves.ext (Or.inr ⟨w.heap.size, 0, rfl, by simp, fun i hi => ?_⟩) (Ext.alloc _ _)) (Ext.alloc _ _)
    have hi0 : i = 0 := by have : i < 1 := hi; omega
    subst hi0
    exact ⟨cell_new w _ _ 0 _ rfl, cell_new w _ _ 1 _ rfl⟩
  have hC0 : ∀ o0 o2, Strs (((w.alloc o0).alloc (.cells #[.string ⟨#[97]⟩] 9)).alloc o2) (some ⟨w.heap.size + 1, 0, none⟩) exT.come := by
    intro o0 o2
    refine Strs.ext (Or.inr ⟨w.heap.size + 1, 0, rfl, by simp, fun i hi => ?_⟩) (Ext.alloc _ _)
    have hi0 : i = 0 := by have : i < 1 := hi; omega
    subst hi0
    have := cell_new (w.alloc o0) #[.string ⟨#[97]⟩] 9 0 _ rfl
    rw [World.size_alloc] at this
    exact this
  have HM0 := Lib.hid hM0; clear hM0
  have HC0 := Lib.hid hC0; clear hC0
  refine (txn_pack exT _ _ none 1 1 0 _ (HM0.out _ _) (HC0.out _ _) (Strs.nil _ _) (by rw [exT_len]; omega)).mono ?_
  rintro e w1 ⟨a1, c1, rfl, hown, hx1⟩
  have HB1 := Lib.hid hown.bytes.1; clear hown
  have hxw : Ext w w1 := ((Ext.alloc _ _).trans ((Ext.alloc _ _).trans (Ext.alloc _ _))).trans hx1
  have X1 := Lib.hid hx1
  have HXW := Lib.hid hxw; clear hxw
  go_wp2_with fail
  have hu1 := txn_unpack a1 c1 (packT exT) w1 (hE.ext HXW.out) HB1.out (by rw [exT_len]; omega)
  rw [exT_back] at hu1
  have HU1 := Lib.hid hu1; clear hu1
  refine HU1.out.mono ?_
  rintro e w2 ⟨am, ac, ag, cm, cc, cg, rfl, hM2, hC2, hG2, hx2⟩
  rw [show txnV exT am ac ag cm cc cg = .agg #[.int .i64 1, .int .i64 1, .slice am 1 cm, .slice ac 1 cc, .slice ag 0 cg] from rfl]
  have HM2 := Lib.hid hM2; clear hM2
  have HX2 := Lib.hid hx2; clear hx2
  clear hC2 hG2
  go_wp2_with fail
  have hb1 : ∀ o, Bytes ((w2.alloc o).alloc (.cells #[.int .u8 1] 5)) (some ⟨w2.heap.size + 1, 0, none⟩) [1] := by
    intro o
    refine Or.inr ⟨w2.heap.size + 1, 0, rfl, by simp, fun i hi => ?_⟩
    have hi0 : i = 0 := by have : i < 1 := hi; omega
    subst hi0
    have := cell_new (w2.alloc o) #[.int .u8 1] 5 0 _ rfl
    rw [World.size_alloc] at this
    exact this
  have hu2 := fun o => txn_unpack (some ⟨w2.heap.size + 1, 0, none⟩) 1 [1] _ ((((hE.ext HXW.out).ext HX2.out).ext (Ext.alloc _ o)).ext (Ext.alloc _ _)) (hb1 o) (by decide)
  rw [one_bad] at hu2
  have HU2 := Lib.hid hu2; clear hu2 hb1
  refine (HU2.out _).mono ?_
  rintro e w3 ⟨rfl, hx3⟩
  have q0 : w3.cell? ⟨w2.heap.size, 1, none⟩ = some (.int .i64 1) := hx3.cell ((Ext.alloc _ _).cell (cell_new w2 _ _ 1 _ rfl))
  have q2 : w3.cell? ⟨w2.heap.size, 2, none⟩ = some (.slice am 1 cm) := hx3.cell ((Ext.alloc _ _).cell (cell_new w2 _ _ 2 _ rfl))
  have hxx : Ext w1 w3 := HX2.out.trans (((Ext.alloc _ _).trans (Ext.alloc _ _)).trans hx3)
  have HXX := Lib.hid hxx; clear hxx
  have hz3 := hx3.size
  have hz2 := HX2.out.size
  have hz1 := X1.out.size
  simp only [World.size_alloc] at hz3 hz1
  have ht := fun i v h => HXX.out.cell (X1.out.cell (by have := cell_new ((w.alloc (.cells #[.int .i64 1, .string ⟨#[47, 102]⟩] 47)).alloc (.cells #[.string ⟨#[97]⟩] 9)) #[.int .i64 1, .int .i64 1, .slice (some ⟨w.heap.size, 0, none⟩) 1 1, .slice (some ⟨w.heap.size + 1, 0, none⟩) 1 1, .slice none 0 0] 38 i v h; rw [World.size_alloc, World.size_alloc] at this; exact this))
  have t0 : w3.cell? ⟨w.heap.size + 1 + 1, 0, none⟩ = some (.int .i64 1) := ht 0 _ rfl
  have t1 : w3.cell? ⟨w.heap.size + 1 + 1, 1, none⟩ = some (.int .i64 1) := ht 1 _ rfl
  have t2 : w3.cell? ⟨w.heap.size + 1 + 1, 2, none⟩ = some (.slice (some ⟨w.heap.size, 0, none⟩) 1 1) := ht 2 _ rfl
  have t3 : w3.cell? ⟨w.heap.size + 1 + 1, 3, none⟩ = some (.slice (some ⟨w.heap.size + 1, 0, none⟩) 1 1) := ht 3 _ rfl
  have t4 : w3.cell? ⟨w.heap.size + 1 + 1, 4, none⟩ = some (.slice none 0 0) := ht 4 _ rfl
  clear ht
  have hmv := HM2.out.ext (((Ext.alloc _ _).trans (Ext.alloc _ _)).trans hx3)
  rcases hmv with h0 | ⟨gm, om, rfl, j4, hcm⟩
  · cases h0
  have hcn : w3.cell? ⟨gm, om + 1, none⟩ = some (.string ⟨#[47, 102]⟩) := (hcm 0 (by decide)).2
  clear hcm
  have hl35 : (((packT exT).length : Nat) : Int) = 35 := by rw [exT_len]; rfl
  have j3 : w2.heap.size < w3.heap.size := by omega
  have j5 : w.heap.size + 1 + 1 < w3.heap.size := by omega
  have hr1 := fun W (hW : Ext w3 W) => txn_right exT (some ⟨w.heap.size, 0, none⟩) (some ⟨w.heap.size + 1, 0, none⟩) none 1 1 0 W (((hE.ext HXW.out).ext HXX.out).ext hW) ((((HM0.out _ _).ext X1.out).ext HXX.out).ext hW) ((((HC0.out _ _).ext X1.out).ext HXX.out).ext hW) (Strs.nil _ _) (by decide) (by decide) (by decide)
  rw [exT_right] at hr1
  have hr2 := fun W (hW : Ext w3 W) => txn_right ⟨0, 1, [], [], []⟩ none none none 0 0 0 W (((hE.ext HXW.out).ext HXX.out).ext hW) (Or.inl rfl) (Strs.nil _ _) (Strs.nil _ _) (by decide) (by decide) (by decide)
  rw [ex1_right] at hr2
  have HR1 := Lib.hid hr1; clear hr1
  have HR2 := Lib.hid hr2; clear hr2
  go_wp2_with fail
  refine (HR1.out _ (Ext.alloc _ _)).mono ?_
  rintro e w4 ⟨rfl, hx4⟩
  go_wp2_with fail
  refine (HR2.out _ ((Ext.alloc _ _).trans hx4)).mono ?_
  rintro e w5 ⟨rfl, hx5⟩
  go_wp2_with fail
  go_ret
  exact ⟨rfl, HXW.out.trans (HXX.out.trans ((Ext.alloc _ _).trans (hx4.trans hx5)))⟩
end Go.Proofs.YtedfpoidggpkdaaDoor
