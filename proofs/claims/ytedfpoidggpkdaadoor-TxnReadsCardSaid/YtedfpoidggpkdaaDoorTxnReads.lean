/- farrierlaw18.TxnReads answers true. -/
import Derived.Test.YtedfpoidggpkdaaDoorTxnAlive
import Derived.Test.YtedfpoidggpkdaaDoorTxnLawR
namespace Go.Proofs.YtedfpoidggpkdaaDoor
open Go.RowKit
def zeroT : Value := .agg #[.int .i64 0, .int .i64 0, .slice none 0 0, .slice none 0 0, .slice none 0 0]
set_option maxRecDepth 100000 in
set_option maxHeartbeats 1600000 in
theorem same_zero (w : World) :
    Calls Tryd.prog 27 #[.agg #[.int .i64 0, .int .i64 0, .slice none 0 0, .slice none 0 0, .slice none 0 0], .agg #[.int .i64 0, .int .i64 0, .slice none 0 0, .slice none 0 0, .slice none 0 0]] w fun e w' => e = .returned (.bool true) ∧ Ext w w' := by
  go_enter Tryd.func27, Tryd.ntmps27
  go_wp2_with fail
  go_loop [53] (fun i => i = .int .i64 0) (fun _ => 0)
  case atStart => rfl
  case round =>
    obtain rfl := hrel
    go_wp2_with fail
    go_loop [69] (fun i => i = .int .i64 0) (fun _ => 0)
    case atStart => rfl
    case round =>
      obtain rfl := hrel
      go_wp2_with fail
      go_loop [85] (fun i => i = .int .i64 0) (fun _ => 0)
      case atStart => rfl
      case round =>
        obtain rfl := hrel
        go_wp2_with fail
        go_ret
        exact ⟨rfl, (Ext.alloc _ _).trans (Ext.alloc _ _)⟩
set_option maxRecDepth 100000 in
set_option maxHeartbeats 1600000 in
theorem txn_reads (a : Option Addr) (c : Nat) (b : List UInt8) (w : World) (hE : Env w) (hb : Bytes w a b) :
    Calls Tryd.prog 6 #[.slice a b.length c] w fun e w' => e = .returned (.bool true) ∧ Ext w w' := by
  go_enter Tryd.func6, Tryd.ntmps6
  go_wp2_with fail
  refine (alive18 _ hE).mono ?_
  rintro e w1 ⟨rfl, hx1⟩
  by_cases hlen : b.length ≤ 400
  · have hu := txn_unpack a c b w1 (hE.ext hx1) (hb.ext hx1) (by omega)
    have HB := Lib.hid (hb.ext hx1); clear hb
    cases hun : unpackT b with
    | none =>
      rw [hun] at hu
      have HU := Lib.hid hu; clear hu hun
      go_wp2_with (first
        | (go_at_call 26; refine HU.out.mono ?_; rintro e w2 ⟨rfl, hx2⟩)
        | (go_at_call 27; refine (same_zero _).mono ?_; rintro e w3 ⟨rfl, hx3⟩))
      all_goals first | (exfalso; omega) | skip
      go_ret
      exact ⟨rfl, hx1.trans (hx2.trans ((Ext.alloc _ _).trans hx3))⟩
    | some t =>
      rw [hun] at hu
      have HU := Lib.hid hu; clear hu
      have hgood := unpackT_good hun
      have HG := Lib.hid hgood; clear hgood hun
      have hpl : (packT t).length ≤ 8388608 := by rw [HG.out.2]; omega
      obtain ⟨hml, hcl, hgl, _, _, _, _⟩ := packT_bounds hpl
      go_wp2_with (go_at_call 26; refine HU.out.mono ?_; rintro e w2 ⟨am, ac, ag, cm, cc, cg, rfl, hM, hC, hGo, hx2⟩; rw [show txnV t am ac ag cm cc cg = .agg #[.int .i64 t.phase, .int .i64 t.done, .slice am t.moves.length cm, .slice ac t.come.length cc, .slice ag t.gone.length cg] from rfl]; have HM := Lib.hid hM; clear hM; have HC := Lib.hid hC; clear hC; have HGO := Lib.hid hGo; clear hGo)
      all_goals first | (exfalso; omega) | skip
      have hlr := fun W (hW : Ext w2 W) => law_right t am ac ag cm cc cg W (HM.out.ext hW) (HC.out.ext hW) (HGO.out.ext hW) hml hcl hgl
      rw [HG.out.1] at hlr
      have hpk := fun W (hW : Ext w2 W) => txn_pack t am ac ag cm cc cg W (HM.out.ext hW) (HC.out.ext hW) (HGO.out.ext hW) hpl
      rw [HG.out.2] at hpk
      have hcv := fun W (hW : Ext w2 W) => conv_text (c := c) ((HB.out.ext hx2).ext hW)
      have HLR := Lib.hid hlr; clear hlr
      have HPK := Lib.hid hpk; clear hpk
      have HCV := Lib.hid hcv; clear hcv
      go_region_law (first
        | (go_simp; go_at_call 28; refine (HLR.out _ ((Ext.alloc _ _).drew)).mono ?_; rintro e w3 ⟨rfl, hx3⟩; have d0 : w3.cell? ⟨w2.heap.size, 0, none⟩ = some (.int .i64 t.phase) := hx3.cell (cell_new w2 _ _ 0 _ rfl) ; have d1 : w3.cell? ⟨w2.heap.size, 1, none⟩ = some (.int .i64 t.done) := hx3.cell (cell_new w2 _ _ 1 _ rfl) ; have d2 : w3.cell? ⟨w2.heap.size, 2, none⟩ = some (.slice am t.moves.length cm) := hx3.cell (cell_new w2 _ _ 2 _ rfl) ; have d3 : w3.cell? ⟨w2.heap.size, 3, none⟩ = some (.slice ac t.come.length cc) := hx3.cell (cell_new w2 _ _ 3 _ rfl) ; have d4 : w3.cell? ⟨w2.heap.size, 4, none⟩ = some (.slice ag t.gone.length cg) := hx3.cell (cell_new w2 _ _ 4 _ rfl); have ey : Ext w2 w3 := ((Ext.alloc _ _).drew).trans hx3; have v3 := HCV.out _ ey)
        | (go_simp; go_at_call 29; refine (HPK.out _ ey).mono ?_; rintro e w4 ⟨a4, c4, rfl, hown, hx4⟩; have u4 := conv_text (c := c4) hown.bytes.1; have v4 := HCV.out _ (ey.trans hx4); clear hown))
      all_goals
        go_wp2_with fail
        go_ret
        exact ⟨rfl, hx1.trans (hx2.trans (ey.trans hx4))⟩
  · go_wp2_with fail
    all_goals first | (exfalso; omega) | skip
    go_ret
    exact ⟨rfl, hx1⟩
end Go.Proofs.YtedfpoidggpkdaaDoor
