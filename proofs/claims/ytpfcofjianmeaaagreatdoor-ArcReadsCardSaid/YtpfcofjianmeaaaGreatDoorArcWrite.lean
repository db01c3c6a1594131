/- arc.Write: an archive's bytes. -/
import Derived.Test.YtpfcofjianmeaaaGreatDoorArcPack
import Derived.Test.YtpfcofjianmeaaaGreatDoorCrc
namespace Go.Proofs.YtpfcofjianmeaaaGreatDoor
open Go.RowKit
attribute [local go_sem ↓] Go.wp_at_zero Go.wp_at_succ
theorem arc_pack (p : PkgD) (A : PkgA) (w : World) (hM : PkgM w p A) (hS : FitP p) :
    Calls Tryz.prog 15 #[pkgV p A] w (PackR (packP p) w) := arc_pack0 p A.an A.ac A.af A.au A.cn A.cc A.cf A.cu w hM hS
/-- What Write answers. -/
def WriteR (p : PkgD) (w : World) (e : Ending) (w' : World) : Prop :=
  Ext w w' ∧ if rightP p then ∃ a c, e = .returned (.tuple #[.slice a (writeP p).length c, .int .i64 0]) ∧ OwnB w' w.heap.size a c (writeP p) else e = .returned (.tuple #[.slice none 0 0, .int .i64 1])
set_option maxRecDepth 100000 in
set_option maxHeartbeats 3200000 in
theorem arc_write0 (p : PkgD) (an ac af au : Option Addr) (cn cc cf cu : Nat) (w : World) (hE : EnvN w) (hM : PkgM w p ⟨an, ac, af, au, cn, cc, cf, cu⟩) (hS : FitP p) (hC : p.files.length ≤ cf) :
    Calls Tryz.prog 8 #[.agg #[.string (bs p.name), .string (bs p.ver), .slice an p.needs.length cn, .slice ac p.conf.length cc, .slice af p.files.length cf, .slice au p.units.length cu]] w (WriteR p w) := by
  obtain ⟨R, hR⟩ : ∃ R, R = WriteR p w := ⟨_, rfl⟩
  rw [← hR]
  have HR := Lib.hid hR; clear hR
  have hl := (small_lens hS).1
  have hx1 : Ext w (w.alloc (.cells #[.string (bs p.name), .string (bs p.ver), .slice an p.needs.length cn, .slice ac p.conf.length cc, .slice af p.files.length cf, .slice au p.units.length cu] 26)) := Ext.alloc _ _
  have hbx := heap_alloc_new w (.cells #[.string (bs p.name), .string (bs p.ver), .slice an p.needs.length cn, .slice ac p.conf.length cc, .slice af p.files.length cf, .slice au p.units.length cu] 26)
  have HBX := Lib.hid hbx; clear hbx
  have HX1 := Lib.hid hx1; clear hx1
  have HE := Lib.hid hE; clear hE
  have HM := Lib.hid hM; clear hM
  have HS := Lib.hid hS; clear hS
  cases hr : rightP p
  · go_enter Tryz.func8, Tryz.ntmps8
    go_upto_region 1 with (fail)
    generalize w.alloc (.cells #[.string (bs p.name), .string (bs p.ver), .slice an p.needs.length cn, .slice ac p.conf.length cc, .slice af p.files.length cf, .slice au p.units.length cu] 26) = w1 at HBX HX1 ⊢
    have d0 : w1.cell? ⟨w.heap.size, 0, none⟩ = some (.string (bs p.name)) := blk_cell HBX.out 0 _ rfl
    have d1 : w1.cell? ⟨w.heap.size, 1, none⟩ = some (.string (bs p.ver)) := blk_cell HBX.out 1 _ rfl
    have d2 : w1.cell? ⟨w.heap.size, 2, none⟩ = some (.slice an p.needs.length cn) := blk_cell HBX.out 2 _ rfl
    have d3 : w1.cell? ⟨w.heap.size, 3, none⟩ = some (.slice ac p.conf.length cc) := blk_cell HBX.out 3 _ rfl
    have d4 : w1.cell? ⟨w.heap.size, 4, none⟩ = some (.slice af p.files.length cf) := blk_cell HBX.out 4 _ rfl
    have d5 : w1.cell? ⟨w.heap.size, 5, none⟩ = some (.slice au p.units.length cu) := blk_cell HBX.out 5 _ rfl
    go_wp2_with (go_at_call 9; refine (arc_right0 p an ac af au cn cc cf cu _ (HE.out.ext HX1.out) (HM.out.ext HX1.out) HS.out hC).mono ?_; rintro e w2 ⟨he, hx2⟩; rw [hr] at he; subst he; clear d0 d1 d2 d3 d4 d5; have c0 : w2.cell? ⟨w.heap.size, 0, none⟩ = some (.string (bs p.name)) := blk_cell (hx2.heap HBX.out) 0 _ rfl; have c1 : w2.cell? ⟨w.heap.size, 1, none⟩ = some (.string (bs p.ver)) := blk_cell (hx2.heap HBX.out) 1 _ rfl; have c2 : w2.cell? ⟨w.heap.size, 2, none⟩ = some (.slice an p.needs.length cn) := blk_cell (hx2.heap HBX.out) 2 _ rfl; have c3 : w2.cell? ⟨w.heap.size, 3, none⟩ = some (.slice ac p.conf.length cc) := blk_cell (hx2.heap HBX.out) 3 _ rfl; have c4 : w2.cell? ⟨w.heap.size, 4, none⟩ = some (.slice af p.files.length cf) := blk_cell (hx2.heap HBX.out) 4 _ rfl; have c5 : w2.cell? ⟨w.heap.size, 5, none⟩ = some (.slice au p.units.length cu) := blk_cell (hx2.heap HBX.out) 5 _ rfl)

    rw [HR.out]
    refine ⟨HX1.out.trans hx2, ?_⟩
    rw [hr]
    rfl
  · go_enter Tryz.func8, Tryz.ntmps8
    go_upto_region 1 with (fail)
    generalize w.alloc (.cells #[.string (bs p.name), .string (bs p.ver), .slice an p.needs.length cn, .slice ac p.conf.length cc, .slice af p.files.length cf, .slice au p.units.length cu] 26) = w1 at HBX HX1 ⊢
    have d0 : w1.cell? ⟨w.heap.size, 0, none⟩ = some (.string (bs p.name)) := blk_cell HBX.out 0 _ rfl
    have d1 : w1.cell? ⟨w.heap.size, 1, none⟩ = some (.string (bs p.ver)) := blk_cell HBX.out 1 _ rfl
    have d2 : w1.cell? ⟨w.heap.size, 2, none⟩ = some (.slice an p.needs.length cn) := blk_cell HBX.out 2 _ rfl
    have d3 : w1.cell? ⟨w.heap.size, 3, none⟩ = some (.slice ac p.conf.length cc) := blk_cell HBX.out 3 _ rfl
    have d4 : w1.cell? ⟨w.heap.size, 4, none⟩ = some (.slice af p.files.length cf) := blk_cell HBX.out 4 _ rfl
    have d5 : w1.cell? ⟨w.heap.size, 5, none⟩ = some (.slice au p.units.length cu) := blk_cell HBX.out 5 _ rfl
    go_wp2_with (first
      | (go_at_call 9; refine (arc_right0 p an ac af au cn cc cf cu _ (HE.out.ext HX1.out) (HM.out.ext HX1.out) HS.out hC).mono ?_; rintro e w2 ⟨he, hx2⟩; rw [hr] at he; subst he; clear d0 d1 d2 d3 d4 d5; have c0 : w2.cell? ⟨w.heap.size, 0, none⟩ = some (.string (bs p.name)) := blk_cell (hx2.heap HBX.out) 0 _ rfl; have c1 : w2.cell? ⟨w.heap.size, 1, none⟩ = some (.string (bs p.ver)) := blk_cell (hx2.heap HBX.out) 1 _ rfl; have c2 : w2.cell? ⟨w.heap.size, 2, none⟩ = some (.slice an p.needs.length cn) := blk_cell (hx2.heap HBX.out) 2 _ rfl; have c3 : w2.cell? ⟨w.heap.size, 3, none⟩ = some (.slice ac p.conf.length cc) := blk_cell (hx2.heap HBX.out) 3 _ rfl; have c4 : w2.cell? ⟨w.heap.size, 4, none⟩ = some (.slice af p.files.length cf) := blk_cell (hx2.heap HBX.out) 4 _ rfl; have c5 : w2.cell? ⟨w.heap.size, 5, none⟩ = some (.slice au p.units.length cu) := blk_cell (hx2.heap HBX.out) 5 _ rfl)
      | (go_at_call 15; refine (arc_pack0 p an ac af au cn cc cf cu _ ((HM.out.ext HX1.out).ext hx2) HS.out).mono ?_; rintro e w3 ⟨a3, q3, rfl, ho3, hx3⟩; have HO3 := Lib.hid ho3; clear ho3 c0 c1 c2 c3 c4 c5)
      | (go_at_call 17; refine (crc_of w3.heap.size 0 q3 a3 (packP p) _ (cell_new w3 _ _ 0 _ rfl) (HO3.out.bytes.1.ext (Ext.alloc w3 _)) (by omega)).mono ?_; rintro e w4 ⟨rfl, rfl⟩)
      | (go_at_call 16; refine (rec_num _ _).mono ?_; rintro e w5 ⟨a5, q5, rfl, ho5, hx5⟩; have HO5 := Lib.hid ho5; clear ho5; have hq : Ext w w5 := HX1.out.trans (hx2.trans (hx3.trans ((Ext.alloc w3 _).trans hx5))); have hp3 := (HO3.out.ext ((Ext.alloc w3 _).trans hx5)).base (HX1.out.trans hx2).size; have HP3 := Lib.hid hp3; clear hp3; have hsz := hq.size; have HQ := Lib.hid hq; clear hq)
      | (at_builtin; refine append_bytes rfl (.tmp 10) (.tmp 15) 55 rfl Tryz.underlying55 w.heap.size a3 q3 (packP p) (numI ((crcL (packP p)).toNat : Int)) (packP p).length 4 rfl rfl rfl HP3.out _ _ rfl HO5.out.bytes.1 (by omega) hsz ?_; intro a6 q6 w6 hown6 hbl6; have HO6 := Lib.hid hown6; clear hown6))
    rw [HR.out]
    have hn : numI ((crcL (packP p)).toNat : Int) = sumB (packP p) := by
      unfold numI sumB
      rw [u32_of (crcL (packP p)).isLt]
    refine ⟨Ext.of_below' HQ.out hbl6, ?_⟩
    rw [if_pos hr]
    have hO := HO6.out
    rw [hn] at hO
    exact ⟨a6, q6, by unfold writeP; rw [List.length_append]; rfl, hO⟩
theorem arc_write (p : PkgD) (A : PkgA) (w : World) (hE : EnvN w) (hM : PkgM w p A) (hS : FitP p) (hC : p.files.length ≤ A.cf) :
    Calls Tryz.prog 8 #[pkgV p A] w (WriteR p w) := arc_write0 p A.an A.ac A.af A.au A.cn A.cc A.cf A.cu w hE hM hS hC
end Go.Proofs.YtpfcofjianmeaaaGreatDoor
