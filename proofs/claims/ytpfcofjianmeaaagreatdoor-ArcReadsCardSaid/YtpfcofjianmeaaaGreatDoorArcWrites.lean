/- The statement ArcWrites: its walk. -/
import Derived.Test.YtpfcofjianmeaaaGreatDoorArcAlive
import Derived.Test.YtpfcofjianmeaaaGreatDoorArcSmall
import Derived.Test.YtpfcofjianmeaaaGreatDoorArcRef
import Derived.Test.YtpfcofjianmeaaaGreatDoorArcPlain
import Derived.Test.YtpfcofjianmeaaaGreatDoorRef10Right
import Derived.Test.YtpfcofjianmeaaaGreatDoorRef10Write
import Derived.Outline
namespace Go.Proofs.YtpfcofjianmeaaaGreatDoor
open Go.RowKit
attribute [local go_sem] cvOp_eq
theorem sm_no (p : PkgD) (A : PkgA) (w : World) (hM : PkgM w p A) (h : smallB p = false) : Calls Tryz.prog 6 #[pkgV p A] w fun e w' => e = .returned (.int .i64 0) ∧ Ext w w' :=
  (law_small p A w hM).mono fun _ _ k => by unfold SmallR smallI at k; rw [h] at k; exact k
theorem sm_yes (p : PkgD) (A : PkgA) (w : World) (hM : PkgM w p A) (h : smallB p = true) : Calls Tryz.prog 6 #[pkgV p A] w fun e w' => e = .returned (.int .i64 1) ∧ Ext w w' :=
  (law_small p A w hM).mono fun _ _ k => by unfold SmallR smallI at k; rw [h] at k; exact k
theorem right_ways {p : PkgD} (h : rightP p = true) : ∀ n ∈ p.needs, 0 ≤ n.way ∧ n.way < 4294967296 := by
  intro n hn
  unfold rightP at h
  simp only [Bool.and_eq_true] at h
  have h2 := List.all_eq_true.1 h.2.1 n hn
  unfold needR at h2
  simp only [Bool.and_eq_true, Bool.or_eq_true, decide_eq_true_eq] at h2
  rcases h2.2 with h3 | h3 <;> omega
theorem writeP_len {p : PkgD} (h : rightP p = true) : (writeP p).length ≤ 16004 := by
  have h1 := (packP_len h).1
  have h2 : (writeP p).length = (packP p).length + 4 := by simp [writeP, sumB, num4_len]
  omega
theorem read_back (p : PkgD) (h : rightP p = true) (a : Option Addr) (c : Nat) (w : World) (hE : EnvN w) (hb : Bytes w a (writeP p)) (hc : (writeP p).length ≤ c) :
    Calls Tryz.prog 11 #[.slice a (writeP p).length c] w fun e w' => ∃ qn qc qf qu dn dc df du, e = .returned (.tuple #[.agg #[.string (bs p.name), .string (bs p.ver), .slice qn p.needs.length dn, .slice qc p.conf.length dc, .slice qf p.files.length df, .slice qu p.units.length du], .int .i64 0]) ∧ PkgM w' p ⟨qn, qc, qf, qu, dn, dc, df, du⟩ ∧ p.files.length ≤ df ∧ Ext w w' := by
  refine (arc_read a c (writeP p) w hE hb hc (by have := writeP_len h; omega)).mono ?_
  rintro e w' ⟨⟨qn, qc, qf, qu, dn, dc, df, du⟩, rfl, hM, hC, hx⟩
  rw [readP_back h] at hM hC ⊢
  exact ⟨qn, qc, qf, qu, dn, dc, df, du, rfl, hM, hC.2.2.1, hx⟩
set_option maxRecDepth 100000 in
set_option maxHeartbeats 6400000 in
theorem writes_great (p : PkgD) (an ac af au : Option Addr) (cn cc cf cu : Nat) (w : World) (hE : EnvN w) (hM : PkgM w p ⟨an, ac, af, au, cn, cc, cf, cu⟩) (hC : p.files.length ≤ cf) (hs : smallB p = false) :
    Calls Tryz.prog 3 #[.agg #[.string (bs p.name), .string (bs p.ver), .slice an p.needs.length cn, .slice ac p.conf.length cc, .slice af p.files.length cf, .slice au p.units.length cu]] w fun e w' => e = .returned (.bool true) ∧ Ext w w' := by
  obtain ⟨Q, hQ⟩ : ∃ Q : Ending → World → Prop, Q = fun e w' => e = .returned (.bool true) ∧ Ext w w' := ⟨_, rfl⟩
  rw [← hQ]
  have HQ := Lib.hid hQ; clear hQ
  have HE := Lib.hid hE; clear hE
  have HM := Lib.hid hM; clear hM
  have HC := Lib.hid hC; clear hC
  have hsm := fun W hW => sm_no p ⟨an, ac, af, au, cn, cc, cf, cu⟩ W hW hs
  rw [show pkgV p ⟨an, ac, af, au, cn, cc, cf, cu⟩ = .agg #[.string (bs p.name), .string (bs p.ver), .slice an p.needs.length cn, .slice ac p.conf.length cc, .slice af p.files.length cf, .slice au p.units.length cu] from rfl] at hsm
  have HS := Lib.hid hsm; clear hsm hs
  have hx0 : Ext w (w.alloc (.cells #[.string (bs p.name), .string (bs p.ver), .slice an p.needs.length cn, .slice ac p.conf.length cc, .slice af p.files.length cf, .slice au p.units.length cu] 26)) := Ext.alloc _ _
  have hp0 := heap_alloc_new w (.cells #[.string (bs p.name), .string (bs p.ver), .slice an p.needs.length cn, .slice ac p.conf.length cc, .slice af p.files.length cf, .slice au p.units.length cu] 26)
  have HX0 := Lib.hid hx0; clear hx0
  have HP0 := Lib.hid hp0; clear hp0
  go_enter Tryz.func3, Tryz.ntmps3
  go_upto_region 1 with (fail)
  generalize w.alloc (.cells #[.string (bs p.name), .string (bs p.ver), .slice an p.needs.length cn, .slice ac p.conf.length cc, .slice af p.files.length cf, .slice au p.units.length cu] 26) = w0 at HX0 HP0 ⊢
  obtain ⟨B, hB⟩ : ∃ B, B = w.heap.size := ⟨_, rfl⟩
  rw [← hB] at HP0 ⊢
  clear hB
  go_wp2_with fail
  refine (alive10 w0 (HE.out.ext HX0.out)).mono ?_
  rintro e w1 ⟨rfl, hx1⟩
  have HX1 := Lib.hid (HX0.out.trans hx1)
  have HP1 := Lib.hid (hx1.heap HP0.out)
  clear HX0 HP0 hx1
  have p0 : w1.cell? ⟨B, 0, none⟩ = some (.string (bs p.name)) := blk_cell HP1.out 0 _ rfl
  have p1 : w1.cell? ⟨B, 1, none⟩ = some (.string (bs p.ver)) := blk_cell HP1.out 1 _ rfl
  have p2 : w1.cell? ⟨B, 2, none⟩ = some (.slice an p.needs.length cn) := blk_cell HP1.out 2 _ rfl
  have p3 : w1.cell? ⟨B, 3, none⟩ = some (.slice ac p.conf.length cc) := blk_cell HP1.out 3 _ rfl
  have p4 : w1.cell? ⟨B, 4, none⟩ = some (.slice af p.files.length cf) := blk_cell HP1.out 4 _ rfl
  have p5 : w1.cell? ⟨B, 5, none⟩ = some (.slice au p.units.length cu) := blk_cell HP1.out 5 _ rfl
  go_wp2_with fail
  refine (HS.out w1 (HM.out.ext HX1.out)).mono ?_
  rintro e w2 ⟨rfl, hx2⟩
  have HX2 := Lib.hid (HX1.out.trans hx2)
  have HP2 := Lib.hid (hx2.heap HP1.out)
  clear HX1 HP1 hx2 p0 p1 p2 p3 p4 p5
  go_wp2_with fail
  rw [HQ.out]
  exact ⟨rfl, HX2.out⟩
set_option maxRecDepth 100000 in
set_option maxHeartbeats 6400000 in
theorem writes_wrong (p : PkgD) (an ac af au : Option Addr) (cn cc cf cu : Nat) (w : World) (hE : EnvN w) (hM : PkgM w p ⟨an, ac, af, au, cn, cc, cf, cu⟩) (hC : p.files.length ≤ cf) (hs : smallB p = true) (hr : rightP p = false) :
    Calls Tryz.prog 3 #[.agg #[.string (bs p.name), .string (bs p.ver), .slice an p.needs.length cn, .slice ac p.conf.length cc, .slice af p.files.length cf, .slice au p.units.length cu]] w fun e w' => e = .returned (.bool true) ∧ Ext w w' := by
  obtain ⟨Q, hQ⟩ : ∃ Q : Ending → World → Prop, Q = fun e w' => e = .returned (.bool true) ∧ Ext w w' := ⟨_, rfl⟩
  rw [← hQ]
  have HQ := Lib.hid hQ; clear hQ
  have HE := Lib.hid hE; clear hE
  have HM := Lib.hid hM; clear hM
  have HC := Lib.hid hC; clear hC
  have hfit : FitP p := SmallP.fit (smallB_fit hs)
  have hsm := fun W hW => sm_yes p ⟨an, ac, af, au, cn, cc, cf, cu⟩ W hW hs
  have hwr := fun W hE hM => arc_write_no p ⟨an, ac, af, au, cn, cc, cf, cu⟩ W hE hM hfit HC.out hr
  have hri := fun W hE hM => arc_right p ⟨an, ac, af, au, cn, cc, cf, cu⟩ W hE hM hfit HC.out
  rw [hr] at hri
  rw [show pkgV p ⟨an, ac, af, au, cn, cc, cf, cu⟩ = .agg #[.string (bs p.name), .string (bs p.ver), .slice an p.needs.length cn, .slice ac p.conf.length cc, .slice af p.files.length cf, .slice au p.units.length cu] from rfl] at hsm hwr hri
  have hpl := fun W hM => law_plain p an ac af au cn cc cf cu W hM hfit
  have hrq := fun xn xf en ef W hM => right10 p xn ac xf au en cc ef cu W hM hfit
  rw [rightQ_P, hr] at hrq
  have HS := Lib.hid hsm; clear hsm
  have HW := Lib.hid hwr; clear hwr
  have HR := Lib.hid hri; clear hri
  have HPL := Lib.hid hpl; clear hpl
  have HRQ := Lib.hid hrq; clear hrq
  clear hs hr hfit
  have hx0 : Ext w (w.alloc (.cells #[.string (bs p.name), .string (bs p.ver), .slice an p.needs.length cn, .slice ac p.conf.length cc, .slice af p.files.length cf, .slice au p.units.length cu] 26)) := Ext.alloc _ _
  have hp0 := heap_alloc_new w (.cells #[.string (bs p.name), .string (bs p.ver), .slice an p.needs.length cn, .slice ac p.conf.length cc, .slice af p.files.length cf, .slice au p.units.length cu] 26)
  have HX0 := Lib.hid hx0; clear hx0
  have HP0 := Lib.hid hp0; clear hp0
  go_enter Tryz.func3, Tryz.ntmps3
  go_upto_region 1 with (fail)
  generalize w.alloc (.cells #[.string (bs p.name), .string (bs p.ver), .slice an p.needs.length cn, .slice ac p.conf.length cc, .slice af p.files.length cf, .slice au p.units.length cu] 26) = w0 at HX0 HP0 ⊢
  obtain ⟨B, hB⟩ : ∃ B, B = w.heap.size := ⟨_, rfl⟩
  rw [← hB] at HP0 ⊢
  clear hB
  go_wp2_with fail
  refine (alive10 w0 (HE.out.ext HX0.out)).mono ?_
  rintro e w1 ⟨rfl, hx1⟩
  have HX1 := Lib.hid (HX0.out.trans hx1)
  have HP1 := Lib.hid (hx1.heap HP0.out)
  clear HX0 HP0 hx1
  have p0 : w1.cell? ⟨B, 0, none⟩ = some (.string (bs p.name)) := blk_cell HP1.out 0 _ rfl
  have p1 : w1.cell? ⟨B, 1, none⟩ = some (.string (bs p.ver)) := blk_cell HP1.out 1 _ rfl
  have p2 : w1.cell? ⟨B, 2, none⟩ = some (.slice an p.needs.length cn) := blk_cell HP1.out 2 _ rfl
  have p3 : w1.cell? ⟨B, 3, none⟩ = some (.slice ac p.conf.length cc) := blk_cell HP1.out 3 _ rfl
  have p4 : w1.cell? ⟨B, 4, none⟩ = some (.slice af p.files.length cf) := blk_cell HP1.out 4 _ rfl
  have p5 : w1.cell? ⟨B, 5, none⟩ = some (.slice au p.units.length cu) := blk_cell HP1.out 5 _ rfl
  go_wp2_with fail
  refine (HS.out w1 (HM.out.ext HX1.out)).mono ?_
  rintro e w2 ⟨rfl, hx2⟩
  have HX2 := Lib.hid (HX1.out.trans hx2)
  have HP2 := Lib.hid (hx2.heap HP1.out)
  clear HX1 HP1 hx2 p0 p1 p2 p3 p4 p5
  have p0 : w2.cell? ⟨B, 0, none⟩ = some (.string (bs p.name)) := blk_cell HP2.out 0 _ rfl
  have p1 : w2.cell? ⟨B, 1, none⟩ = some (.string (bs p.ver)) := blk_cell HP2.out 1 _ rfl
  have p2 : w2.cell? ⟨B, 2, none⟩ = some (.slice an p.needs.length cn) := blk_cell HP2.out 2 _ rfl
  have p3 : w2.cell? ⟨B, 3, none⟩ = some (.slice ac p.conf.length cc) := blk_cell HP2.out 3 _ rfl
  have p4 : w2.cell? ⟨B, 4, none⟩ = some (.slice af p.files.length cf) := blk_cell HP2.out 4 _ rfl
  have p5 : w2.cell? ⟨B, 5, none⟩ = some (.slice au p.units.length cu) := blk_cell HP2.out 5 _ rfl
  go_upto_region 6 with (first
    | (go_at_call 7; refine (HPL.out _ (HM.out.ext HX2.out)).mono ?_; rintro e w3 ⟨xn, en, xf, ef, rfl, hn, hf, hx⟩; have HX3 := Lib.hid (HX2.out.trans hx); have HP3 := Lib.hid (hx.heap HP2.out); have HMX := Lib.hid (PkgM.mk (A := ⟨xn, ac, xf, au, en, cc, ef, cu⟩) hn (HM.out.conf.ext HX3.out) hf (HM.out.units.ext HX3.out)); clear hn hf hx p0 p1 p2 p3 p4 p5))
  have hnx := heap_alloc_new w3 (.cells #[.string (bs p.name), .string (bs p.ver), .slice xn p.needs.length en, .slice ac p.conf.length cc, .slice xf p.files.length ef, .slice au p.units.length cu] 32)
  have hxx := Ext.alloc w3 (.cells #[.string (bs p.name), .string (bs p.ver), .slice xn p.needs.length en, .slice ac p.conf.length cc, .slice xf p.files.length ef, .slice au p.units.length cu] 32)
  have HNX := Lib.hid hnx; clear hnx
  have HXX := Lib.hid hxx; clear hxx
  generalize w3.alloc (.cells #[.string (bs p.name), .string (bs p.ver), .slice xn p.needs.length en, .slice ac p.conf.length cc, .slice xf p.files.length ef, .slice au p.units.length cu] 32) = w4 at HNX HXX ⊢
  obtain ⟨X, hX⟩ : ∃ x, x = w3.heap.size := ⟨_, rfl⟩
  rw [← hX] at HNX ⊢
  clear hX
  have HX4 := Lib.hid (HX3.out.trans HXX.out)
  have HP4 := Lib.hid (HXX.out.heap HP3.out)
  replace HMX := Lib.hid (HMX.out.ext HXX.out)
  clear HX2 HX3 HP2 HP3 HXX
  have p0 : w4.cell? ⟨B, 0, none⟩ = some (.string (bs p.name)) := blk_cell HP4.out 0 _ rfl
  have p1 : w4.cell? ⟨B, 1, none⟩ = some (.string (bs p.ver)) := blk_cell HP4.out 1 _ rfl
  have p2 : w4.cell? ⟨B, 2, none⟩ = some (.slice an p.needs.length cn) := blk_cell HP4.out 2 _ rfl
  have p3 : w4.cell? ⟨B, 3, none⟩ = some (.slice ac p.conf.length cc) := blk_cell HP4.out 3 _ rfl
  have p4 : w4.cell? ⟨B, 4, none⟩ = some (.slice af p.files.length cf) := blk_cell HP4.out 4 _ rfl
  have p5 : w4.cell? ⟨B, 5, none⟩ = some (.slice au p.units.length cu) := blk_cell HP4.out 5 _ rfl
  go_upto_region 7 with (first
    | (go_at_call 8; refine (HW.out _ (HE.out.ext HX4.out) (HM.out.ext HX4.out)).mono ?_; rintro e w5 ⟨rfl, hx⟩; have HX5 := Lib.hid (HX4.out.trans hx); have HP5 := Lib.hid (hx.heap HP4.out); have HY5 := Lib.hid (hx.heap HNX.out); replace HMX := Lib.hid (HMX.out.ext hx); clear hx HX4 HP4 HNX p0 p1 p2 p3 p4 p5))
  have HK := Lib.hid ((Ext.refl w5).drew)
  go_region_held3 (fun W => W.cell? ⟨B, 0, none⟩ = some (.string (bs p.name)) ∧ W.cell? ⟨B, 1, none⟩ = some (.string (bs p.ver)) ∧ W.cell? ⟨B, 2, none⟩ = some (.slice an p.needs.length cn) ∧ W.cell? ⟨B, 3, none⟩ = some (.slice ac p.conf.length cc) ∧ W.cell? ⟨B, 4, none⟩ = some (.slice af p.files.length cf) ∧ W.cell? ⟨B, 5, none⟩ = some (.slice au p.units.length cu) ∧ W.cell? ⟨X, 0, none⟩ = some (.string (bs p.name)) ∧ W.cell? ⟨X, 1, none⟩ = some (.string (bs p.ver)) ∧ W.cell? ⟨X, 2, none⟩ = some (.slice xn p.needs.length en) ∧ W.cell? ⟨X, 3, none⟩ = some (.slice ac p.conf.length cc) ∧ W.cell? ⟨X, 4, none⟩ = some (.slice xf p.files.length ef) ∧ W.cell? ⟨X, 5, none⟩ = some (.slice au p.units.length cu))
    (first | exact ⟨blk_cell (HK.out.heap HP5.out) 0 _ rfl, blk_cell (HK.out.heap HP5.out) 1 _ rfl, blk_cell (HK.out.heap HP5.out) 2 _ rfl, blk_cell (HK.out.heap HP5.out) 3 _ rfl, blk_cell (HK.out.heap HP5.out) 4 _ rfl, blk_cell (HK.out.heap HP5.out) 5 _ rfl, blk_cell (HK.out.heap HY5.out) 0 _ rfl, blk_cell (HK.out.heap HY5.out) 1 _ rfl, blk_cell (HK.out.heap HY5.out) 2 _ rfl, blk_cell (HK.out.heap HY5.out) 3 _ rfl, blk_cell (HK.out.heap HY5.out) 4 _ rfl, blk_cell (HK.out.heap HY5.out) 5 _ rfl⟩)
    (first
      | (go_at_call 9; refine (HR.out _ (HE.out.ext (HX5.out.trans HK.out)) (HM.out.ext (HX5.out.trans HK.out))).mono ?_; rintro e w6 ⟨rfl, hx⟩; replace HK := Lib.hid (HK.out.trans hx); clear hx)
      | (go_at_call 10; refine (HRQ.out xn xf en ef _ (HMX.out.ext HK.out)).mono ?_; rintro e w6 ⟨rfl, hx⟩; replace HK := Lib.hid (HK.out.trans hx); clear hx)
      | fail)
  all_goals (
    have HX6 := Lib.hid (HX5.out.trans HK.out)
    have p0 : w6.cell? ⟨B, 0, none⟩ = some (.string (bs p.name)) := blk_cell (HK.out.heap HP5.out) 0 _ rfl
    have p1 : w6.cell? ⟨B, 1, none⟩ = some (.string (bs p.ver)) := blk_cell (HK.out.heap HP5.out) 1 _ rfl
    have p2 : w6.cell? ⟨B, 2, none⟩ = some (.slice an p.needs.length cn) := blk_cell (HK.out.heap HP5.out) 2 _ rfl
    have p3 : w6.cell? ⟨B, 3, none⟩ = some (.slice ac p.conf.length cc) := blk_cell (HK.out.heap HP5.out) 3 _ rfl
    have p4 : w6.cell? ⟨B, 4, none⟩ = some (.slice af p.files.length cf) := blk_cell (HK.out.heap HP5.out) 4 _ rfl
    have p5 : w6.cell? ⟨B, 5, none⟩ = some (.slice au p.units.length cu) := blk_cell (HK.out.heap HP5.out) 5 _ rfl
    go_wp2_with (go_at_call 9; refine (HR.out _ (HE.out.ext HX6.out) (HM.out.ext HX6.out)).mono ?_; rintro e w7 ⟨rfl, hx⟩; have HX7 := Lib.hid (HX6.out.trans hx); replace HK := Lib.hid (HK.out.trans hx); clear hx HX6 p0 p1 p2 p3 p4 p5)
    rw [HQ.out]
    exact ⟨rfl, HX7.out⟩)
set_option maxRecDepth 100000 in
set_option maxHeartbeats 6400000 in
theorem writes_right (p : PkgD) (an ac af au : Option Addr) (cn cc cf cu : Nat) (w : World) (hE : EnvN w) (hM : PkgM w p ⟨an, ac, af, au, cn, cc, cf, cu⟩) (hC : p.files.length ≤ cf) (hs : smallB p = true) (hr : rightP p = true) :
    Calls Tryz.prog 3 #[.agg #[.string (bs p.name), .string (bs p.ver), .slice an p.needs.length cn, .slice ac p.conf.length cc, .slice af p.files.length cf, .slice au p.units.length cu]] w fun e w' => e = .returned (.bool true) ∧ Ext w w' := by
  obtain ⟨Q, hQ⟩ : ∃ Q : Ending → World → Prop, Q = fun e w' => e = .returned (.bool true) ∧ Ext w w' := ⟨_, rfl⟩
  rw [← hQ]
  have HQ := Lib.hid hQ; clear hQ
  have HE := Lib.hid hE; clear hE
  have HM := Lib.hid hM; clear hM
  have HC := Lib.hid hC; clear hC
  have hfit : FitP p := SmallP.fit (smallB_fit hs)
  have hsm := fun W hW => sm_yes p ⟨an, ac, af, au, cn, cc, cf, cu⟩ W hW hs
  have hwr := fun W hE hM => arc_write_yes p ⟨an, ac, af, au, cn, cc, cf, cu⟩ W hE hM hfit HC.out hr
  have hri := fun W hE hM => arc_right p ⟨an, ac, af, au, cn, cc, cf, cu⟩ W hE hM hfit HC.out
  rw [hr] at hri
  rw [show pkgV p ⟨an, ac, af, au, cn, cc, cf, cu⟩ = .agg #[.string (bs p.name), .string (bs p.ver), .slice an p.needs.length cn, .slice ac p.conf.length cc, .slice af p.files.length cf, .slice au p.units.length cu] from rfl] at hsm hwr hri
  have hpl := fun W hM => law_plain p an ac af au cn cc cf cu W hM hfit
  have hrq := fun xn xf en ef W hM => right10 p xn ac xf au en cc ef cu W hM hfit
  rw [rightQ_P, hr] at hrq
  have hln := writeP_len hr
  have hrb := read_back p hr
  have hwt := fun xn xf en ef W hM => write10 p xn ac xf au en cc ef cu W hM hfit (right_ways hr) (by have := (packP_len hr).1; omega)
  have hsa := fun (n1 n2 n3 n4 m1 m3 : Option Addr) (k1 k2 k3 k4 e1 e3 : Nat) W hM hN => same10 p n1 n2 n3 n4 m1 ac m3 au k1 k2 k3 k4 e1 cc e3 cu W hM hN hfit (right_ways hr)
  have hpq := fun n1 n2 n3 n4 k1 k2 k3 k4 W hM => law_plain p n1 n2 n3 n4 k1 k2 k3 k4 W hM hfit
  obtain ⟨l, hl⟩ : ∃ l, l = writeP p := ⟨_, rfl⟩
  rw [← hl] at hln hrb hwt hwr
  have HLN := Lib.hid hln; clear hln
  have HRB := Lib.hid hrb; clear hrb
  have HWT := Lib.hid hwt; clear hwt
  have HSA := Lib.hid hsa; clear hsa
  have HPQ := Lib.hid hpq; clear hpq
  clear hl
  have HS := Lib.hid hsm; clear hsm
  have HW := Lib.hid hwr; clear hwr
  have HR := Lib.hid hri; clear hri
  have HPL := Lib.hid hpl; clear hpl
  have HRQ := Lib.hid hrq; clear hrq
  clear hs hr hfit
  have hx0 : Ext w (w.alloc (.cells #[.string (bs p.name), .string (bs p.ver), .slice an p.needs.length cn, .slice ac p.conf.length cc, .slice af p.files.length cf, .slice au p.units.length cu] 26)) := Ext.alloc _ _
  have hp0 := heap_alloc_new w (.cells #[.string (bs p.name), .string (bs p.ver), .slice an p.needs.length cn, .slice ac p.conf.length cc, .slice af p.files.length cf, .slice au p.units.length cu] 26)
  have HX0 := Lib.hid hx0; clear hx0
  have HP0 := Lib.hid hp0; clear hp0
  go_enter Tryz.func3, Tryz.ntmps3
  go_upto_region 1 with (fail)
  generalize w.alloc (.cells #[.string (bs p.name), .string (bs p.ver), .slice an p.needs.length cn, .slice ac p.conf.length cc, .slice af p.files.length cf, .slice au p.units.length cu] 26) = w0 at HX0 HP0 ⊢
  obtain ⟨B, hB⟩ : ∃ B, B = w.heap.size := ⟨_, rfl⟩
  rw [← hB] at HP0 ⊢
  clear hB
  go_wp2_with fail
  refine (alive10 w0 (HE.out.ext HX0.out)).mono ?_
  rintro e w1 ⟨rfl, hx1⟩
  have HX1 := Lib.hid (HX0.out.trans hx1)
  have HP1 := Lib.hid (hx1.heap HP0.out)
  clear HX0 HP0 hx1
  have p0 : w1.cell? ⟨B, 0, none⟩ = some (.string (bs p.name)) := blk_cell HP1.out 0 _ rfl
  have p1 : w1.cell? ⟨B, 1, none⟩ = some (.string (bs p.ver)) := blk_cell HP1.out 1 _ rfl
  have p2 : w1.cell? ⟨B, 2, none⟩ = some (.slice an p.needs.length cn) := blk_cell HP1.out 2 _ rfl
  have p3 : w1.cell? ⟨B, 3, none⟩ = some (.slice ac p.conf.length cc) := blk_cell HP1.out 3 _ rfl
  have p4 : w1.cell? ⟨B, 4, none⟩ = some (.slice af p.files.length cf) := blk_cell HP1.out 4 _ rfl
  have p5 : w1.cell? ⟨B, 5, none⟩ = some (.slice au p.units.length cu) := blk_cell HP1.out 5 _ rfl
  go_wp2_with fail
  refine (HS.out w1 (HM.out.ext HX1.out)).mono ?_
  rintro e w2 ⟨rfl, hx2⟩
  have HX2 := Lib.hid (HX1.out.trans hx2)
  have HP2 := Lib.hid (hx2.heap HP1.out)
  clear HX1 HP1 hx2 p0 p1 p2 p3 p4 p5
  have p0 : w2.cell? ⟨B, 0, none⟩ = some (.string (bs p.name)) := blk_cell HP2.out 0 _ rfl
  have p1 : w2.cell? ⟨B, 1, none⟩ = some (.string (bs p.ver)) := blk_cell HP2.out 1 _ rfl
  have p2 : w2.cell? ⟨B, 2, none⟩ = some (.slice an p.needs.length cn) := blk_cell HP2.out 2 _ rfl
  have p3 : w2.cell? ⟨B, 3, none⟩ = some (.slice ac p.conf.length cc) := blk_cell HP2.out 3 _ rfl
  have p4 : w2.cell? ⟨B, 4, none⟩ = some (.slice af p.files.length cf) := blk_cell HP2.out 4 _ rfl
  have p5 : w2.cell? ⟨B, 5, none⟩ = some (.slice au p.units.length cu) := blk_cell HP2.out 5 _ rfl
  go_upto_region 6 with (first
    | (go_at_call 7; refine (HPL.out _ (HM.out.ext HX2.out)).mono ?_; rintro e w3 ⟨xn, en, xf, ef, rfl, hn, hf, hx⟩; have HX3 := Lib.hid (HX2.out.trans hx); have HP3 := Lib.hid (hx.heap HP2.out); have HMX := Lib.hid (PkgM.mk (A := ⟨xn, ac, xf, au, en, cc, ef, cu⟩) hn (HM.out.conf.ext HX3.out) hf (HM.out.units.ext HX3.out)); clear hn hf hx p0 p1 p2 p3 p4 p5))
  have hnx := heap_alloc_new w3 (.cells #[.string (bs p.name), .string (bs p.ver), .slice xn p.needs.length en, .slice ac p.conf.length cc, .slice xf p.files.length ef, .slice au p.units.length cu] 32)
  have hxx := Ext.alloc w3 (.cells #[.string (bs p.name), .string (bs p.ver), .slice xn p.needs.length en, .slice ac p.conf.length cc, .slice xf p.files.length ef, .slice au p.units.length cu] 32)
  have HNX := Lib.hid hnx; clear hnx
  have HXX := Lib.hid hxx; clear hxx
  generalize w3.alloc (.cells #[.string (bs p.name), .string (bs p.ver), .slice xn p.needs.length en, .slice ac p.conf.length cc, .slice xf p.files.length ef, .slice au p.units.length cu] 32) = w4 at HNX HXX ⊢
  obtain ⟨X, hX⟩ : ∃ x, x = w3.heap.size := ⟨_, rfl⟩
  rw [← hX] at HNX ⊢
  clear hX
  have HX4 := Lib.hid (HX3.out.trans HXX.out)
  have HP4 := Lib.hid (HXX.out.heap HP3.out)
  replace HMX := Lib.hid (HMX.out.ext HXX.out)
  clear HX2 HX3 HP2 HP3 HXX
  have p0 : w4.cell? ⟨B, 0, none⟩ = some (.string (bs p.name)) := blk_cell HP4.out 0 _ rfl
  have p1 : w4.cell? ⟨B, 1, none⟩ = some (.string (bs p.ver)) := blk_cell HP4.out 1 _ rfl
  have p2 : w4.cell? ⟨B, 2, none⟩ = some (.slice an p.needs.length cn) := blk_cell HP4.out 2 _ rfl
  have p3 : w4.cell? ⟨B, 3, none⟩ = some (.slice ac p.conf.length cc) := blk_cell HP4.out 3 _ rfl
  have p4 : w4.cell? ⟨B, 4, none⟩ = some (.slice af p.files.length cf) := blk_cell HP4.out 4 _ rfl
  have p5 : w4.cell? ⟨B, 5, none⟩ = some (.slice au p.units.length cu) := blk_cell HP4.out 5 _ rfl
  go_upto_region 7 with (first
    | (go_at_call 8; refine (HW.out _ (HE.out.ext HX4.out) (HM.out.ext HX4.out)).mono ?_; rintro e w5 ⟨a5, c5, rfl, hown, hx⟩; have HO5 := Lib.hid hown.bytes; have HX5 := Lib.hid (HX4.out.trans hx); have HP5 := Lib.hid (hx.heap HP4.out); have HY5 := Lib.hid (hx.heap HNX.out); replace HMX := Lib.hid (HMX.out.ext hx); clear hown hx HX4 HP4 HNX p0 p1 p2 p3 p4 p5))
  have HK := Lib.hid ((Ext.refl w5).drew)
  go_region_held3 (fun W => W.cell? ⟨B, 0, none⟩ = some (.string (bs p.name)) ∧ W.cell? ⟨B, 1, none⟩ = some (.string (bs p.ver)) ∧ W.cell? ⟨B, 2, none⟩ = some (.slice an p.needs.length cn) ∧ W.cell? ⟨B, 3, none⟩ = some (.slice ac p.conf.length cc) ∧ W.cell? ⟨B, 4, none⟩ = some (.slice af p.files.length cf) ∧ W.cell? ⟨B, 5, none⟩ = some (.slice au p.units.length cu) ∧ W.cell? ⟨X, 0, none⟩ = some (.string (bs p.name)) ∧ W.cell? ⟨X, 1, none⟩ = some (.string (bs p.ver)) ∧ W.cell? ⟨X, 2, none⟩ = some (.slice xn p.needs.length en) ∧ W.cell? ⟨X, 3, none⟩ = some (.slice ac p.conf.length cc) ∧ W.cell? ⟨X, 4, none⟩ = some (.slice xf p.files.length ef) ∧ W.cell? ⟨X, 5, none⟩ = some (.slice au p.units.length cu))
    (first | exact ⟨blk_cell (HK.out.heap HP5.out) 0 _ rfl, blk_cell (HK.out.heap HP5.out) 1 _ rfl, blk_cell (HK.out.heap HP5.out) 2 _ rfl, blk_cell (HK.out.heap HP5.out) 3 _ rfl, blk_cell (HK.out.heap HP5.out) 4 _ rfl, blk_cell (HK.out.heap HP5.out) 5 _ rfl, blk_cell (HK.out.heap HY5.out) 0 _ rfl, blk_cell (HK.out.heap HY5.out) 1 _ rfl, blk_cell (HK.out.heap HY5.out) 2 _ rfl, blk_cell (HK.out.heap HY5.out) 3 _ rfl, blk_cell (HK.out.heap HY5.out) 4 _ rfl, blk_cell (HK.out.heap HY5.out) 5 _ rfl⟩)
    (first
      | (go_at_call 9; refine (HR.out _ (HE.out.ext (HX5.out.trans HK.out)) (HM.out.ext (HX5.out.trans HK.out))).mono ?_; rintro e w6 ⟨rfl, hx⟩; replace HK := Lib.hid (HK.out.trans hx); clear hx)
      | (go_at_call 10; refine (HRQ.out xn xf en ef _ (HMX.out.ext HK.out)).mono ?_; rintro e w6 ⟨rfl, hx⟩; replace HK := Lib.hid (HK.out.trans hx); clear hx)
      | fail)
  all_goals (
    have HX6 := Lib.hid (HX5.out.trans HK.out)
    have p0 : w6.cell? ⟨B, 0, none⟩ = some (.string (bs p.name)) := blk_cell (HK.out.heap HP5.out) 0 _ rfl
    have p1 : w6.cell? ⟨B, 1, none⟩ = some (.string (bs p.ver)) := blk_cell (HK.out.heap HP5.out) 1 _ rfl
    have p2 : w6.cell? ⟨B, 2, none⟩ = some (.slice an p.needs.length cn) := blk_cell (HK.out.heap HP5.out) 2 _ rfl
    have p3 : w6.cell? ⟨B, 3, none⟩ = some (.slice ac p.conf.length cc) := blk_cell (HK.out.heap HP5.out) 3 _ rfl
    have p4 : w6.cell? ⟨B, 4, none⟩ = some (.slice af p.files.length cf) := blk_cell (HK.out.heap HP5.out) 4 _ rfl
    have p5 : w6.cell? ⟨B, 5, none⟩ = some (.slice au p.units.length cu) := blk_cell (HK.out.heap HP5.out) 5 _ rfl
    go_upto_region 11 with (go_at_call 9; refine (HR.out _ (HE.out.ext HX6.out) (HM.out.ext HX6.out)).mono ?_; rintro e w7 ⟨rfl, hx⟩; have HX7 := Lib.hid (HX6.out.trans hx); replace HK := Lib.hid (HK.out.trans hx); clear hx HX6 p0 p1 p2 p3 p4 p5)
    go_upto_region 12 with (go_at_call 11; refine (HRB.out a5 c5 _ (HE.out.ext HX7.out) (HO5.out.1.ext HK.out) HO5.out.2).mono ?_; rintro e w8 ⟨qn, qc, qf, qu, dn, dc, df, du, rfl, hm, _, hx⟩; have HX8 := Lib.hid (HX7.out.trans hx); replace HK := Lib.hid (HK.out.trans hx); have HMQ := Lib.hid hm; clear hx hm HX7)
    have hnx := heap_alloc_new w8 (.cells #[.string (bs p.name), .string (bs p.ver), .slice qn p.needs.length dn, .slice qc p.conf.length dc, .slice qf p.files.length df, .slice qu p.units.length du] 26)
    have hxx := Ext.alloc w8 (.cells #[.string (bs p.name), .string (bs p.ver), .slice qn p.needs.length dn, .slice qc p.conf.length dc, .slice qf p.files.length df, .slice qu p.units.length du] 26)
    have HNQ := Lib.hid hnx; clear hnx
    have HXX := Lib.hid hxx; clear hxx
    generalize w8.alloc (.cells #[.string (bs p.name), .string (bs p.ver), .slice qn p.needs.length dn, .slice qc p.conf.length dc, .slice qf p.files.length df, .slice qu p.units.length du] 26) = w9 at HNQ HXX ⊢
    obtain ⟨Y, hY⟩ : ∃ x, x = w8.heap.size := ⟨_, rfl⟩
    rw [← hY] at HNQ ⊢
    clear hY
    have HX9 := Lib.hid (HX8.out.trans HXX.out)
    have HY9 := Lib.hid ((HK.out.trans HXX.out).heap HY5.out)
    have HO9 := Lib.hid (HO5.out.1.ext (HK.out.trans HXX.out))
    have HMX9 := Lib.hid (HMX.out.ext (HK.out.trans HXX.out))
    have HMQ9 := Lib.hid (HMQ.out.ext HXX.out)
    clear HX5 HP5 HY5 HO5 HMX HMQ HX8 HXX HK HS HW HR HRQ HRB HPL HC HE HM
    have HK := Lib.hid ((Ext.refl w9).drew)
    simp only [cv_bytes]
    go_region_held3 (fun W => W.cell? ⟨X, 0, none⟩ = some (.string (bs p.name)) ∧ W.cell? ⟨X, 1, none⟩ = some (.string (bs p.ver)) ∧ W.cell? ⟨X, 2, none⟩ = some (.slice xn p.needs.length en) ∧ W.cell? ⟨X, 3, none⟩ = some (.slice ac p.conf.length cc) ∧ W.cell? ⟨X, 4, none⟩ = some (.slice xf p.files.length ef) ∧ W.cell? ⟨X, 5, none⟩ = some (.slice au p.units.length cu) ∧ W.cell? ⟨Y, 0, none⟩ = some (.string (bs p.name)) ∧ W.cell? ⟨Y, 1, none⟩ = some (.string (bs p.ver)) ∧ W.cell? ⟨Y, 2, none⟩ = some (.slice qn p.needs.length dn) ∧ W.cell? ⟨Y, 3, none⟩ = some (.slice qc p.conf.length dc) ∧ W.cell? ⟨Y, 4, none⟩ = some (.slice qf p.files.length df) ∧ W.cell? ⟨Y, 5, none⟩ = some (.slice qu p.units.length du))
      (first | exact ⟨blk_cell (HK.out.heap HY9.out) 0 _ rfl, blk_cell (HK.out.heap HY9.out) 1 _ rfl, blk_cell (HK.out.heap HY9.out) 2 _ rfl, blk_cell (HK.out.heap HY9.out) 3 _ rfl, blk_cell (HK.out.heap HY9.out) 4 _ rfl, blk_cell (HK.out.heap HY9.out) 5 _ rfl, blk_cell (HK.out.heap HNQ.out) 0 _ rfl, blk_cell (HK.out.heap HNQ.out) 1 _ rfl, blk_cell (HK.out.heap HNQ.out) 2 _ rfl, blk_cell (HK.out.heap HNQ.out) 3 _ rfl, blk_cell (HK.out.heap HNQ.out) 4 _ rfl, blk_cell (HK.out.heap HNQ.out) 5 _ rfl⟩)
      (first
        | (go_at_call 12; refine (HWT.out xn xf en ef _ (HMX9.out.ext HK.out)).mono ?_; rintro e wa ⟨a50, c50, rfl, hown, hx⟩; replace HK := Lib.hid (HK.out.trans hx); have HO50 := Lib.hid hown.bytes.1; clear hx hown)
        | (go_at_call 7; refine (HPQ.out qn qc qf qu dn dc df du _ (HMQ9.out.ext HK.out)).mono ?_; rintro e wa ⟨yn, gn, yf, gf, rfl, hn, hf, hx⟩; replace HK := Lib.hid (HK.out.trans hx); (try replace HO50 := Lib.hid (HO50.out.ext hx)); have HMY := Lib.hid (And.intro hx (PkgM.mk (A := ⟨yn, qc, yf, qu, gn, dc, gf, du⟩) hn (HMQ9.out.conf.ext HK.out) hf (HMQ9.out.units.ext HK.out))); clear hx hn hf)
        | (go_at_call 13; refine (HSA.out yn qc yf qu xn xf gn dc gf du en ef _ ?_ (HMX9.out.ext HK.out)).mono ?_; exact HMY.out.2; rintro e wa ⟨rfl, hx⟩; replace HK := Lib.hid (HK.out.trans hx); (try replace HO50 := Lib.hid (HO50.out.ext hx)); clear hx)
        | ((with_reducible refine upon_text a5 c5 l ?_ ?_); exact HO9.out.ext HK.out)
        | ((with_reducible refine upon_text a50 c50 l ?_ ?_); exact HO50.out)
        | fail)
    all_goals (
      go_wp2_with fail
      rw [HQ.out]
      exact ⟨rfl, HX9.out.trans HK.out⟩))
theorem arc_writes (p : PkgD) (A : PkgA) (w : World) (hE : EnvN w) (hM : PkgM w p A) (hC : PkgC p A) :
    Calls Tryz.prog 3 #[pkgV p A] w fun e w' => e = .returned (.bool true) ∧ Ext w w' := by
  obtain ⟨an, ac, af, au, cn, cc, cf, cu⟩ := A
  cases hs : smallB p
  · exact writes_great p an ac af au cn cc cf cu w hE hM hC.2.2.1 hs
  · cases hr : rightP p
    · exact writes_wrong p an ac af au cn cc cf cu w hE hM hC.2.2.1 hs hr
    · exact writes_right p an ac af au cn cc cf cu w hE hM hC.2.2.1 hs hr
end Go.Proofs.YtpfcofjianmeaaaGreatDoor
