/- farrierlaw10.Small: is a package small? -/
import Derived.Test.YtnclibfhbngkjaaGreatDoorM1
import Derived.Test.YtnclibfhbngkjaaGreatDoorArcPack
namespace Go.Proofs.YtnclibfhbngkjaaGreatDoor
open Go.RowKit
attribute [local go_sem ↓] Go.wp_at_zero Go.wp_at_succ
def sN (n : NeedD) : Bool := decide (n.name.length ≤ 60) && decide (n.ver.length ≤ 60)
def sC (s : By) : Bool := decide (s.length ≤ 60)
def sF (f : FileD) : Bool := decide (f.path.length ≤ 60) && decide (f.data.length ≤ 600)
def sU (s : By) : Bool := decide (s.length ≤ 400)
def headS (p : PkgD) : Bool := decide (p.name.length ≤ 60) && (decide (p.ver.length ≤ 60) && (decide (p.needs.length ≤ 20) && (decide (p.conf.length ≤ 20) && (decide (p.files.length ≤ 20) && decide (p.units.length ≤ 20)))))
def smallB (p : PkgD) : Bool := headS p && (p.needs.all sN && (p.conf.all sC && (p.files.all sF && p.units.all sU)))
def smallI (p : PkgD) : Int := if smallB p then 1 else 0
def SmallR (p : PkgD) (w : World) (e : Ending) (w' : World) : Prop := e = .returned (.int .i64 (smallI p)) ∧ Ext w w'
theorem SmallR.no {p : PkgD} {w w' : World} (h : smallB p = false) (hx : Ext w w') : SmallR p w (.returned (.int .i64 0)) w' := ⟨by unfold smallI; rw [h]; rfl, hx⟩
theorem SmallR.yes {p : PkgD} {w w' : World} (h : smallB p = true) (hx : Ext w w') : SmallR p w (.returned (.int .i64 1)) w' := ⟨by unfold smallI; rw [h]; rfl, hx⟩
theorem all_no {α : Type} {L : List α} {d : α} {p : α → Bool} {k : Nat} (hk : k < L.length) (h : p (L.getD k d) = false) : L.all p = false := by
  rw [List.all_eq_false]
  refine ⟨L[k], List.getElem_mem hk, ?_⟩
  have : L.getD k d = L[k] := by simp [hk]
  rw [← this, h]; simp
theorem all_step {α : Type} {L : List α} {d : α} {p : α → Bool} {k : Nat} (hk : k < L.length) (h0 : (L.take k).all p = true) (h : p (L.getD k d) = true) : (L.take (k + 1)).all p = true := by
  have : L.getD k d = L[k] := by simp [hk]
  rw [this] at h
  rw [List.take_succ_eq_append_getElem hk, List.all_append, h0]
  simp [h]
theorem smallB_fit {p : PkgD} (h : smallB p = true) : SmallP p := by
  unfold smallB headS at h
  simp only [Bool.and_eq_true, decide_eq_true_eq, List.all_eq_true, sN, sC, sF, sU] at h
  obtain ⟨⟨h1, h2, h3, h4, h5, h6⟩, h7, h8, h9, h0⟩ := h
  constructor <;> assumption
set_option maxRecDepth 100000 in
set_option maxHeartbeats 3200000 in
theorem small_head (p : PkgD) (an ac af au : Option Addr) (cn cc cf cu : Nat) (w : World) (hh : headS p = false) :
    Calls Tryz.prog 27 #[.agg #[.string (bs p.name), .string (bs p.ver), .slice an p.needs.length cn, .slice ac p.conf.length cc, .slice af p.files.length cf, .slice au p.units.length cu]] w (SmallR p w) := by
  obtain ⟨R, hR⟩ : ∃ R, R = SmallR p w := ⟨_, rfl⟩
  rw [← hR]
  have HR := Lib.hid hR; clear hR
  have hno : smallB p = false := by unfold smallB; rw [hh]; rfl
  have HNO := Lib.hid hno; clear hno
  unfold headS at hh
  have e1 := bs_size p.name
  have e2 := bs_size p.ver
  generalize p.needs.length = l3 at *
  generalize p.conf.length = l4 at *
  generalize p.files.length = l5 at *
  generalize p.units.length = l6 at *
  rw [← e1, ← e2] at hh
  clear e1 e2
  generalize bs p.name = s1 at *
  generalize bs p.ver = s2 at *
  have HH := Lib.hid hh; clear hh
  by_cases k0 : s1.size ≤ 60
  · have d0 : decide ((60 : Int) < (s1.size : Int)) = false := decide_eq_false (by omega)
    by_cases k1 : s2.size ≤ 60
    · have d1 : decide ((60 : Int) < (s2.size : Int)) = false := decide_eq_false (by omega)
      by_cases k2 : l3 ≤ 20
      · have d2 : decide ((20 : Int) < (l3 : Int)) = false := decide_eq_false (by omega)
        by_cases k3 : l4 ≤ 20
        · have d3 : decide ((20 : Int) < (l4 : Int)) = false := decide_eq_false (by omega)
          by_cases k4 : l5 ≤ 20
          · have d4 : decide ((20 : Int) < (l5 : Int)) = false := decide_eq_false (by omega)
            by_cases k5 : l6 ≤ 20
            · exfalso; have := HH.out; simp only [decide_eq_true k0, decide_eq_true k1, decide_eq_true k2, decide_eq_true k3, decide_eq_true k4, decide_eq_true k5] at this; cases this
            · have d5 : decide ((20 : Int) < (l6 : Int)) = true := decide_eq_true (by omega)
              go_enter Tryz.func27, Tryz.ntmps27
              go_wp2_with fail
              rw [HR.out]
              exact SmallR.no HNO.out (Ext.alloc _ _)
          · have d4 : decide ((20 : Int) < (l5 : Int)) = true := decide_eq_true (by omega)
            go_enter Tryz.func27, Tryz.ntmps27
            go_wp2_with fail
            rw [HR.out]
            exact SmallR.no HNO.out (Ext.alloc _ _)
        · have d3 : decide ((20 : Int) < (l4 : Int)) = true := decide_eq_true (by omega)
          go_enter Tryz.func27, Tryz.ntmps27
          go_wp2_with fail
          rw [HR.out]
          exact SmallR.no HNO.out (Ext.alloc _ _)
      · have d2 : decide ((20 : Int) < (l3 : Int)) = true := decide_eq_true (by omega)
        go_enter Tryz.func27, Tryz.ntmps27
        go_wp2_with fail
        rw [HR.out]
        exact SmallR.no HNO.out (Ext.alloc _ _)
    · have d1 : decide ((60 : Int) < (s2.size : Int)) = true := decide_eq_true (by omega)
      go_enter Tryz.func27, Tryz.ntmps27
      go_wp2_with fail
      rw [HR.out]
      exact SmallR.no HNO.out (Ext.alloc _ _)
  · have d0 : decide ((60 : Int) < (s1.size : Int)) = true := decide_eq_true (by omega)
    go_enter Tryz.func27, Tryz.ntmps27
    go_wp2_with fail
    rw [HR.out]
    exact SmallR.no HNO.out (Ext.alloc _ _)
set_option maxRecDepth 100000 in
set_option maxHeartbeats 6400000 in
theorem law_small0 (p : PkgD) (an ac af au : Option Addr) (cn cc cf cu : Nat) (w : World) (hM : PkgM w p ⟨an, ac, af, au, cn, cc, cf, cu⟩) (hh : headS p = true) :
    Calls Tryz.prog 27 #[.agg #[.string (bs p.name), .string (bs p.ver), .slice an p.needs.length cn, .slice ac p.conf.length cc, .slice af p.files.length cf, .slice au p.units.length cu]] w (SmallR p w) := by
  obtain ⟨R, hR⟩ : ∃ R, R = SmallR p w := ⟨_, rfl⟩
  rw [← hR]
  have HR := Lib.hid hR; clear hR
  have HM := Lib.hid hM; clear hM
  have hh0 := Lib.hid hh
  unfold headS at hh
  simp only [Bool.and_eq_true, decide_eq_true_eq] at hh
  obtain ⟨h1, h2, h3, h4, h5, h6⟩ := hh
  have d1 : decide ((60 : Int) < ((bs p.name).size : Int)) = false := by rw [bs_size]; exact decide_eq_false (by omega)
  have d2 : decide ((60 : Int) < ((bs p.ver).size : Int)) = false := by rw [bs_size]; exact decide_eq_false (by omega)
  have d3 : decide ((20 : Int) < (p.needs.length : Int)) = false := decide_eq_false (by omega)
  have d4 : decide ((20 : Int) < (p.conf.length : Int)) = false := decide_eq_false (by omega)
  have d5 : decide ((20 : Int) < (p.files.length : Int)) = false := decide_eq_false (by omega)
  have d6 : decide ((20 : Int) < (p.units.length : Int)) = false := decide_eq_false (by omega)
  have hbx := heap_alloc_new w (.cells #[.string (bs p.name), .string (bs p.ver), .slice an p.needs.length cn, .slice ac p.conf.length cc, .slice af p.files.length cf, .slice au p.units.length cu] 31)
  have hx1 : Ext w (w.alloc (.cells #[.string (bs p.name), .string (bs p.ver), .slice an p.needs.length cn, .slice ac p.conf.length cc, .slice af p.files.length cf, .slice au p.units.length cu] 31)) := Ext.alloc _ _
  have HBX := Lib.hid hbx; clear hbx
  have HX1 := Lib.hid hx1; clear hx1
  have hhs := hh0.out
  have HH := Lib.hid hhs; clear hhs hh0
  go_enter Tryz.func27, Tryz.ntmps27
  go_upto_region 1 with (fail)
  generalize w.alloc (.cells #[.string (bs p.name), .string (bs p.ver), .slice an p.needs.length cn, .slice ac p.conf.length cc, .slice af p.files.length cf, .slice au p.units.length cu] 31) = w0 at HBX HX1 ⊢
  have b0 : w0.cell? ⟨w.heap.size, 2, none⟩ = some (.slice an p.needs.length cn) := blk_cell HBX.out 2 _ rfl
  have e0 : w0.cell? ⟨w.heap.size, 0, none⟩ = some (.string (bs p.name)) := blk_cell HBX.out 0 _ rfl
  have e1 : w0.cell? ⟨w.heap.size, 1, none⟩ = some (.string (bs p.ver)) := blk_cell HBX.out 1 _ rfl
  have e3 : w0.cell? ⟨w.heap.size, 3, none⟩ = some (.slice ac p.conf.length cc) := blk_cell HBX.out 3 _ rfl
  have e4 : w0.cell? ⟨w.heap.size, 4, none⟩ = some (.slice af p.files.length cf) := blk_cell HBX.out 4 _ rfl
  have e5 : w0.cell? ⟨w.heap.size, 5, none⟩ = some (.slice au p.units.length cu) := blk_cell HBX.out 5 _ rfl
  go_wp2_with fail
  clear e0 e1 e3 e4 e5 d1 d2 d3 d4 d5 d6
  clear b0
  go_loopw [48] (fun i wr => ∃ k : Nat, i = .int .i64 k ∧ k ≤ p.needs.length ∧ Hid ((p.needs.take k).all sN = true) ∧ Ext w0 wr) (fun i _ => p.needs.length - (intOf i).toNat)
  case atStart => exact ⟨0, rfl, Nat.zero_le _, Lib.hid (by simp), Ext.refl _⟩
  case round =>
    obtain ⟨k, rfl, hk, hall, hext⟩ := hrel
    have hsz := hext.size
    by_cases hlt : k < p.needs.length
    · obtain ⟨g, off, rfl, _, c1, c2, c3⟩ := ((HM.out.needs.ext HX1.out).ext hext).at hlt
      obtain ⟨m, hm⟩ : ∃ m, m = p.needs.getD k nz := ⟨_, rfl⟩
      rw [← hm] at c1 c2 c3
      have HMM := Lib.hid hm; clear hm
      obtain ⟨mn, mk, mv⟩ := m
      simp only at c1 c2 c3
      have z1 := bs_size mn
      have z2 := bs_size mv
      generalize bs mn = s1 at *
      generalize bs mv = s2 at *
      by_cases t0 : mn.length ≤ 60
      · have d0 : decide ((60 : Int) < (s1.size : Int)) = false := decide_eq_false (by omega)
        by_cases t1 : mv.length ≤ 60
        · have d1 : decide ((60 : Int) < (s2.size : Int)) = false := decide_eq_false (by omega)
          clear z1 z2
          go_wp2_with fail
          go_roundw
          case rel => exact ⟨k + 1, by go_num, by omega, Lib.hid (all_step hlt hall.out (by rw [← HMM.out]; simp only [sN]; (simp only [decide_eq_true t0, decide_eq_true t1] <;> rfl))), hext.trans (Ext.alloc _ _)⟩
          case measure => simp [intOf]; omega
        · have d1 : decide ((60 : Int) < (s2.size : Int)) = true := decide_eq_true (by omega)
          clear z1 z2
          go_wp2_with fail
          rw [HR.out]
          exact SmallR.no (by unfold smallB; rw [all_no (p := sN) hlt (by rw [← HMM.out]; simp only [sN]; (simp only [decide_eq_true t0, decide_eq_false t1] <;> simp))]; simp) (HX1.out.trans (hext.trans (Ext.alloc _ _)))
      · have d0 : decide ((60 : Int) < (s1.size : Int)) = true := decide_eq_true (by omega)
        clear z1 z2
        go_wp2_with fail
        rw [HR.out]
        exact SmallR.no (by unfold smallB; rw [all_no (p := sN) hlt (by rw [← HMM.out]; simp only [sN]; (simp only [decide_eq_false t0] <;> simp))]; simp) (HX1.out.trans (hext.trans (Ext.alloc _ _)))
    · have hkk : k = p.needs.length := by omega
      have ha := hall.out
      rw [hkk, List.take_length] at ha
      have HA0 := Lib.hid ha; clear ha hkk hall
      have HXN := Lib.hid (HX1.out.trans hext)
      have HBN := Lib.hid (hext.heap HBX.out)
      clear HX1 HBX
      have HX1 := HXN
      have HBX := HBN
      clear HXN HBN
      obtain ⟨w1, rfl⟩ : ∃ w1 : World, w1 = wr := ⟨_, rfl⟩
      clear hext hsz hk
      have b1 : w1.cell? ⟨w.heap.size, 3, none⟩ = some (.slice ac p.conf.length cc) := blk_cell HBX.out 3 _ rfl
      go_wp2_with fail
      clear b1
      go_loopw [66] (fun i wr => ∃ k : Nat, i = .int .i64 k ∧ k ≤ p.conf.length ∧ Hid ((p.conf.take k).all sC = true) ∧ Ext w1 wr) (fun i _ => p.conf.length - (intOf i).toNat)
      case atStart => exact ⟨0, rfl, Nat.zero_le _, Lib.hid (by simp), Ext.refl _⟩
      case round =>
        obtain ⟨k, rfl, hk, hall, hext⟩ := hrel
        have hsz := hext.size
        by_cases hlt : k < p.conf.length
        · obtain ⟨g, off, rfl, _, hc⟩ := ((HM.out.conf.ext HX1.out).ext hext).at (by intro e; rw [e] at hlt; simp at hlt)
          have c1 := hc k hlt
          clear hc
          obtain ⟨m, hm⟩ : ∃ m, m = p.conf.getD k [] := ⟨_, rfl⟩
          rw [← hm] at c1
          have HMM := Lib.hid hm; clear hm
          have z1 := bs_size m
          generalize bs m = s1 at *
          by_cases t0 : m.length ≤ 60
          · have d0 : decide ((60 : Int) < (s1.size : Int)) = false := decide_eq_false (by omega)
            clear z1
            go_wp2_with fail
            go_roundw
            case rel => exact ⟨k + 1, by go_num, by omega, Lib.hid (all_step hlt hall.out (by rw [← HMM.out]; simp only [sC]; (simp only [decide_eq_true t0] <;> rfl))), hext⟩
            case measure => simp [intOf]; omega
          · have d0 : decide ((60 : Int) < (s1.size : Int)) = true := decide_eq_true (by omega)
            clear z1
            go_wp2_with fail
            rw [HR.out]
            exact SmallR.no (by unfold smallB; rw [all_no (p := sC) hlt (by rw [← HMM.out]; simp only [sC]; (simp only [decide_eq_false t0] <;> simp))]; simp) (HX1.out.trans hext)
        · have hkk : k = p.conf.length := by omega
          have ha := hall.out
          rw [hkk, List.take_length] at ha
          have HA1 := Lib.hid ha; clear ha hkk hall
          have HXN := Lib.hid (HX1.out.trans hext)
          have HBN := Lib.hid (hext.heap HBX.out)
          clear HX1 HBX
          have HX1 := HXN
          have HBX := HBN
          clear HXN HBN
          obtain ⟨w2, rfl⟩ : ∃ w2 : World, w2 = wr := ⟨_, rfl⟩
          clear hext hsz hk
          have b2 : w2.cell? ⟨w.heap.size, 4, none⟩ = some (.slice af p.files.length cf) := blk_cell HBX.out 4 _ rfl
          go_wp2_with fail
          clear b2
          go_loopw [77] (fun i wr => ∃ k : Nat, i = .int .i64 k ∧ k ≤ p.files.length ∧ Hid ((p.files.take k).all sF = true) ∧ Ext w2 wr) (fun i _ => p.files.length - (intOf i).toNat)
          case atStart => exact ⟨0, rfl, Nat.zero_le _, Lib.hid (by simp), Ext.refl _⟩
          case round =>
            obtain ⟨k, rfl, hk, hall, hext⟩ := hrel
            have hsz := hext.size
            by_cases hlt : k < p.files.length
            · obtain ⟨g, off, rfl, _, c1, c2, dd, dc, c3, c4, _⟩ := ((HM.out.files.ext HX1.out).ext hext).at hlt
              obtain ⟨m, hm⟩ : ∃ m, m = p.files.getD k fz := ⟨_, rfl⟩
              rw [← hm] at c1 c2 c3 c4
              have HMM := Lib.hid hm; clear hm
              obtain ⟨mn, mk, mv⟩ := m
              simp only at c1 c2 c3 c4
              have z1 := bs_size mn
              generalize bs mn = s1 at *
              by_cases t0 : mn.length ≤ 60
              · have d0 : decide ((60 : Int) < (s1.size : Int)) = false := decide_eq_false (by omega)
                by_cases t1 : mv.length ≤ 600
                · have d1 : decide ((600 : Int) < (mv.length : Int)) = false := decide_eq_false (by omega)
                  clear z1
                  go_wp2_with fail
                  go_roundw
                  case rel => exact ⟨k + 1, by go_num, by omega, Lib.hid (all_step hlt hall.out (by rw [← HMM.out]; simp only [sF]; (simp only [decide_eq_true t0, decide_eq_true t1] <;> rfl))), hext.trans (Ext.alloc _ _)⟩
                  case measure => simp [intOf]; omega
                · have d1 : decide ((600 : Int) < (mv.length : Int)) = true := decide_eq_true (by omega)
                  clear z1
                  go_wp2_with fail
                  rw [HR.out]
                  exact SmallR.no (by unfold smallB; rw [all_no (p := sF) hlt (by rw [← HMM.out]; simp only [sF]; (simp only [decide_eq_true t0, decide_eq_false t1] <;> simp))]; simp) (HX1.out.trans (hext.trans (Ext.alloc _ _)))
              · have d0 : decide ((60 : Int) < (s1.size : Int)) = true := decide_eq_true (by omega)
                clear z1
                go_wp2_with fail
                rw [HR.out]
                exact SmallR.no (by unfold smallB; rw [all_no (p := sF) hlt (by rw [← HMM.out]; simp only [sF]; (simp only [decide_eq_false t0] <;> simp))]; simp) (HX1.out.trans (hext.trans (Ext.alloc _ _)))
            · have hkk : k = p.files.length := by omega
              have ha := hall.out
              rw [hkk, List.take_length] at ha
              have HA2 := Lib.hid ha; clear ha hkk hall
              have HXN := Lib.hid (HX1.out.trans hext)
              have HBN := Lib.hid (hext.heap HBX.out)
              clear HX1 HBX
              have HX1 := HXN
              have HBX := HBN
              clear HXN HBN
              obtain ⟨w3, rfl⟩ : ∃ w3 : World, w3 = wr := ⟨_, rfl⟩
              clear hext hsz hk
              have b3 : w3.cell? ⟨w.heap.size, 5, none⟩ = some (.slice au p.units.length cu) := blk_cell HBX.out 5 _ rfl
              go_wp2_with fail
              clear b3
              go_loopw [95] (fun i wr => ∃ k : Nat, i = .int .i64 k ∧ k ≤ p.units.length ∧ Hid ((p.units.take k).all sU = true) ∧ Ext w3 wr) (fun i _ => p.units.length - (intOf i).toNat)
              case atStart => exact ⟨0, rfl, Nat.zero_le _, Lib.hid (by simp), Ext.refl _⟩
              case round =>
                obtain ⟨k, rfl, hk, hall, hext⟩ := hrel
                have hsz := hext.size
                by_cases hlt : k < p.units.length
                · obtain ⟨g, off, rfl, _, hc⟩ := ((HM.out.units.ext HX1.out).ext hext).at (by intro e; rw [e] at hlt; simp at hlt)
                  have c1 := hc k hlt
                  clear hc
                  obtain ⟨m, hm⟩ : ∃ m, m = p.units.getD k [] := ⟨_, rfl⟩
                  rw [← hm] at c1
                  have HMM := Lib.hid hm; clear hm
                  have z1 := bs_size m
                  generalize bs m = s1 at *
                  by_cases t0 : m.length ≤ 400
                  · have d0 : decide ((400 : Int) < (s1.size : Int)) = false := decide_eq_false (by omega)
                    clear z1
                    go_wp2_with fail
                    go_roundw
                    case rel => exact ⟨k + 1, by go_num, by omega, Lib.hid (all_step hlt hall.out (by rw [← HMM.out]; simp only [sU]; (simp only [decide_eq_true t0] <;> rfl))), hext⟩
                    case measure => simp [intOf]; omega
                  · have d0 : decide ((400 : Int) < (s1.size : Int)) = true := decide_eq_true (by omega)
                    clear z1
                    go_wp2_with fail
                    rw [HR.out]
                    exact SmallR.no (by unfold smallB; rw [all_no (p := sU) hlt (by rw [← HMM.out]; simp only [sU]; (simp only [decide_eq_false t0] <;> simp))]; simp) (HX1.out.trans hext)
                · have hkk : k = p.units.length := by omega
                  have ha := hall.out
                  rw [hkk, List.take_length] at ha
                  have HA3 := Lib.hid ha; clear ha hkk hall
                  go_wp2_with fail
                  rw [HR.out]
                  exact SmallR.yes (by unfold smallB; rw [HH.out, HA0.out, HA1.out, HA2.out, HA3.out]; rfl) (HX1.out.trans hext)
theorem law_small (p : PkgD) (A : PkgA) (w : World) (hM : PkgM w p A) : Calls Tryz.prog 27 #[pkgV p A] w (SmallR p w) := by
  obtain ⟨an, ac, af, au, cn, cc, cf, cu⟩ := A
  cases hh : headS p
  · exact small_head p an ac af au cn cc cf cu w hh
  · exact law_small0 p an ac af au cn cc cf cu w hM hh
end Go.Proofs.YtnclibfhbngkjaaGreatDoor
