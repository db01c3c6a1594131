/- UnitTells: the walk of the statement. -/
import Derived.Test.YtedfpoidggpkdaaDoorUnitLinesW
import Derived.Test.YtedfpoidggpkdaaDoorUnitTell
import Derived.Deep.DeepCutAuto
import Derived.Deep.QuietTactic
import Derived.BigQuiet
import Derived.Outline
namespace Go.Proofs.YtedfpoidggpkdaaDoor
open Go.RowKit
attribute [local go_sem ↓] Go.wp_at_zero Go.wp_at_succ
/-- farrierlaw13.has. -/
theorem has_law13 (a : Option Addr) (L : List Bs) (k c : Nat) (s : Bs) (w : World) (hS : Strs w a L) (hk : k ≤ L.length) (hL : L.length ≤ 1099511627776) :
    Calls Tryd.prog 43 #[.slice a k c, .string (bs s)] w fun e w' => e = .returned (.bool (decide (s ∈ L.take k))) ∧ w = w' := by
  have HS := Lib.hid hS; clear hS
  obtain ⟨R, hR⟩ : ∃ R : Ending → World → Prop, R = fun e w' => e = .returned (.bool (decide (s ∈ L.take k))) ∧ w = w' := ⟨_, rfl⟩
  rw [← hR]
  have HR := Lib.hid hR; clear hR
  go_enter Tryd.func43, Tryd.ntmps43
  go_wp2_with fail
  go_loop [9] (fun i => ∃ m : Nat, i = .int .i64 m ∧ m ≤ k ∧ Hid (s ∉ L.take m)) (fun i => k - (intOf i).toNat)
  case atStart => exact ⟨0, rfl, Nat.zero_le _, Lib.hid (by simp)⟩
  case round =>
    obtain ⟨m, rfl, hm, hno⟩ := hrel
    by_cases hlt : m < k
    · have hlt2 : m < L.length := by omega
      obtain ⟨g, off, rfl, _, hc⟩ := HS.out.at (by intro e; rw [e] at hlt2; simp at hlt2)
      have h1 := hc m hlt2
      clear hc
      obtain ⟨p, hp⟩ : ∃ p, p = L.getD m [] := ⟨_, rfl⟩
      rw [← hp] at h1
      have HP := Lib.hid hp; clear hp
      by_cases hps : p = s
      · have hm : s ∈ L.take k := by
          rw [← hps, HP.out, List.getD_eq_getElem?_getD, List.getElem?_eq_getElem hlt2]
          exact List.mem_take_iff_getElem.2 ⟨m, by omega, rfl⟩
        have HM := Lib.hid hm; clear hm
        have hq := bs_beq_eq hps
        clear hps
        go_wp2_with fail
        rw [HR.out]
        exact ⟨ret_bool (by simp [HM.out]), rfl⟩
      · have hq := bs_beq_ne hps
        have HN := Lib.hid (take_mem hlt2 hno.out (by rw [← HP.out]; exact hps))
        clear hps
        go_wp2_with fail
        go_round
        case rel => exact ⟨m + 1, by go_num, by omega, HN⟩
        case measure => simp [intOf]; omega
    · have hkk : m = k := by omega
      have hn := hno.out
      rw [hkk] at hn
      have HN := Lib.hid hn; clear hn hkk
      go_wp2_with fail
      rw [HR.out]
      exact ⟨ret_bool (by simp [HN.out]), rfl⟩
theorem row6 {w : World} {B : Nat} {u : UnitD} {A : Nat → Option Addr} {C : Nat → Nat} {t : TypeId} (h : w.heap[B]? = some (.cells #[.slice (A 1) u.files.length (C 1), .slice (A 2) u.after.length (C 2), .slice (A 3) u.before.length (C 3), .slice (A 4) u.reqs.length (C 4), .slice (A 5) u.wants.length (C 5), .slice (A 6) u.partof.length (C 6)] t (0, 0))) (k : Nat) (hk : k < 6) : w.cell? ⟨B, k, none⟩ = some (.slice (A (k + 1)) (u.row (k + 1)).length (C (k + 1))) := by
  have hf : k = 0 ∨ k = 1 ∨ k = 2 ∨ k = 3 ∨ k = 4 ∨ k = 5 := by omega
  rcases hf with rfl | rfl | rfl | rfl | rfl | rfl <;> exact blk_cell h _ _ rfl
set_option maxRecDepth 100000 in
set_option maxHeartbeats 3200000 in
theorem unit_tells (u : UnitD) (A : Nat → Option Addr) (C : Nat → Nat) (w : World) (hE : EnvN w) (hA : UnitR w u A) (hC : ∀ f, 1 ≤ f → f ≤ 6 → (u.row f).length ≤ C f) :
    Calls Tryd.prog 13 #[unitV u A C] w fun e w' => e = .returned (.bool true) ∧ Ext w w' := by
  obtain ⟨R, hR⟩ : ∃ R : Ending → World → Prop, R = fun e w' => e = .returned (.bool true) ∧ Ext w w' := ⟨_, rfl⟩
  rw [← hR]
  have HR := Lib.hid hR; clear hR
  have HA := Lib.hid hA; clear hA
  have HC := Lib.hid hC; clear hC
  have hnm := fun W => ref_name (bs u.name) W
  rw [bs_data] at hnm
  have HNM := Lib.hid hnm; clear hnm
  unfold unitV
  go_enter Tryd.func13, Tryd.ntmps13
  go_upto_region 3 with (go_at_call 37; refine (alive_13 _ (hE.ext (Ext.alloc _ _))).mono ?_; rintro e w1 ⟨rfl, hx1⟩)
  have hu1 := hx1.heap (heap_alloc_new w (.cells #[.string (bs u.name), .slice (A 1) u.files.length (C 1), .slice (A 2) u.after.length (C 2), .slice (A 3) u.before.length (C 3), .slice (A 4) u.reqs.length (C 4), .slice (A 5) u.wants.length (C 5), .slice (A 6) u.partof.length (C 6), .int .i64 u.retry] 56))
  have d0 : w1.cell? ⟨w.heap.size, 0, none⟩ = some (.string (bs u.name)) := blk_cell hu1 0 _ rfl
  have d1 : w1.cell? ⟨w.heap.size, 1, none⟩ = some (.slice (A 1) u.files.length (C 1)) := blk_cell hu1 1 _ rfl
  have d7 : w1.cell? ⟨w.heap.size, 7, none⟩ = some (.int .i64 u.retry) := blk_cell hu1 7 _ rfl
  have HU1 := Lib.hid hu1; clear hu1
  have HX1 := Lib.hid ((Ext.alloc w _).trans hx1); clear hx1
  go_cut [3] (fun v wx => v = .bool (headB u) ∧ wx = w1)
  case first =>
    cases hn : nameL u.name with
    | false =>
      rw [hn] at HNM
      have HH : Hid (headB u = false) := Lib.hid (by unfold headB; rw [hn]; rfl)
      clear hn
      go_wp2_with (go_at_call 20; refine (HNM.out _).mono ?_; rintro e w2 ⟨rfl, rfl⟩)
      go_meet
      exact ⟨by rw [HH.out], rfl⟩
    | true =>
      rw [hn] at HNM
      have HN := Lib.hid hn; clear hn
      by_cases h0 : 0 ≤ u.retry
      · by_cases h3 : u.retry ≤ 3
        · by_cases hf : 0 < u.files.length
          · have hf1 : decide ((0 : Int) < (u.files.length : Int)) = true := by simp; omega
            have HH : Hid (headB u = true) := Lib.hid (by unfold headB; rw [HN.out, decide_eq_true h0, decide_eq_true h3, decide_eq_true hf]; rfl)
            go_wp2_with (go_at_call 20; refine (HNM.out _).mono ?_; rintro e w2 ⟨rfl, rfl⟩)
            go_meet
            exact ⟨by rw [HH.out], rfl⟩
          · have hf1 : decide ((0 : Int) < (u.files.length : Int)) = false := decide_eq_false (by omega)
            have HH : Hid (headB u = false) := Lib.hid (by unfold headB; rw [decide_eq_false hf]; simp)
            go_wp2_with (go_at_call 20; refine (HNM.out _).mono ?_; rintro e w2 ⟨rfl, rfl⟩)
            go_meet
            exact ⟨by rw [HH.out], rfl⟩
        · have HH : Hid (headB u = false) := Lib.hid (by unfold headB; rw [decide_eq_false h3]; simp)
          go_wp2_with (go_at_call 20; refine (HNM.out _).mono ?_; rintro e w2 ⟨rfl, rfl⟩)
          go_meet
          exact ⟨by rw [HH.out], rfl⟩
      · have HH : Hid (headB u = false) := Lib.hid (by unfold headB; rw [decide_eq_false h0]; simp)
        go_wp2_with (go_at_call 20; refine (HNM.out _).mono ?_; rintro e w2 ⟨rfl, rfl⟩)
        go_meet
        exact ⟨by rw [HH.out], rfl⟩
  case rest =>
    obtain ⟨rfl, rfl⟩ := hcut
    clear d0 d7 HNM
    obtain ⟨hb, hhb⟩ : ∃ hb, hb = headB u := ⟨_, rfl⟩
    rw [← hhb]
    have HHB := Lib.hid hhb; clear hhb
    have d2 : wc.cell? ⟨w.heap.size, 2, none⟩ = some (.slice (A 2) u.after.length (C 2)) := blk_cell HU1.out 2 _ rfl
    have d3 : wc.cell? ⟨w.heap.size, 3, none⟩ = some (.slice (A 3) u.before.length (C 3)) := blk_cell HU1.out 3 _ rfl
    have d4 : wc.cell? ⟨w.heap.size, 4, none⟩ = some (.slice (A 4) u.reqs.length (C 4)) := blk_cell HU1.out 4 _ rfl
    have d5 : wc.cell? ⟨w.heap.size, 5, none⟩ = some (.slice (A 5) u.wants.length (C 5)) := blk_cell HU1.out 5 _ rfl
    have d6 : wc.cell? ⟨w.heap.size, 6, none⟩ = some (.slice (A 6) u.partof.length (C 6)) := blk_cell HU1.out 6 _ rfl
    have hr6 := heap_alloc_new wc (.cells #[.slice (A 1) u.files.length (C 1), .slice (A 2) u.after.length (C 2), .slice (A 3) u.before.length (C 3), .slice (A 4) u.reqs.length (C 4), .slice (A 5) u.wants.length (C 5), .slice (A 6) u.partof.length (C 6)] 23)
    have HR6 := Lib.hid hr6; clear hr6
    go_wp2_with fail
    clear d1 d2 d3 d4 d5 d6
    have HX2 := Lib.hid (HX1.out.trans (Ext.alloc wc (.cells #[.slice (A 1) u.files.length (C 1), .slice (A 2) u.after.length (C 2), .slice (A 3) u.before.length (C 3), .slice (A 4) u.reqs.length (C 4), .slice (A 5) u.wants.length (C 5), .slice (A 6) u.partof.length (C 6)] 23)))
    have HU2 := Lib.hid ((Ext.alloc wc (.cells #[.slice (A 1) u.files.length (C 1), .slice (A 2) u.after.length (C 2), .slice (A 3) u.before.length (C 3), .slice (A 4) u.reqs.length (C 4), .slice (A 5) u.wants.length (C 5), .slice (A 6) u.partof.length (C 6)] 23)).heap HU1.out)
    clear HU1 HX1
    generalize wc.alloc (.cells #[.slice (A 1) u.files.length (C 1), .slice (A 2) u.after.length (C 2), .slice (A 3) u.before.length (C 3), .slice (A 4) u.reqs.length (C 4), .slice (A 5) u.wants.length (C 5), .slice (A 6) u.partof.length (C 6)] 23) = w2 at HR6 HX2 HU2 ⊢
    go_loopw [48, 3] (fun i v wr => ∃ (k : Nat) (b : Bool), i = .int .i64 k ∧ v = .bool b ∧ k ≤ 6 ∧ Hid (b = (hb && rowsB u k)) ∧ Hid (shortU u k) ∧ Hid (Ext w2 wr)) (fun i _ _ => 6 - (intOf i).toNat)
    case atStart => exact ⟨0, hb, rfl, rfl, by omega, Lib.hid (by simp [rowsB]), Lib.hid (fun j hj => by omega), Lib.hid (Ext.refl _)⟩
    case round =>
      obtain ⟨k, b, rfl, rfl, hk, hbk, hsh, hx⟩ := hrel
      by_cases hlt : k < 6
      · have hc := row6 (hx.out.heap HR6.out) k hlt
        have hLC := HC.out (k + 1) (by omega) (by omega)
        have hS : Strs wr (A (k + 1)) (u.row (k + 1)) := ((HA.out (k + 1) (by omega) (by omega)).ext HX2.out).ext hx.out
        obtain ⟨L, hL⟩ : ∃ L, L = u.row (k + 1) := ⟨_, rfl⟩
        obtain ⟨aa, haa⟩ : ∃ a, a = A (k + 1) := ⟨_, rfl⟩
        obtain ⟨cc, hcc⟩ : ∃ c, c = C (k + 1) := ⟨_, rfl⟩
        rw [← hL, ← haa, ← hcc] at hc
        rw [← hL, ← haa] at hS
        rw [← hL, ← hcc] at hLC
        have HL := Lib.hid hL; clear hL haa hcc
        have HS := Lib.hid hS; clear hS
        by_cases h12 : 12 < L.length
        · have h12b : decide ((12 : Int) < (L.length : Int)) = true := decide_eq_true (by omega)
          go_wp2_with fail
          rw [HR.out]
          exact ⟨rfl, HX2.out.trans hx.out⟩
        · have h12b : decide ((12 : Int) < (L.length : Int)) = false := decide_eq_false (by omega)
          go_upto_region 9 with (fail)
          go_cut [3] (fun v wx => v = .bool (b && decide (L.length ≤ 8)) ∧ wx = wr)
          case first =>
            cases b with
            | false => go_wp2_with fail; go_meet; exact ⟨rfl, rfl⟩
            | true =>
              by_cases h8 : L.length ≤ 8
              · have h8b : decide ((L.length : Int) ≤ 8) = true := decide_eq_true (by omega)
                have H8 := Lib.hid (decide_eq_true h8)
                go_wp2_with fail; go_meet; exact ⟨by rw [H8.out]; rfl, rfl⟩
              · have h8b : decide ((L.length : Int) ≤ 8) = false := decide_eq_false (by omega)
                have H8 := Lib.hid (decide_eq_false h8)
                go_wp2_with fail; go_meet; exact ⟨by rw [H8.out]; rfl, rfl⟩
          case rest =>
            obtain ⟨rfl, rfl⟩ := hcut
            obtain ⟨b1, hb1⟩ : ∃ b1, b1 = (b && decide (L.length ≤ 8)) := ⟨_, rfl⟩
            rw [← hb1]
            have HB1 := Lib.hid hb1; clear hb1 hc
            go_wp2_with fail
            go_loopw [64, 3] (fun i v wi => ∃ (m : Nat) (c : Bool), i = .int .i64 m ∧ v = .bool c ∧ m ≤ L.length ∧ Hid (c = (b1 && rowTo (k + 1) L m)) ∧ Hid (∀ s ∈ L.take m, s.length ≤ 60) ∧ Hid (Ext w2 wi) ∧ Hid (Strs wi aa L)) (fun i _ _ => L.length - (intOf i).toNat)
            case atStart => exact ⟨0, b1, rfl, rfl, by omega, Lib.hid (by simp [rowTo]), Lib.hid (by simp), hx, HS⟩
            case round =>
              obtain ⟨m, c, rfl, rfl, hm, hcm, hshm, hxi, HSi⟩ := hrel
              by_cases hlm : m < L.length
              · obtain ⟨g, off, rfl, _, hcl⟩ := HSi.out.at (by intro e; rw [e] at hlm; simp at hlm)
                have hcell := hcl m hlm
                clear hcl
                obtain ⟨p, hp⟩ : ∃ p, p = L.getD m [] := ⟨_, rfl⟩
                rw [← hp] at hcell
                have HP := Lib.hid hp; clear hp
                by_cases h60 : 60 < p.length
                · have h60b : decide ((60 : Int) < ((bs p).size : Int)) = true := decide_eq_true (by rw [bs_size]; omega)
                  go_wp2_with fail
                  rw [HR.out]
                  exact ⟨rfl, HX2.out.trans hxi.out⟩
                · have h60b : decide ((60 : Int) < ((bs p).size : Int)) = false := decide_eq_false (by rw [bs_size]; omega)
                  have HSP := Lib.hid (fun W => split_weak p W)
                  have HNP : Hid (∀ W, Calls Tryd.prog 20 #[.string (bs p)] W fun e w' => e = .returned (.bool (nameL p)) ∧ W = w') := Lib.hid (fun W => by have := ref_name (bs p) W; rwa [bs_data] at this)
                  go_upto_region 16 with (go_at_call 16; refine (HSP.out _).mono ?_; rintro e w3 ⟨sa, sn, sc, sb, rfl, hsr, hx3⟩; have hsr := Lib.hid hsr; have hx3 := Lib.hid hx3)
                  have HHS : Hid (Calls Tryd.prog 43 #[.slice (some ⟨g, off, none⟩) m cc, .string (bs p)] w3 fun e w' => e = .returned (.bool (decide (p ∈ L.take m))) ∧ w3 = w') := Lib.hid (has_law13 _ L m cc p w3 (HSi.out.ext hx3.out) (by omega) (by omega))
                  have hmc : (m : Int) ≤ (cc : Int) := by omega
                  clear h60b
                  have HRT : Hid (∀ c1, c1 = (c && (okW (k + 1) p && !decide (p ∈ L.take m))) → c1 = (b1 && rowTo (k + 1) L (m + 1))) := Lib.hid (fun c1 h => by rw [h, hcm.out, rowTo_succ, ← HP.out, Bool.and_assoc])
                  have HSM : Hid (∀ s ∈ L.take (m + 1), s.length ≤ 60) := Lib.hid (by
                      rw [List.take_succ_eq_append_getElem hlm]
                      intro s hs
                      rcases List.mem_append.1 hs with hs | hs
                      · exact hshm.out s hs
                      · have e1 : s = L[m] := by simpa using hs
                        have e2 : p = L[m] := by rw [HP.out]; simp [List.getD_eq_getElem?_getD, hlm]
                        rw [e1, ← e2]; omega)
                  have HXN := Lib.hid (hxi.out.trans hx3.out)
                  have HSX := Lib.hid (HSi.out.ext hx3.out)
                  clear hcell hcm hshm
                  cases c with
                  | false =>
                    go_wp2_with fail
                    go_roundw
                    case rel => exact ⟨m + 1, _, by go_num, rfl, by omega, Lib.hid (HRT.out _ (rfl)), HSM, HXN, HSX⟩
                    case measure => simp [intOf]; omega
                  | true =>
                    by_cases hk0 : k = 0
                    · have hkb : ((k : Int) == 0) = true := by simp; omega
                      have hkc : decide (0 < k) = false := decide_eq_false (by omega)
                      have HOK : Hid (okW (k + 1) p = (sb && decide (0 < sn))) := Lib.hid (by unfold okW; rw [if_pos (by omega), hsr.out])
                      clear hk0
                      cases sb with
                      | false =>
                        go_wp2_with fail
                        go_roundw
                        case rel => exact ⟨m + 1, _, by go_num, rfl, by omega, Lib.hid (HRT.out _ (by rw [HOK.out]; rfl)), HSM, HXN, HSX⟩
                        case measure => simp [intOf]; omega
                      | true =>
                        by_cases hsn : 0 < sn
                        · have hsb : decide (0 < sn) = true := decide_eq_true (by omega)
                          have HSN := Lib.hid (decide_eq_true hsn)
                          go_wp2_with (first | (go_at_call 20; refine (HNP.out _).mono ?_; rintro e w4 ⟨rfl, rfl⟩) | (go_at_call 43; refine HHS.out.mono ?_; rintro e w4 ⟨rfl, rfl⟩))
                          go_roundw
                          case rel => exact ⟨m + 1, _, by go_num, rfl, by omega, Lib.hid (HRT.out _ (by rw [HOK.out, HSN.out]; simp)), HSM, HXN, HSX⟩
                          case measure => simp [intOf]; omega
                        · have hsb : decide (0 < sn) = false := decide_eq_false (by omega)
                          have HSN := Lib.hid (decide_eq_false hsn)
                          go_wp2_with fail
                          go_roundw
                          case rel => exact ⟨m + 1, _, by go_num, rfl, by omega, Lib.hid (HRT.out _ (by rw [HOK.out, HSN.out]; rfl)), HSM, HXN, HSX⟩
                          case measure => simp [intOf]; omega
                    · have hkb : ((k : Int) == 0) = false := by simp; omega
                      have hkc : decide (0 < k) = true := decide_eq_true (by omega)
                      have HOK : Hid (okW (k + 1) p = nameL p) := Lib.hid (by unfold okW; rw [if_neg (by omega)])
                      clear hk0
                      cases hnp : nameL p with
                      | false =>
                        rw [hnp] at HNP HOK
                        clear hnp
                        go_wp2_with (first | (go_at_call 20; refine (HNP.out _).mono ?_; rintro e w4 ⟨rfl, rfl⟩) | (go_at_call 43; refine HHS.out.mono ?_; rintro e w4 ⟨rfl, rfl⟩))
                        go_roundw
                        case rel => exact ⟨m + 1, _, by go_num, rfl, by omega, Lib.hid (HRT.out _ (by rw [HOK.out]; rfl)), HSM, HXN, HSX⟩
                        case measure => simp [intOf]; omega
                      | true =>
                        rw [hnp] at HNP HOK
                        clear hnp
                        go_wp2_with (first | (go_at_call 20; refine (HNP.out _).mono ?_; rintro e w4 ⟨rfl, rfl⟩) | (go_at_call 43; refine HHS.out.mono ?_; rintro e w4 ⟨rfl, rfl⟩))
                        go_roundw
                        case rel => exact ⟨m + 1, _, by go_num, rfl, by omega, Lib.hid (HRT.out _ (by rw [HOK.out]; simp)), HSM, HXN, HSX⟩
                        case measure => simp [intOf]; omega
              · have hmm : m = L.length := by omega
                have HMM := Lib.hid hmm; clear hmm
                go_wp2_with fail
                go_roundw
                case rel => exact ⟨k + 1, c, by go_num, rfl, by omega, Lib.hid (by rw [hcm.out, HB1.out, hbk.out, rowsB_succ, ← HL.out, HMM.out]; unfold rowB; simp only [Bool.and_assoc]), Lib.hid (by
                  intro j hj
                  by_cases hjk : j < k
                  · exact hsh.out j hjk
                  · have : j = k := by omega
                    subst this
                    rw [← HL.out]
                    have h := hshm.out
                    rw [HMM.out, List.take_length] at h
                    exact ⟨by omega, h⟩), hxi⟩
                case measure => simp [intOf]; omega
      · have hkk : k = 6 := by omega
        have HKK := Lib.hid hkk; clear hkk
        have HBG : Hid (b = goodB u) := Lib.hid (by rw [hbk.out, HKK.out, HHB.out]; rfl)
        have HSH : Hid (shortU u 6) := Lib.hid (by rw [← HKK.out]; exact hsh.out)
        have hu3 := hx.out.heap HU2.out
        have HXW := Lib.hid (HX2.out.trans hx.out)
        clear hbk hsh hx HR6
        have d0 : wr.cell? ⟨w.heap.size, 0, none⟩ = some (.string (bs u.name)) := blk_cell hu3 0 _ rfl
        have d7 : wr.cell? ⟨w.heap.size, 7, none⟩ = some (.int .i64 u.retry) := blk_cell hu3 7 _ rfl
        by_cases h60 : 60 < u.name.length
        · have h60b : decide ((60 : Int) < ((bs u.name).size : Int)) = true := decide_eq_true (by rw [bs_size]; omega)
          go_wp2_with fail
          rw [HR.out]
          exact ⟨rfl, HXW.out⟩
        · have h60b : decide ((60 : Int) < ((bs u.name).size : Int)) = false := decide_eq_false (by rw [bs_size]; omega)
          by_cases h99 : 99 < u.retry
          · have h99b : decide ((99 : Int) < u.retry) = true := decide_eq_true h99
            go_wp2_with fail
            rw [HR.out]
            exact ⟨rfl, HXW.out⟩
          · have h99b : decide ((99 : Int) < u.retry) = false := decide_eq_false h99
            by_cases hm9 : u.retry < -99
            · have hm9b : decide (u.retry < -99) = true := decide_eq_true hm9
              go_wp2_with fail
              rw [HR.out]
              exact ⟨rfl, HXW.out⟩
            · have hm9b : decide (u.retry < -99) = false := decide_eq_false hm9
              have d1 : wr.cell? ⟨w.heap.size, 1, none⟩ = some (.slice (A 1) u.files.length (C 1)) := blk_cell hu3 1 _ rfl
              have d2 : wr.cell? ⟨w.heap.size, 2, none⟩ = some (.slice (A 2) u.after.length (C 2)) := blk_cell hu3 2 _ rfl
              have d3 : wr.cell? ⟨w.heap.size, 3, none⟩ = some (.slice (A 3) u.before.length (C 3)) := blk_cell hu3 3 _ rfl
              have d4 : wr.cell? ⟨w.heap.size, 4, none⟩ = some (.slice (A 4) u.reqs.length (C 4)) := blk_cell hu3 4 _ rfl
              have d5 : wr.cell? ⟨w.heap.size, 5, none⟩ = some (.slice (A 5) u.wants.length (C 5)) := blk_cell hu3 5 _ rfl
              have d6 : wr.cell? ⟨w.heap.size, 6, none⟩ = some (.slice (A 6) u.partof.length (C 6)) := blk_cell hu3 6 _ rfl
              have htl := text_short u HSH.out (by omega) (by omega)
              have htx := unit_text u A C wr (hE.ext HXW.out) (fun f a b => (HA.out f a b).ext HXW.out) (by omega) (by omega)
              have hbad : goodB u = false → ∀ x i, parseU (textU u) = (x, 0, i) → u ≠ x := fun h x i hp => tell_bad hp h
              have hgood : goodB u = true → parseU (textU u) = (u, 0, 0) := fun h => parse_text u ((goodB_spec u).1 h)
              obtain ⟨T, hT⟩ : ∃ T, T = textU u := ⟨_, rfl⟩
              rw [← hT] at htl htx hbad hgood
              rw [← HBG.out] at hbad hgood
              have hrows := parseU_rows T
              obtain ⟨⟨x, m, i⟩, ho⟩ : ∃ o, o = parseU T := ⟨_, rfl⟩
              have hbad2 : b = false → m = 0 → u ≠ x := fun h hm => hbad h x i (by rw [← ho, hm])
              have hgood2 : b = true → u = x ∧ m = 0 := fun h => by
                have e := ho.trans (hgood h)
                simp only [Prod.mk.injEq] at e
                exact ⟨e.1.symm, e.2.1⟩
              have hul : ∀ f, 1 ≤ f → f ≤ 6 → (u.row f).length ≤ 12 := fun f h1 h6 => by
                have := (HSH.out (f - 1) (by omega)).1
                rwa [show f - 1 + 1 = f by omega] at this
              unfold unitV at htx
              have hps := fun W (k : Ext wr W) => unit_parse T (by omega) W (hE.ext (HXW.out.trans k))
              rw [← ho] at hps
              simp only [← ho] at hrows
              have HTX := Lib.hid htx; clear htx
              have HPS := Lib.hid hps; clear hps
              have HBD := Lib.hid hbad2; clear hbad2 hbad
              have HGD := Lib.hid hgood2; clear hgood2 hgood
              have HRW := Lib.hid hrows; clear hrows
              have HUL := Lib.hid hul; clear hul ho hT
              have HU3 := Lib.hid hu3; clear hu3 h60 h99 hm9 htl
              go_wp2_with fail
              refine HTX.out.mono ?_
              rintro e w4 ⟨rfl, hx4⟩
              have HX4 := Lib.hid hx4; clear hx4
              go_wp2_with fail
              refine (HPS.out _ HX4.out).mono ?_
              intro e w5 hp
              obtain ⟨A', C', rfl, hU5, hx5⟩ := hp.strs
              clear hp d0 d1 d2 d3 d4 d5 d6 d7 HTX HPS
              simp only at hU5 ⊢
              have HB1 := Lib.hid ((Ext.alloc w5 (.cells #[.string (bs x.name), .slice (A' 1) x.files.length (C' 1), .slice (A' 2) x.after.length (C' 2), .slice (A' 3) x.before.length (C' 3), .slice (A' 4) x.reqs.length (C' 4), .slice (A' 5) x.wants.length (C' 5), .slice (A' 6) x.partof.length (C' 6), .int .i64 x.retry] 56)).heap (hx5.heap (HX4.out.heap HU3.out)))
              have HB2 := Lib.hid (heap_alloc_new w5 (.cells #[.string (bs x.name), .slice (A' 1) x.files.length (C' 1), .slice (A' 2) x.after.length (C' 2), .slice (A' 3) x.before.length (C' 3), .slice (A' 4) x.reqs.length (C' 4), .slice (A' 5) x.wants.length (C' 5), .slice (A' 6) x.partof.length (C' 6), .int .i64 x.retry] 56))
              have ez : Ext w5 (w5.alloc (.cells #[.string (bs x.name), .slice (A' 1) x.files.length (C' 1), .slice (A' 2) x.after.length (C' 2), .slice (A' 3) x.before.length (C' 3), .slice (A' 4) x.reqs.length (C' 4), .slice (A' 5) x.wants.length (C' 5), .slice (A' 6) x.partof.length (C' 6), .int .i64 x.retry] 56)) := Ext.alloc _ _
              have XZ := Lib.hid (HXW.out.trans (HX4.out.trans (hx5.trans ez)))
              have T2 : Hid (UnitR (w5.alloc (.cells #[.string (bs x.name), .slice (A' 1) x.files.length (C' 1), .slice (A' 2) x.after.length (C' 2), .slice (A' 3) x.before.length (C' 3), .slice (A' 4) x.reqs.length (C' 4), .slice (A' 5) x.wants.length (C' 5), .slice (A' 6) x.partof.length (C' 6), .int .i64 x.retry] 56)) x A') := Lib.hid (hU5.ext ez)
              have T1 : Hid (UnitR (w5.alloc (.cells #[.string (bs x.name), .slice (A' 1) x.files.length (C' 1), .slice (A' 2) x.after.length (C' 2), .slice (A' 3) x.before.length (C' 3), .slice (A' 4) x.reqs.length (C' 4), .slice (A' 5) x.wants.length (C' 5), .slice (A' 6) x.partof.length (C' 6), .int .i64 x.retry] 56)) u A) := Lib.hid (UnitR.ext HA.out XZ.out)
              clear hx5 hU5 ez HX4 HU3 HXW
              unfold unitV
              go_upto_region 22 with fail
              generalize w5.alloc (.cells #[.string (bs x.name), .slice (A' 1) x.files.length (C' 1), .slice (A' 2) x.after.length (C' 2), .slice (A' 3) x.before.length (C' 3), .slice (A' 4) x.reqs.length (C' 4), .slice (A' 5) x.wants.length (C' 5), .slice (A' 6) x.partof.length (C' 6), .int .i64 x.retry] 56) = wz at *
              generalize Value.agg #[.string (bs x.name), .slice (A' 1) x.files.length (C' 1), .slice (A' 2) x.after.length (C' 2), .slice (A' 3) x.before.length (C' 3), .slice (A' 4) x.reqs.length (C' 4), .slice (A' 5) x.wants.length (C' 5), .slice (A' 6) x.partof.length (C' 6), .int .i64 x.retry] = g1
              obtain ⟨b2, hbb2⟩ : ∃ b, b = w5.heap.size := ⟨_, rfl⟩
              rw [← hbb2] at HB2 ⊢
              obtain ⟨b1, hbb1⟩ : ∃ b, b = w.heap.size := ⟨_, rfl⟩
              rw [← hbb1] at HB1 ⊢
              obtain ⟨cs1, hcs1⟩ : ∃ cs, cs = (#[.string (bs u.name), .slice (A 1) u.files.length (C 1), .slice (A 2) u.after.length (C 2), .slice (A 3) u.before.length (C 3), .slice (A 4) u.reqs.length (C 4), .slice (A 5) u.wants.length (C 5), .slice (A 6) u.partof.length (C 6), .int .i64 u.retry] : Array Value) := ⟨_, rfl⟩
              have p1 : unitV u A C = .agg cs1 := by rw [hcs1]; rfl
              have z1 : cs1.size = 8 := by rw [hcs1]; rfl
              have hb1 := HB1.out
              rw [← hcs1] at hb1
              obtain ⟨v1, hv1⟩ : ∃ v : Nat → Value, v = fun j => cs1.getD j (.bool false) := ⟨_, rfl⟩
              have q1 : unitV u A C = .agg #[v1 0, v1 1, v1 2, v1 3, v1 4, v1 5, v1 6, v1 7] := by rw [hv1, hcs1]; rfl
              have l1 : ∀ W, Ext wz W → ∀ j, j < 8 → W.cell? ⟨b1, j, none⟩ = some (v1 j) := fun W k j hj => by rw [hv1]; exact blk_fun (k.heap hb1) z1 j hj
              have c1 : ∀ W, Calls Tryd.prog 41 #[.agg #[v1 0, v1 1, v1 2, v1 3, v1 4, v1 5, v1 6, v1 7]] W (fun e w' => e = .returned (.agg cs1) ∧ Ext W w') := fun W => by rw [← q1, ← p1]; exact plain_13 u A C W
              obtain ⟨cs2, hcs2⟩ : ∃ cs, cs = (#[.string (bs x.name), .slice (A' 1) x.files.length (C' 1), .slice (A' 2) x.after.length (C' 2), .slice (A' 3) x.before.length (C' 3), .slice (A' 4) x.reqs.length (C' 4), .slice (A' 5) x.wants.length (C' 5), .slice (A' 6) x.partof.length (C' 6), .int .i64 x.retry] : Array Value) := ⟨_, rfl⟩
              have p2 : unitV x A' C' = .agg cs2 := by rw [hcs2]; rfl
              have z2 : cs2.size = 8 := by rw [hcs2]; rfl
              have hb2 := HB2.out
              rw [← hcs2] at hb2
              obtain ⟨v2, hv2⟩ : ∃ v : Nat → Value, v = fun j => cs2.getD j (.bool false) := ⟨_, rfl⟩
              have q2 : unitV x A' C' = .agg #[v2 0, v2 1, v2 2, v2 3, v2 4, v2 5, v2 6, v2 7] := by rw [hv2, hcs2]; rfl
              have l2 : ∀ W, Ext wz W → ∀ j, j < 8 → W.cell? ⟨b2, j, none⟩ = some (v2 j) := fun W k j hj => by rw [hv2]; exact blk_fun (k.heap hb2) z2 j hj
              have c2 : ∀ W, Calls Tryd.prog 41 #[.agg #[v2 0, v2 1, v2 2, v2 3, v2 4, v2 5, v2 6, v2 7]] W (fun e w' => e = .returned (.agg cs2) ∧ Ext W w') := fun W => by rw [← q2, ← p2]; exact plain_13 x A' C' W
              have s1 : Hid (∀ W, Ext wz W → Calls Tryd.prog 40 #[.agg cs1, .agg cs2] W (SameR u x W)) := Lib.hid (fun W k => by rw [← p1, ← p2]; exact same_13 u x A A' C C' W (T1.out.ext k) (T2.out.ext k) (fun f h1 h6 => Nat.le_trans (HUL.out f h1 h6) (by decide)))
              have D1 := Lib.hid c1
              have D2 := Lib.hid c2
              clear c1 c2 p1 p2 q1 q2 hv1 hv2 hcs1 hcs2 z1 z2 hb1 hb2 hbb1 hbb2 HB1 HB2 T1 T2 HRW HUL HBG HSH HKK HA HC HHB
              have hb0 : Ext wz wz.drew := (Ext.refl wz).drew
              by_cases hm : m = 0
              · have hmb : ((m : Int) == 0) = true := by simp; omega
                have hmc : ((m : Int) != 0) = false := by simp; omega
                have HM := Lib.hid hm; clear hm
                cases b with
                | false =>
                  have HNE := Lib.hid (HBD.out rfl HM.out)
                  clear HBD HGD
                  go_wp2_with fail
                  go_region_held3 (fun w' => Ext wz w') (first | exact hb0 | assumption)
                    (first
                      | (go_at_call_of 41 (Value.agg #[v1 0, v1 1, v1 2, v1 3, v1 4, v1 5, v1 6, v1 7]); have hS0 := ‹Ext wz _›; refine (D1.out _).mono ?_; rintro e w7 ⟨rfl, hx7⟩; have hS2 := hS0.trans hx7)
                      | (go_at_call_of 41 (Value.agg #[v2 0, v2 1, v2 2, v2 3, v2 4, v2 5, v2 6, v2 7]); have hS0 := ‹Ext wz _›; refine (D2.out _).mono ?_; rintro e w7 ⟨rfl, hx7⟩; have hS2 := hS0.trans hx7)
                      | (go_at_call_of 40 (Value.agg cs1); have hS0 := ‹Ext wz _›; refine (s1.out _ hS0).mono ?_; rintro e w7 ⟨bb, rfl, hbb, hx7⟩; have hbt : bb = false := (by cases bb with | false => rfl | true => exact absurd (hbb.1 rfl) HNE.out); subst hbt; have hS2 := hS0.trans hx7))
                  all_goals
                    go_wp2_with fail
                    rw [HR.out]
                    exact ⟨rfl, XZ.out.trans (by assumption)⟩
                | true =>
                  have HEQ := Lib.hid (HGD.out rfl).1
                  have s1t : Hid (∀ W, Ext wz W → Calls Tryd.prog 40 #[.agg cs1, .agg cs2] W (fun e w' => e = .returned (.bool true) ∧ Ext W w')) := Lib.hid (fun W k => (s1.out W k).mono (by rintro e w7 ⟨bb, rfl, hbb, hx7⟩; exact ⟨by rw [hbb.2 HEQ.out], hx7⟩))
                  clear HBD HGD s1
                  go_wp2_with fail
                  go_region_held3 (fun w' => Ext wz w') (first | exact hb0 | assumption)
                    (first
                      | (go_at_call_of 41 (Value.agg #[v1 0, v1 1, v1 2, v1 3, v1 4, v1 5, v1 6, v1 7]); have hS0 := ‹Ext wz _›; refine (D1.out _).mono ?_; rintro e w7 ⟨rfl, hx7⟩; have hS2 := hS0.trans hx7)
                      | (go_at_call_of 41 (Value.agg #[v2 0, v2 1, v2 2, v2 3, v2 4, v2 5, v2 6, v2 7]); have hS0 := ‹Ext wz _›; refine (D2.out _).mono ?_; rintro e w7 ⟨rfl, hx7⟩; have hS2 := hS0.trans hx7)
                      | (go_at_call_of 40 (Value.agg cs1); have hS0 := ‹Ext wz _›; refine (s1t.out _ hS0).mono ?_; rintro e w7 ⟨rfl, hx7⟩; have hS2 := hS0.trans hx7))
                  all_goals
                    go_wp2_with fail
                    rw [HR.out]
                    exact ⟨rfl, XZ.out.trans (by assumption)⟩
              · have hmb : ((m : Int) == 0) = false := by simp; omega
                have hmc : ((m : Int) != 0) = true := by simp; omega
                have hbf : b = false := by
                  cases b with
                  | false => rfl
                  | true => exact absurd (HGD.out rfl).2 hm
                subst hbf
                clear hm HBD HGD
                go_wp2_with fail
                go_quiet (fail)
                go_wp2_with fail
                rw [HR.out]
                exact ⟨rfl, by first | exact XZ.out.drew | exact XZ.out.drewN _⟩
end Go.Proofs.YtedfpoidggpkdaaDoor
