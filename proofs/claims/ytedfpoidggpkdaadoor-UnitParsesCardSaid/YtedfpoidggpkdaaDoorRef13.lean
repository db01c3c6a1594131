/- farrierref13: the same texts, the same units; has. -/
import Derived.Test.YtedfpoidggpkdaaDoorUnitText
import Derived.Test.YtedfpoidggpkdaaDoorLaw05
import Derived.WalkSpells
import Derived.WalkLawsBesides
import Derived.BigGuardPart
namespace Go.Proofs.YtedfpoidggpkdaaDoor
open Go.RowKit
theorem same13 (a b : Option Addr) (A B : List (List UInt8)) (ca cb : Nat) (w : World) (hA : Strs w a A) (hB : Strs w b B) (hN : A.length ≤ 1099511627776) :
    Calls Tryd.prog 69 #[.slice a A.length ca, .slice b B.length cb] w fun e w' => e = .returned (.bool (decide (A = B))) ∧ Ext w w' := by
  have HA := Lib.hid hA; clear hA
  have HB := Lib.hid hB; clear hB
  obtain ⟨R, hR⟩ : ∃ R : Ending → World → Prop, R = fun e w' => e = .returned (.bool (decide (A = B))) ∧ Ext w w' := ⟨_, rfl⟩
  rw [← hR]
  have HR := Lib.hid hR; clear hR
  go_enter Tryd.func69, Tryd.ntmps69
  by_cases hl : A.length = B.length
  · have hb : ((A.length : Int) != (B.length : Int)) = false := by rw [hl]; simp
    have HLL := Lib.hid hl; clear hl
    go_wp2_with fail
    go_loopw [5] (fun i wr => ∃ k : Nat, k ≤ A.length ∧ i = .int .i64 k ∧ Hid (A.take k = B.take k) ∧ Hid (Ext w wr)) (fun i _ => A.length - (intOf i).toNat)
    case atStart => exact ⟨0, Nat.zero_le _, rfl, Lib.hid (by simp), Lib.hid (Ext.refl _)⟩
    case round =>
      obtain ⟨k, hk, rfl, heq, hx⟩ := hrel
      by_cases hlt : k < A.length
      · have hlt2 : k < B.length := by have := HLL.out; omega
        obtain ⟨g, off, ha, -, hc1⟩ := HA.out.at (by intro e; rw [e] at hlt; simp at hlt)
        obtain ⟨g2, off2, hb2, -, hc2⟩ := HB.out.at (by intro e; rw [e] at hlt2; simp at hlt2)
        subst ha hb2
        have hcell1 := hx.out.cell (hc1 k hlt)
        have hcell2 := hx.out.cell (hc2 k hlt2)
        clear hc1 hc2
        obtain ⟨p, hp⟩ : ∃ p, p = A.getD k [] := ⟨_, rfl⟩
        obtain ⟨q, hq⟩ : ∃ q, q = B.getD k [] := ⟨_, rfl⟩
        rw [← hp] at hcell1
        rw [← hq] at hcell2
        have HPP := Lib.hid hp; clear hp
        have HQQ := Lib.hid hq; clear hq
        by_cases hpq : p = q
        · subst hpq
          go_wp2_with fail
          go_region
          all_goals
            go_wp2_with fail
            go_roundw
            case rel => exact ⟨k + 1, by omega, by go_num, Lib.hid (take_step_eq hlt hlt2 heq.out (by rw [← HPP.out, ← HQQ.out])), Lib.hid hx.out.drew⟩
            case measure => simp [intOf]; omega
        · have hb1 := bs_beq_ne hpq
          have hb2 := bs_bne_ne hpq
          have HPQ := Lib.hid hpq; clear hpq
          go_wp2_with fail
          go_region
          all_goals
            go_wp2_with fail
            rw [HR.out]
            exact ⟨ret_bool (by
              have : A ≠ B := fun e => HPQ.out (by rw [HPP.out, HQQ.out, e])
              simp [this]), hx.out.drew⟩
      · have hkk : k = A.length := by omega
        go_wp2_with fail
        rw [HR.out]
        exact ⟨ret_bool (by
          have h := heq.out
          rw [hkk] at h
          simp [list_same HLL.out h]), hx.out⟩
  · have hb : ((A.length : Int) != (B.length : Int)) = true := by simp; omega
    have HLL := Lib.hid hl; clear hl
    go_wp2_with fail
    rw [HR.out]
    exact ⟨ret_bool (by
      have : A ≠ B := fun e => HLL.out (by rw [e])
      simp [this]), Ext.refl _⟩
theorem unit_ext {u v : UnitD} (h1 : u.name = v.name) (h2 : u.retry = v.retry) (h3 : u.files = v.files) (h4 : ∀ j, j < 5 → u.row (j + 2) = v.row (j + 2)) : u = v := by
  have a := h4 0 (by omega)
  have b := h4 1 (by omega)
  have c := h4 2 (by omega)
  have d := h4 3 (by omega)
  have e := h4 4 (by omega)
  obtain ⟨u1, u2, u3, u4, u5, u6, u7, u8⟩ := u
  obtain ⟨v1, v2, v3, v4, v5, v6, v7, v8⟩ := v
  simp only [UnitD.row] at *
  subst h1 h2 h3 a b c d e
  rfl
set_option maxRecDepth 100000 in
set_option maxHeartbeats 1600000 in
theorem plain_13 (u : UnitD) (A : Nat → Option Addr) (C : Nat → Nat) (w : World) :
    Calls Tryd.prog 41 #[unitV u A C] w fun e w' => e = .returned (unitV u A C) ∧ Ext w w' := by
  obtain ⟨R, hR⟩ : ∃ R : Ending → World → Prop, R = fun e w' => e = .returned (unitV u A C) ∧ Ext w w' := ⟨_, rfl⟩
  rw [← hR]
  have HR := Lib.hid hR; clear hR
  unfold unitV at *
  go_enter Tryd.func41, Tryd.ntmps41
  go_wp2_with fail
  have hg := heap_alloc_new (w.alloc (.cells #[.string (bs u.name), .slice (A 1) u.files.length (C 1), .slice (A 2) u.after.length (C 2), .slice (A 3) u.before.length (C 3), .slice (A 4) u.reqs.length (C 4), .slice (A 5) u.wants.length (C 5), .slice (A 6) u.partof.length (C 6), .int .i64 u.retry] 56)) (.cells #[.string (bs u.name), .slice (A 1) u.files.length (C 1), .slice (A 2) u.after.length (C 2), .slice (A 3) u.before.length (C 3), .slice (A 4) u.reqs.length (C 4), .slice (A 5) u.wants.length (C 5), .slice (A 6) u.partof.length (C 6), .int .i64 u.retry] 61)
  have hxx : Ext w ((w.alloc (.cells #[.string (bs u.name), .slice (A 1) u.files.length (C 1), .slice (A 2) u.after.length (C 2), .slice (A 3) u.before.length (C 3), .slice (A 4) u.reqs.length (C 4), .slice (A 5) u.wants.length (C 5), .slice (A 6) u.partof.length (C 6), .int .i64 u.retry] 56)).alloc (.cells #[.string (bs u.name), .slice (A 1) u.files.length (C 1), .slice (A 2) u.after.length (C 2), .slice (A 3) u.before.length (C 3), .slice (A 4) u.reqs.length (C 4), .slice (A 5) u.wants.length (C 5), .slice (A 6) u.partof.length (C 6), .int .i64 u.retry] 61)) := (Ext.alloc _ _).trans (Ext.alloc _ _)
  rw [World.size_alloc] at hg
  generalize ((w.alloc (.cells #[.string (bs u.name), .slice (A 1) u.files.length (C 1), .slice (A 2) u.after.length (C 2), .slice (A 3) u.before.length (C 3), .slice (A 4) u.reqs.length (C 4), .slice (A 5) u.wants.length (C 5), .slice (A 6) u.partof.length (C 6), .int .i64 u.retry] 56)).alloc (.cells #[.string (bs u.name), .slice (A 1) u.files.length (C 1), .slice (A 2) u.after.length (C 2), .slice (A 3) u.before.length (C 3), .slice (A 4) u.reqs.length (C 4), .slice (A 5) u.wants.length (C 5), .slice (A 6) u.partof.length (C 6), .int .i64 u.retry] 61)) = wf at hg hxx ⊢
  have z0 := blk_cell hg 0 _ rfl
  have z1 := blk_cell hg 1 _ rfl
  have z2 := blk_cell hg 2 _ rfl
  have z3 := blk_cell hg 3 _ rfl
  have z4 := blk_cell hg 4 _ rfl
  have z5 := blk_cell hg 5 _ rfl
  have z6 := blk_cell hg 6 _ rfl
  have z7 := blk_cell hg 7 _ rfl
  refine bodyPost_ret (v := .agg #[.string (bs u.name), .slice (A 1) u.files.length (C 1), .slice (A 2) u.after.length (C 2), .slice (A 3) u.before.length (C 3), .slice (A 4) u.reqs.length (C 4), .slice (A 5) u.wants.length (C 5), .slice (A 6) u.partof.length (C 6), .int .i64 u.retry]) (by simp [results, Tryd.results41, go_sem, z0, z1, z2, z3, z4, z5, z6, z7]) rfl ?_
  rw [HR.out]
  exact ⟨rfl, hxx⟩
theorem ucell61 {w : World} {B : Nat} {u : UnitD} {A : Nat → Option Addr} {C : Nat → Nat} (h : w.heap[B]? = some (.cells #[.string (bs u.name), .slice (A 1) u.files.length (C 1), .slice (A 2) u.after.length (C 2), .slice (A 3) u.before.length (C 3), .slice (A 4) u.reqs.length (C 4), .slice (A 5) u.wants.length (C 5), .slice (A 6) u.partof.length (C 6), .int .i64 u.retry] 61 (0, 0))) (f : Nat) (h1 : 1 ≤ f) (h6 : f ≤ 6) : w.cell? ⟨B, f, none⟩ = some (.slice (A f) (u.row f).length (C f)) := by
  have hf : f = 1 ∨ f = 2 ∨ f = 3 ∨ f = 4 ∨ f = 5 ∨ f = 6 := by omega
  rcases hf with rfl | rfl | rfl | rfl | rfl | rfl <;> exact blk_cell h _ _ rfl
/-- 'Same': just the same units are the same. -/
def SameR (u v : UnitD) (w : World) (e : Ending) (w' : World) : Prop := ∃ b, e = .returned (.bool b) ∧ (b = true ↔ u = v) ∧ Ext w w'
theorem SameR.no {u v : UnitD} {w w' : World} (h : u ≠ v) (k : Ext w w') : SameR u v w (.returned (.bool false)) w' := ⟨false, rfl, ⟨fun e => (by cases e), fun e => absurd e h⟩, k⟩
theorem SameR.yes {u v : UnitD} {w w' : World} (h : u = v) (k : Ext w w') : SameR u v w (.returned (.bool true)) w' := ⟨true, rfl, ⟨fun _ => h, fun _ => rfl⟩, k⟩
set_option maxRecDepth 100000 in
set_option maxHeartbeats 3200000 in
theorem same_13 (u v : UnitD) (A A' : Nat → Option Addr) (C C' : Nat → Nat) (w : World) (hA : UnitR w u A) (hB : UnitR w v A') (hl : ∀ f, 1 ≤ f → f ≤ 6 → (u.row f).length ≤ 1099511627776) :
    Calls Tryd.prog 40 #[unitV u A C, unitV v A' C'] w (SameR u v w) := by
  obtain ⟨R, hR⟩ : ∃ R : Ending → World → Prop, R = SameR u v w := ⟨_, rfl⟩
  rw [← hR]
  have HR := Lib.hid hR; clear hR
  have HA := Lib.hid hA; clear hA
  have HB := Lib.hid hB; clear hB
  have HL := Lib.hid hl; clear hl
  have hfs := fun W (k : Ext w W) => same13 (A 1) (A' 1) u.files v.files (C 1) (C' 1) W ((HA.out 1 (by omega) (by omega)).ext k) ((HB.out 1 (by omega) (by omega)).ext k) (HL.out 1 (by omega) (by omega))
  unfold unitV at *
  by_cases h1 : u.name = v.name
  · by_cases h2 : u.retry = v.retry
    · have h1b := bs_bne_eq h1
      have h1c := bs_beq_eq h1
      have h2b : (u.retry != v.retry) = false := by simpa using h2
      have h2c : (u.retry == v.retry) = true := by simpa using h2
      by_cases h3 : u.files = v.files
      · rw [decide_eq_true h3] at hfs
        have H1 := Lib.hid h1; clear h1
        have H2 := Lib.hid h2; clear h2
        have H3 := Lib.hid h3; clear h3
        have HF := Lib.hid hfs; clear hfs
        go_enter Tryd.func40, Tryd.ntmps40
        go_wp2_with (go_at_call 69; refine (HF.out _ ((Ext.alloc _ _).trans (Ext.alloc _ _))).mono ?_; rintro e w1 ⟨rfl, hx1⟩; have hx1 := Lib.hid hx1)
        have hu1 := hx1.out.heap ((Ext.alloc _ _).heap (heap_alloc_new w (.cells #[.string (bs u.name), .slice (A 1) u.files.length (C 1), .slice (A 2) u.after.length (C 2), .slice (A 3) u.before.length (C 3), .slice (A 4) u.reqs.length (C 4), .slice (A 5) u.wants.length (C 5), .slice (A 6) u.partof.length (C 6), .int .i64 u.retry] 61)))
        have hv1 := hx1.out.heap (heap_alloc_new (w.alloc (.cells #[.string (bs u.name), .slice (A 1) u.files.length (C 1), .slice (A 2) u.after.length (C 2), .slice (A 3) u.before.length (C 3), .slice (A 4) u.reqs.length (C 4), .slice (A 5) u.wants.length (C 5), .slice (A 6) u.partof.length (C 6), .int .i64 u.retry] 61)) (.cells #[.string (bs v.name), .slice (A' 1) v.files.length (C' 1), .slice (A' 2) v.after.length (C' 2), .slice (A' 3) v.before.length (C' 3), .slice (A' 4) v.reqs.length (C' 4), .slice (A' 5) v.wants.length (C' 5), .slice (A' 6) v.partof.length (C' 6), .int .i64 v.retry] 61))
        rw [World.size_alloc] at hv1
        have HU1 := Lib.hid hu1; clear hu1
        have HV1 := Lib.hid hv1; clear hv1
        have hxw : Ext w w1 := ((Ext.alloc _ _).trans (Ext.alloc _ _)).trans hx1.out
        have HXW := Lib.hid hxw; clear hxw hx1
        clear h1b h1c h2b h2c
        go_loopw [5] (fun i wr => ∃ k : Nat, k ≤ 5 ∧ i = .int .i64 k ∧ Hid (∀ j, j < k → u.row (j + 2) = v.row (j + 2)) ∧ Hid (Ext w1 wr)) (fun i _ => 5 - (intOf i).toNat)
        case atStart => exact ⟨0, by omega, rfl, Lib.hid (fun j hj => by omega), Lib.hid (Ext.refl _)⟩
        case round =>
          obtain ⟨k, hk, rfl, heq, hx⟩ := hrel
          by_cases hlt : k < 5
          · have hc1 := ucell61 (hx.out.heap HU1.out) (k + 2) (by omega) (by omega)
            have hc2 := ucell61 (hx.out.heap HV1.out) (k + 2) (by omega) (by omega)
            rw [Nat.add_comm k 2] at hc1 hc2
            have hsm := fun W (q : Ext w W) => same13 (A (k + 2)) (A' (k + 2)) (u.row (k + 2)) (v.row (k + 2)) (C (k + 2)) (C' (k + 2)) W ((HA.out (k + 2) (by omega) (by omega)).ext q) ((HB.out (k + 2) (by omega) (by omega)).ext q) (HL.out (k + 2) (by omega) (by omega))
            rw [Nat.add_comm k 2] at hsm
            by_cases he : u.row (2 + k) = v.row (2 + k)
            · rw [decide_eq_true he] at hsm
              have HSM := Lib.hid hsm; clear hsm
              have HE := Lib.hid he; clear he
              go_wp2_with fail
              go_region_with (go_at_call 69; refine (HSM.out _ (HXW.out.trans hx.out.drew)).mono ?_; rintro e w2 ⟨rfl, hx2⟩; have hx2 := Lib.hid hx2)
              all_goals
                go_wp2_with fail
                go_roundw
                case rel => exact ⟨k + 1, by omega, by go_num, Lib.hid (fun j hj => by
                  by_cases hjk : j < k
                  · exact heq.out j hjk
                  · have : j = k := by omega
                    subst this; rw [Nat.add_comm]; exact HE.out), Lib.hid (hx.out.drew.trans hx2.out)⟩
                case measure => simp [intOf]; omega
            · rw [decide_eq_false he] at hsm
              have HSM := Lib.hid hsm; clear hsm
              have hn : u ≠ v := fun e => he (by rw [e])
              have HN := Lib.hid hn; clear hn he
              go_wp2_with fail
              go_region_with (go_at_call 69; refine (HSM.out _ (HXW.out.trans hx.out.drew)).mono ?_; rintro e w2 ⟨rfl, hx2⟩; have hx2 := Lib.hid hx2)
              all_goals
                go_wp2_with fail
                rw [HR.out]
                exact SameR.no HN.out (HXW.out.trans (hx.out.drew.trans hx2.out))
          · have hkk : k = 5 := by omega
            subst hkk
            go_wp2_with fail
            rw [HR.out]
            exact SameR.yes (unit_ext H1.out H2.out H3.out heq.out) (HXW.out.trans hx.out)
      · rw [decide_eq_false h3] at hfs
        have hn : u ≠ v := fun e => h3 (by rw [e])
        have HN := Lib.hid hn; clear hn h3
        have H1 := Lib.hid h1; clear h1
        have H2 := Lib.hid h2; clear h2
        have HF := Lib.hid hfs; clear hfs
        go_enter Tryd.func40, Tryd.ntmps40
        go_wp2_with (go_at_call 69; refine (HF.out _ ((Ext.alloc _ _).trans (Ext.alloc _ _))).mono ?_; rintro e w1 ⟨rfl, hx1⟩; have hx1 := Lib.hid hx1)
        rw [HR.out]
        exact SameR.no HN.out (((Ext.alloc _ _).trans (Ext.alloc _ _)).trans hx1.out)
    · have h2b : (u.retry != v.retry) = true := by simpa using h2
      have h2c : (u.retry == v.retry) = false := by simpa using h2
      have hn : u ≠ v := fun e => h2 (by rw [e])
      have HN := Lib.hid hn; clear hn h2
      have h1b := bs_bne_eq h1
      have h1c := bs_beq_eq h1
      have H1 := Lib.hid h1; clear h1
      have HF := Lib.hid hfs; clear hfs
      go_enter Tryd.func40, Tryd.ntmps40
      go_wp2_with fail
      rw [HR.out]
      exact SameR.no HN.out ((Ext.alloc _ _).trans (Ext.alloc _ _))
  · have h1b := bs_bne_ne h1
    have h1c := bs_beq_ne h1
    have hn : u ≠ v := fun e => h1 (by rw [e])
    have HN := Lib.hid hn; clear hn h1
    have HF := Lib.hid hfs; clear hfs
    go_enter Tryd.func40, Tryd.ntmps40
    go_wp2_with fail
    rw [HR.out]
    exact SameR.no HN.out ((Ext.alloc _ _).trans (Ext.alloc _ _))
end Go.Proofs.YtedfpoidggpkdaaDoor
