/- farrierlaw11.few, count. -/
import Derived.Test.YtnclibfhbngkjaaGreatDoorReadStep
namespace Go.Proofs.YtnclibfhbngkjaaGreatDoor
open Go.RowKit
attribute [local go_sem ↓] Go.wp_at_zero Go.wp_at_succ
def fewB (L : List StepD) : Bool := L.all (fun x => smallB x.1.2) && decide (L.length ≤ 30)
theorem law_count (q : Bool) (w : World) : Calls Tryz.prog 21 #[.bool q] w fun e w' => e = .returned (.int .i64 (if q then 1 else 0)) ∧ w = w' := by
  go_enter Tryz.func21, Tryz.ntmps21
  cases q with
  | true =>
    go_wp2_with fail
    go_ret
    exact ⟨rfl, rfl⟩
  | false =>
    go_wp2_with fail
    go_ret
    exact ⟨rfl, rfl⟩
theorem all_step7 {L : List StepD} {p : StepD → Bool} {k : Nat} (hk : k < L.length) (h : (L.take k).all p = true) (hp : p (L.getD k sz) = true) : (L.take (k + 1)).all p = true := by
  rw [List.take_succ_eq_append_getElem hk, List.all_append, h]
  simp only [List.getD_eq_getElem?_getD, List.getElem?_eq_getElem hk, Option.getD_some] at hp
  simp [hp]
theorem all_no7 {L : List StepD} {p : StepD → Bool} {k : Nat} (hk : k < L.length) (hp : p (L.getD k sz) = false) : L.all p = false := by
  rw [List.all_eq_false]
  refine ⟨L.getD k sz, ?_, by rw [hp]; simp⟩
  rw [List.getD_eq_getElem?_getD, List.getElem?_eq_getElem hk]
  simp
set_option maxRecDepth 100000 in
set_option maxHeartbeats 3200000 in
theorem law_few (a : Option Addr) (c : Nat) (L : List StepD) (w : World) (hL : StepsL w a L) (hl : L.length ≤ 1099511627776) :
    Calls Tryz.prog 9 #[.slice a L.length c] w fun e w' => e = .returned (.bool (fewB L)) ∧ Ext w w' := by
  obtain ⟨R, hR⟩ : ∃ R : Ending → World → Prop, R = fun e w' => e = .returned (.bool (fewB L)) ∧ Ext w w' := ⟨_, rfl⟩
  rw [← hR]
  have HR := Lib.hid hR; clear hR
  have HL := Lib.hid hL; clear hL
  obtain ⟨n, hn⟩ : ∃ n, n = L.length := ⟨_, rfl⟩
  rw [← hn] at hl ⊢
  have HN := Lib.hid hn; clear hn
  go_enter Tryz.func9, Tryz.ntmps9
  go_wp2_with fail
  go_loopw [7] (fun i wr => ∃ k : Nat, i = .int .i64 k ∧ k ≤ n ∧ Hid ((L.take k).all (fun x => smallB x.1.2) = true) ∧ Hid (Ext w wr)) (fun i _ => n - (intOf i).toNat)
  case atStart => exact ⟨0, rfl, Nat.zero_le _, Lib.hid (by simp), Lib.hid (Ext.refl _)⟩
  case round =>
    obtain ⟨k, rfl, hk, hA, hX⟩ := hrel
    by_cases hlt : k < n
    · have hkL : k < L.length := by have := HN.out; omega
      obtain ⟨g, off, rfl, _, ⟨c0, c1, c2, c3, c4, c5, c6⟩, hpm, _⟩ := (HL.out.ext hX.out).at hkL
      obtain ⟨x, hx⟩ : ∃ x, x = L.getD k sz := ⟨_, rfl⟩
      rw [← hx] at c0 c1 c2 c3 c4 c5 c6 hpm
      have HXX := Lib.hid hx; clear hx
      obtain ⟨⟨kd, p⟩, A⟩ := x
      obtain ⟨an, ac, af, au, cn, cq, cf, cu⟩ := A
      simp only at c0 c1 c2 c3 c4 c5 c6 hpm
      go_upto_region 4 with (fail)
      clear c0 c1 c2 c3 c4 c5 c6
      have hx2 := Ext.alloc wr (.cells #[.int .i64 kd, .string (bs p.name), .string (bs p.ver), .slice an p.needs.length cn, .slice ac p.conf.length cq, .slice af p.files.length cf, .slice au p.units.length cu] 33)
      have hf2 := heap_alloc_new wr (.cells #[.int .i64 kd, .string (bs p.name), .string (bs p.ver), .slice an p.needs.length cn, .slice ac p.conf.length cq, .slice af p.files.length cf, .slice au p.units.length cu] 33)
      generalize wr.alloc (.cells #[.int .i64 kd, .string (bs p.name), .string (bs p.ver), .slice an p.needs.length cn, .slice ac p.conf.length cq, .slice af p.files.length cf, .slice au p.units.length cu] 33) = w2 at hx2 hf2 ⊢
      obtain ⟨F, hFF⟩ : ∃ x, x = wr.heap.size := ⟨_, rfl⟩
      rw [← hFF] at hf2 ⊢
      clear hFF
      have d1 := blk_cell hf2 1 (Value.string (bs p.name)) rfl
      have d2 := blk_cell hf2 2 (Value.string (bs p.ver)) rfl
      have d3 := blk_cell hf2 3 (Value.slice an p.needs.length cn) rfl
      have d4 := blk_cell hf2 4 (Value.slice ac p.conf.length cq) rfl
      have d5 := blk_cell hf2 5 (Value.slice af p.files.length cf) rfl
      have d6 := blk_cell hf2 6 (Value.slice au p.units.length cu) rfl
      have hsm := law_small p ⟨an, ac, af, au, cn, cq, cf, cu⟩ w2 (hpm.ext hx2)
      have HX2 := Lib.hid (hX.out.trans hx2); clear hx2 hf2 hpm
      unfold SmallR smallI at hsm
      cases hb : smallB p with
      | false =>
        rw [hb] at hsm
        simp only [Bool.false_eq_true, if_false] at hsm
        have HSM := Lib.hid hsm; clear hsm
        have HNO : Hid (fewB L = false) := Lib.hid (by
          unfold fewB
          rw [all_no7 hkL (by rw [← HXX.out]; exact hb)]
          rfl)
        clear hb
        go_wp2_with (go_at_call 27; refine HSM.out.mono ?_; rintro E w3 ⟨rfl, hx3⟩; have HX3 := Lib.hid hx3; clear hx3)
        rw [HR.out]
        exact ⟨by rw [HNO.out]; rfl, HX2.out.trans HX3.out⟩
      | true =>
        rw [hb] at hsm
        simp only [if_true] at hsm
        have HSM := Lib.hid hsm; clear hsm
        have HB := Lib.hid hb; clear hb
        go_wp2_with (go_at_call 27; refine HSM.out.mono ?_; rintro E w3 ⟨rfl, hx3⟩; have HX3 := Lib.hid hx3; clear hx3)
        exact ⟨⟨k + 1, by go_num, by omega, Lib.hid (all_step7 hkL hA.out (by rw [← HXX.out]; exact HB.out)), Lib.hid (HX2.out.trans HX3.out)⟩, by simp [intOf]; omega⟩
    · obtain rfl : k = n := by omega
      have hA2 := hA.out
      rw [List.take_of_length_le (by have := HN.out; omega)] at hA2
      have hfb : fewB L = decide ((k : Int) ≤ 30) := by
        unfold fewB
        rw [hA2, Bool.true_and, ← HN.out]
        congr 1
        apply propext
        omega
      have HFB := Lib.hid hfb; clear hfb hA2
      go_wp2_with fail
      rw [HR.out]
      exact ⟨by rw [HFB.out]; rfl, hX.out⟩
end Go.Proofs.YtnclibfhbngkjaaGreatDoor
