/- farrierlaw12.Small: are changes small? -/
import Derived.Test.YtnclibfhbngkjaaGreatDoorReadChg
import Derived.Test.YtnclibfhbngkjaaGreatDoorArcSmall
namespace Go.Proofs.YtnclibfhbngkjaaGreatDoor
open Go.RowKit
attribute [local go_sem ↓] Go.wp_at_zero Go.wp_at_succ
def smallCh (x : ChD × ChA) : Bool := x.1.come.all (fun p => smallB p.1) && x.1.go.all (fun s => decide (s.length ≤ 60))
def lenCh (x : ChD × ChA) : Nat := x.1.come.length + x.1.go.length
def sumCh (L : List (ChD × ChA)) : Nat := (L.map lenCh).sum
def smallAll (L : List (ChD × ChA)) : Bool := L.all smallCh && (decide (sumCh L ≤ 60) && decide (L.length ≤ 30))
theorem sumCh_take {L : List (ChD × ChA)} {k : Nat} (h : k < L.length) : sumCh (L.take (k + 1)) = sumCh (L.take k) + lenCh (L.getD k cz) := by
  unfold sumCh
  rw [List.take_succ_eq_append_getElem h, List.map_append, List.sum_append]
  simp [List.getD_eq_getElem?_getD, List.getElem?_eq_getElem h]
theorem sumCh_le {w : World} {a : Option Addr} {L : List (ChD × ChA)} (hL : ChL w a L) : ∀ k, k ≤ L.length → sumCh (L.take k) ≤ k * 9895604649984
  | 0, _ => by simp [sumCh]
  | k + 1, h => by
    have ih := sumCh_le hL k (by omega)
    obtain ⟨_, _, _, _, _, hm⟩ := hL.at (i := k) (by omega)
    rw [sumCh_take (by omega)]
    have h1 := hm.cl
    have h2 := hm.gl
    unfold lenCh
    omega
/-- What Small answers. -/
def SmallsR (L : List (ChD × ChA)) (w : World) (e : Ending) (w' : World) : Prop := e = .returned (.int .i64 (if smallAll L then 1 else 0)) ∧ Ext w w'
set_option maxRecDepth 100000 in
set_option maxHeartbeats 6400000 in
theorem dep_small (a : Option Addr) (c : Nat) (L : List (ChD × ChA)) (w : World) (hL : ChL w a L) (hl : L.length ≤ 4398046511104) : Calls Tryz.prog 23 #[.slice a L.length c] w (SmallsR L w) := by
  obtain ⟨R, hR⟩ : ∃ R, R = SmallsR L w := ⟨_, rfl⟩
  rw [← hR]
  have HR := Lib.hid hR; clear hR
  have HL := Lib.hid hL; clear hL
  obtain ⟨n, hn⟩ : ∃ n, n = L.length := ⟨_, rfl⟩
  rw [← hn] at hl ⊢
  have HN := Lib.hid hn; clear hn
  go_enter Tryz.func23, Tryz.ntmps23
  go_wp2_with fail
  go_loopw [3, 12] (fun s i wr => ∃ (k : Nat) (z : Int), s = .int .i64 z ∧ i = .int .i64 k ∧ k ≤ n ∧ Hid ((L.take k).all smallCh = true) ∧ Hid (n ≤ 30 → z = (sumCh (L.take k) : Nat)) ∧ Hid (Ext w wr)) (fun _ i _ => n - (intOf i).toNat)
  case atStart => exact ⟨0, 0, rfl, rfl, Nat.zero_le _, Lib.hid (by simp), Lib.hid (fun _ => by simp [sumCh]), Lib.hid (Ext.refl _)⟩
  case round =>
    obtain ⟨k, z, rfl, rfl, hk, hA, hZ, hX⟩ := hrel
    by_cases hlt : k < n
    · have hkL : k < L.length := by have := HN.out; omega
      obtain ⟨g, off, rfl, _, ⟨c0, c1⟩, hm⟩ := (HL.out.ext hX.out).at hkL
      have hsl := sumCh_le HL.out k (by omega)
      have hst := sumCh_take hkL
      obtain ⟨x, hx⟩ : ∃ x, x = L.getD k cz := ⟨_, rfl⟩
      rw [← hx] at c0 c1 hm hst
      obtain ⟨⟨come, go⟩, ⟨ca, cc, ga, gc⟩⟩ := x
      simp only at c0 c1
      have hcl : come.length ≤ 1099511627776 := hm.cl
      have hgl : go.length ≤ 8796093022208 := hm.gl
      have HXX := Lib.hid hx; clear hx
      have HM := Lib.hid hm; clear hm
      go_upto_region 5 with (fail)
      clear c0 c1
      have hx5 := Ext.alloc wr (.cells #[.slice ca come.length cc, .slice ga go.length gc] 61)
      have hf5 := heap_alloc_new wr (.cells #[.slice ca come.length cc, .slice ga go.length gc] 61)
      generalize wr.alloc (.cells #[.slice ca come.length cc, .slice ga go.length gc] 61) = w5 at hx5 hf5 ⊢
      obtain ⟨F, hFF⟩ : ∃ x, x = wr.heap.size := ⟨_, rfl⟩
      rw [← hFF] at hf5 ⊢
      clear hFF
      have HF5 := Lib.hid hf5
      have d0 := blk_cell hf5 0 (Value.slice ca come.length cc) rfl
      have d1 := blk_cell hf5 1 (Value.slice ga go.length gc) rfl
      have HX5 := Lib.hid (hX.out.trans hx5)
      have HM5 := Lib.hid (HM.out.ext hx5); clear hx5 hf5
      have hz2 : n ≤ 30 → IntKind.i64.wrap (z + ((come.length : Int) + (go.length : Int))) = (sumCh (L.take (k + 1)) : Nat) := by
        intro h30
        have h1 := hZ.out h30
        have h2 : lenCh (⟨come, go⟩, ⟨ca, cc, ga, gc⟩) = come.length + go.length := rfl
        rw [h2] at hst
        rw [h1, hst, IntWalk.i64_in _ (by omega)]
        omega
      have HZ2 := Lib.hid hz2; clear hz2 hst hsl
      go_wp2_with fail
      clear d0 d1
      go_loopw [28] (fun i wr => ∃ j : Nat, i = .int .i64 j ∧ j ≤ come.length ∧ Hid ((come.take j).all (fun p => smallB p.1) = true) ∧ Hid (Ext w5 wr)) (fun i _ => come.length - (intOf i).toNat)
      case atStart => exact ⟨0, rfl, Nat.zero_le _, Lib.hid (by simp), Lib.hid (Ext.refl _)⟩
      case round =>
        obtain ⟨j, rfl, hj, hC, hXj⟩ := hrel
        by_cases hjl : j < come.length
        · obtain ⟨g2, off2, hca, _, ⟨a0, a1, a2, a3, a4, a5⟩, hpm, hpc⟩ := (HM5.out.come.ext hXj.out).at hjl
          simp only at hca
          subst hca
          obtain ⟨x, hx⟩ : ∃ x, x = come.getD j ez := ⟨_, rfl⟩
          rw [← hx] at a0 a1 a2 a3 a4 a5 hpm hpc
          have HXP := Lib.hid hx; clear hx
          obtain ⟨p, A⟩ := x
          obtain ⟨an, ac, af, au, cn, cq, cf, cu⟩ := A
          simp only at a0 a1 a2 a3 a4 a5 hpm hpc
          clear hpc
          go_upto_region 9 with (fail)
          clear a0 a1 a2 a3 a4 a5
          have hx6 := Ext.alloc wr (.cells #[.string (bs p.name), .string (bs p.ver), .slice an p.needs.length cn, .slice ac p.conf.length cq, .slice af p.files.length cf, .slice au p.units.length cu] 31)
          have hf6 := heap_alloc_new wr (.cells #[.string (bs p.name), .string (bs p.ver), .slice an p.needs.length cn, .slice ac p.conf.length cq, .slice af p.files.length cf, .slice au p.units.length cu] 31)
          generalize wr.alloc (.cells #[.string (bs p.name), .string (bs p.ver), .slice an p.needs.length cn, .slice ac p.conf.length cq, .slice af p.files.length cf, .slice au p.units.length cu] 31) = w6 at hx6 hf6 ⊢
          obtain ⟨G, hGG⟩ : ∃ x, x = wr.heap.size := ⟨_, rfl⟩
          rw [← hGG] at hf6 ⊢
          clear hGG
          have f0 := blk_cell hf6 0 (Value.string (bs p.name)) rfl
          have f1 := blk_cell hf6 1 (Value.string (bs p.ver)) rfl
          have f2 := blk_cell hf6 2 (Value.slice an p.needs.length cn) rfl
          have f3 := blk_cell hf6 3 (Value.slice ac p.conf.length cq) rfl
          have f4 := blk_cell hf6 4 (Value.slice af p.files.length cf) rfl
          have f5 := blk_cell hf6 5 (Value.slice au p.units.length cu) rfl
          have HX6 := Lib.hid (hXj.out.trans hx6)
          have hsm := law_small p ⟨an, ac, af, au, cn, cq, cf, cu⟩ w6 (hpm.ext hx6)
          clear hx6 hf6 hpm
          unfold SmallR smallI at hsm
          cases hb : smallB p with
          | false =>
            rw [hb] at hsm
            simp only [Bool.false_eq_true, if_false] at hsm
            have HSM := Lib.hid hsm; clear hsm
            have HBB : Hid (smallAll L = false) := Lib.hid (by
              unfold smallAll
              rw [all_no (d := cz) hkL (by rw [← HXX.out]; unfold smallCh; simp only; rw [all_no (d := ez) hjl (by rw [← HXP.out]; exact hb)]; rfl)]
              rfl)
            clear hb
            go_wp2_with (go_at_call 27; refine HSM.out.mono ?_; rintro E w7 ⟨rfl, hx7⟩; have HX7 := Lib.hid hx7; clear hx7)
            rw [HR.out]
            exact ⟨by rw [HBB.out]; rfl, HX5.out.trans (HX6.out.trans HX7.out)⟩
          | true =>
            rw [hb] at hsm
            simp only [if_true] at hsm
            have HSM := Lib.hid hsm; clear hsm
            have HBB := Lib.hid hb; clear hb
            go_wp2_with (go_at_call 27; refine HSM.out.mono ?_; rintro E w7 ⟨rfl, hx7⟩; have HX7 := Lib.hid hx7; clear hx7)
            refine ⟨⟨j + 1, by go_num, by omega, Lib.hid (all_step (d := ez) hjl hC.out (by rw [← HXP.out]; exact HBB.out)), Lib.hid (HX6.out.trans HX7.out)⟩, by simp [intOf]; omega⟩
        · obtain rfl : j = come.length := by omega
          have hCn := hC.out
          rw [List.take_length] at hCn
          have HCN := Lib.hid hCn; clear hCn
          have d1 := blk_cell (hXj.out.heap HF5.out) 1 (Value.slice ga go.length gc) rfl
          go_wp2_with fail
          clear d1
          obtain ⟨wo, rfl⟩ : ∃ wo : World, wo = wr := ⟨_, rfl⟩
          go_loopw [39] (fun i wr => ∃ j : Nat, i = .int .i64 j ∧ j ≤ go.length ∧ Hid ((go.take j).all (fun s => decide (s.length ≤ 60)) = true) ∧ Hid (Ext w5 wr)) (fun i _ => go.length - (intOf i).toNat)
          case atStart => exact ⟨0, rfl, Nat.zero_le _, Lib.hid (by simp), hXj⟩
          case round =>
            obtain ⟨j, rfl, hj2, hG, hXg⟩ := hrel
            by_cases hjl : j < go.length
            · obtain ⟨g2, off2, hga, _, hcs⟩ := (HM5.out.go.ext hXg.out).at (by intro e; simp only at e; rw [e] at hjl; simp at hjl)
              simp only at hga hcs
              subst hga
              have a0 := hcs j hjl
              clear hcs
              obtain ⟨x, hx⟩ : ∃ x, x = go.getD j [] := ⟨_, rfl⟩
              rw [← hx] at a0
              have HXP := Lib.hid hx; clear hx
              by_cases h60 : x.length ≤ 60
              · have hd : decide ((60 : Int) < ((bs x).size : Int)) = false := decide_eq_false (by rw [bs_size]; omega)
                have H60 := Lib.hid h60; clear h60
                go_wp2_with fail
                refine ⟨⟨j + 1, by go_num, by omega, Lib.hid (all_step (d := []) hjl hG.out (by rw [← HXP.out]; exact decide_eq_true H60.out)), hXg⟩, by simp [intOf]; omega⟩
              · have hd : decide ((60 : Int) < ((bs x).size : Int)) = true := decide_eq_true (by rw [bs_size]; omega)
                have HBB : Hid (smallAll L = false) := Lib.hid (by
                  unfold smallAll
                  rw [all_no (d := cz) hkL (by rw [← HXX.out]; unfold smallCh; simp only; rw [all_no (L := go) (d := []) (p := fun s => decide (s.length ≤ 60)) hjl (by rw [← HXP.out]; exact decide_eq_false h60), Bool.and_false])]
                  rfl)
                clear h60
                go_wp2_with fail
                rw [HR.out]
                exact ⟨by rw [HBB.out]; rfl, HX5.out.trans hXg.out⟩
            · obtain rfl : j = go.length := by omega
              go_wp2_with fail
              refine ⟨⟨k + 1, _, rfl, by go_num, by omega, Lib.hid (all_step (d := cz) hkL hA.out ?_), Lib.hid ?_, Lib.hid (HX5.out.trans hXg.out)⟩, by simp [intOf]; omega⟩
              · rw [← HXX.out]
                unfold smallCh
                simp only
                have h := hG.out
                rw [List.take_length] at h
                rw [HCN.out, h]
                rfl
              · intro h30
                have h1 := HZ2.out h30
                rw [IntKind.wrap_i64] at h1
                rw [← h1]
                unfold wrap64
                omega
    · obtain rfl : k = n := by omega
      have hAn := hA.out
      rw [List.take_of_length_le (by have := HN.out; omega)] at hAn
      have HAN := Lib.hid hAn; clear hAn
      by_cases h30 : k ≤ 30
      · have hz := hZ.out h30
        rw [List.take_of_length_le (by have := HN.out; omega)] at hz
        have hdl : decide ((30 : Int) < (k : Int)) = false := decide_eq_false (by omega)
        by_cases h60 : sumCh L ≤ 60
        · have hds : decide ((60 : Int) < z) = false := decide_eq_false (by omega)
          have HY : Hid (smallAll L = true) := Lib.hid (by unfold smallAll; rw [HAN.out, decide_eq_true h60, ← HN.out, decide_eq_true h30]; rfl)
          clear hz h60 h30
          go_wp2_with fail
          rw [HR.out]
          exact ⟨by rw [HY.out]; rfl, hX.out⟩
        · have hds : decide ((60 : Int) < z) = true := decide_eq_true (by omega)
          have HY : Hid (smallAll L = false) := Lib.hid (by unfold smallAll; rw [decide_eq_false h60]; simp)
          clear hz h60 h30
          go_wp2_with fail
          rw [HR.out]
          exact ⟨by rw [HY.out]; rfl, hX.out⟩
      · have hdl : decide ((30 : Int) < (k : Int)) = true := decide_eq_true (by omega)
        have HY : Hid (smallAll L = false) := Lib.hid (by unfold smallAll; rw [← HN.out, decide_eq_false h30]; simp)
        clear h30
        by_cases h60 : (60 : Int) < z
        · have hds : decide ((60 : Int) < z) = true := decide_eq_true h60
          clear h60
          go_wp2_with fail
          rw [HR.out]
          exact ⟨by rw [HY.out]; rfl, hX.out⟩
        · have hds : decide ((60 : Int) < z) = false := decide_eq_false h60
          clear h60
          go_wp2_with fail
          rw [HR.out]
          exact ⟨by rw [HY.out]; rfl, hX.out⟩
theorem le_sum_of_mem : ∀ (l : List Nat) (n : Nat), n ∈ l → n ≤ l.sum
  | x :: l, n, h => by
    rw [List.sum_cons]
    rcases List.mem_cons.1 h with rfl | h
    · omega
    · have := le_sum_of_mem l n h; omega
theorem smallAll_get {L : List (ChD × ChA)} (h : smallAll L = true) {x : ChD × ChA} (hx : x ∈ L) : (∀ p ∈ x.1.come, SmallP p.1) ∧ (∀ s ∈ x.1.go, s.length ≤ 60) ∧ x.1.come.length + x.1.go.length ≤ 60 := by
  unfold smallAll at h
  simp only [Bool.and_eq_true, decide_eq_true_eq] at h
  obtain ⟨h1, h2, h3⟩ := h
  have hx1 := (List.all_eq_true.1 h1) x hx
  unfold smallCh at hx1
  simp only [Bool.and_eq_true, List.all_eq_true, decide_eq_true_eq] at hx1
  refine ⟨fun p hp => smallB_fit (hx1.1 p hp), hx1.2, ?_⟩
  have : lenCh x ≤ sumCh L := by
    unfold sumCh
    exact le_sum_of_mem _ _ (List.mem_map.2 ⟨x, hx, rfl⟩)
  unfold lenCh at this
  omega
end Go.Proofs.YtnclibfhbngkjaaGreatDoor
