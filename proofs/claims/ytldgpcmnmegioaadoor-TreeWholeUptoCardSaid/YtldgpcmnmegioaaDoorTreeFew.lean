/- farrierlaw06.few. -/
import Derived.Test.YtldgpcmnmegioaaDoorTreeAt
namespace Go.Proofs.YtldgpcmnmegioaaDoor
open Go.RowKit
/-- Operations that are done at once, and where they lie; of the numbers that are taken away where they lie alone. -/
structure BatchD where
  L : List (OpD × OpA)
  a : Option Addr
  c : Nat
  ra : Option Addr
  rn : Nat
  rc : Nat
def BatchAt (w : World) (g off : Nat) (x : BatchD) : Prop :=
  (w.cell? ⟨g, off, none⟩ = some (.slice x.a x.L.length x.c) ∧ w.cell? ⟨g, off + 1, none⟩ = some (.slice x.ra x.rn x.rc)) ∧ OpsL w x.a x.L
theorem BatchAt.ext {w w' : World} {g off : Nat} {x : BatchD} (h : BatchAt w g off x) (k : Ext w w') : BatchAt w' g off x := ⟨⟨k.cell h.1.1, k.cell h.1.2⟩, h.2.ext k⟩
def bz : BatchD := ⟨[], none, 0, none, 0, 0⟩
def BatchL (w : World) (a : Option Addr) (B : List BatchD) : Prop :=
  B = [] ∨ ∃ g off, a = some ⟨g, off, none⟩ ∧ g < w.heap.size ∧ ∀ i, i < B.length → BatchAt w g (off + i * 2) (B.getD i bz)
theorem BatchL.ext {w w' : World} {a : Option Addr} {B : List BatchD} (h : BatchL w a B) (k : Ext w w') : BatchL w' a B := by
  rcases h with h | ⟨g, off, ha, hg, hc⟩
  · exact Or.inl h
  · exact Or.inr ⟨g, off, ha, Nat.lt_of_lt_of_le hg k.size, fun i hi => (hc i hi).ext k⟩
theorem BatchL.at {w : World} {a : Option Addr} {B : List BatchD} (h : BatchL w a B) {i : Nat} (hi : i < B.length) :
    ∃ g off, a = some ⟨g, off, none⟩ ∧ g < w.heap.size ∧ BatchAt w g (off + i * 2) (B.getD i bz) := by
  rcases h with h | ⟨g, off, ha, hg, hc⟩
  · rw [h] at hi; simp at hi
  · exact ⟨g, off, ha, hg, hc i hi⟩
/-- How many operations there are, and batches. -/
def sumB2 (B : List BatchD) : Nat := (B.map fun x => 1 + x.L.length).sum
theorem sumB2_take (B : List BatchD) {k : Nat} (hk : k < B.length) : sumB2 (B.take (k + 1)) = sumB2 (B.take k) + (1 + (B.getD k bz).L.length) := by
  unfold sumB2
  rw [List.take_succ_eq_append_getElem hk, List.map_append, List.sum_append, List.getD_eq_getElem?_getD, List.getElem?_eq_getElem hk]
  simp
theorem sumB2_le (B : List BatchD) (k : Nat) : sumB2 (B.take k) ≤ sumB2 B := by
  unfold sumB2
  conv => rhs; rw [← List.take_append_drop k B]
  rw [List.map_append, List.sum_append]
  omega
set_option maxRecDepth 100000 in
set_option maxHeartbeats 6400000 in
theorem tree_few (a : Option Addr) (c : Nat) (B : List BatchD) (w : World) (hB : BatchL w a B) (hs : sumB2 B ≤ 2000000) (hl : B.length ≤ 1099511627776) :
    Calls Tryd.prog 6 #[.slice a B.length c] w fun e w' => (∃ q, e = .returned (.bool q)) ∧ Ext w w' := by
  obtain ⟨R, hR⟩ : ∃ R : Ending → World → Prop, R = fun e w' => (∃ q, e = .returned (.bool q)) ∧ Ext w w' := ⟨_, rfl⟩
  rw [← hR]
  have HR := Lib.hid hR; clear hR
  have HB := Lib.hid hB; clear hB
  obtain ⟨n, hn⟩ : ∃ n, n = B.length := ⟨_, rfl⟩
  rw [← hn] at hl ⊢
  have HN := Lib.hid hn; clear hn
  go_enter Tryd.func6, Tryd.ntmps6
  go_wp2_with fail
  go_loopw [3, 10] (fun v i wr => ∃ (k : Nat), v = .int .i64 (sumB2 (B.take k) : Nat) ∧ i = .int .i64 k ∧ k ≤ n ∧ Hid (Ext w wr)) (fun _ i _ => n - (intOf i).toNat)
  case atStart => exact ⟨0, rfl, rfl, Nat.zero_le _, Lib.hid (Ext.refl _)⟩
  case round =>
    obtain ⟨k, rfl, rfl, hk, HX⟩ := hrel
    by_cases hlt : k < n
    · have hkL : k < B.length := by have := HN.out; omega
      have hst := sumB2_take B hkL
      have hsl := sumB2_le B (k + 1)
      obtain ⟨g, off, rfl, _, ⟨c0, c1⟩, hops⟩ := (HB.out.ext HX.out).at hkL
      generalize B.getD k bz = x at c0 c1 hops hst
      obtain ⟨xL, xa, xc, ra, rn, rc⟩ := x
      simp only at c0 c1 hops hst
      have HST := Lib.hid hst; clear hst
      have HOPS := Lib.hid hops; clear hops
      have hs0 : sumB2 (B.take k) + (1 + xL.length) ≤ 2000000 := by have := HST.out; omega
      have HSUM := Lib.hid hsl; clear hsl
      go_upto_region 5 with (fail)
      clear c0 c1
      have hx_w5 : Ext wr (wr.alloc (.cells #[.slice xa xL.length xc, .slice ra rn rc] 28)) := (Ext.alloc _ _)
      have hf_P := heap_alloc_new wr (.cells #[.slice xa xL.length xc, .slice ra rn rc] 28)
      generalize wr.alloc (.cells #[.slice xa xL.length xc, .slice ra rn rc] 28) = w5 at hx_w5 hf_P ⊢
      obtain ⟨P, h_P⟩ : ∃ x, x = wr.heap.size := ⟨_, rfl⟩
      rw [← h_P] at hf_P
      try rw [← h_P]
      have hs_P : wr.heap.size ≤ P := by omega
      clear h_P
      have d0 := blk_cell hf_P 0 (Value.slice xa xL.length xc) rfl
      have d1 := blk_cell hf_P 1 (Value.slice ra rn rc) rfl
      have HP := Lib.hid hf_P; clear hf_P
      have HX5 := Lib.hid (HX.out.trans hx_w5)
      have HOPS5 := Lib.hid (HOPS.out.ext hx_w5); clear hx_w5 hs_P HOPS
      obtain ⟨m, hm⟩ : ∃ m, m = xL.length := ⟨_, rfl⟩
      rw [← hm] at d0 hs0
      have HM := Lib.hid hm; clear hm
      obtain ⟨s, hsum⟩ : ∃ s, s = sumB2 (B.take k) := ⟨_, rfl⟩
      rw [← hsum] at hs0 ⊢
      have HS := Lib.hid hsum; clear hsum
      by_cases hr20 : 20 < rn
      · have hd : decide ((20 : Int) < (rn : Int)) = true := decide_eq_true (by omega)
        go_wp2_with fail
        rw [HR.out]
        exact ⟨⟨false, rfl⟩, HX5.out⟩
      · have hd : decide ((20 : Int) < (rn : Int)) = false := decide_eq_false (by omega)
        go_wp2_with fail
        clear d0 d1 hd
        go_loopw [27] (fun i wr2 => ∃ (j : Nat), i = .int .i64 j ∧ j ≤ m ∧ Hid (Ext w5 wr2)) (fun i _ => m - (intOf i).toNat)
        case atStart => exact ⟨0, rfl, Nat.zero_le _, Lib.hid (Ext.refl _)⟩
        case round =>
          obtain ⟨j, rfl, hj, HX6⟩ := hrel
          by_cases hjt : j < m
          · have hjL : j < xL.length := by have := HM.out; omega
            obtain ⟨g2, off2, rfl, _, ⟨e0, e1, e2, e3⟩, _⟩ := (HOPS5.out.ext HX6.out).at hjL
            generalize xL.getD j oz = y at e0 e1 e2 e3
            obtain ⟨⟨kd, pt, ds, dt⟩, ⟨oa, oc⟩⟩ := y
            simp only at e0 e1 e2 e3
            go_upto_region 11 with (fail)
            clear e0 e1 e2 e3
            have hx_w7 : Ext wr (wr.alloc (.cells #[.int .i64 kd, .string (bs pt), .string (bs ds), .slice oa dt.length oc] 36)) := (Ext.alloc _ _)
            have hf_Q := heap_alloc_new wr (.cells #[.int .i64 kd, .string (bs pt), .string (bs ds), .slice oa dt.length oc] 36)
            generalize wr.alloc (.cells #[.int .i64 kd, .string (bs pt), .string (bs ds), .slice oa dt.length oc] 36) = w7 at hx_w7 hf_Q ⊢
            obtain ⟨Q, h_Q⟩ : ∃ x, x = wr.heap.size := ⟨_, rfl⟩
            rw [← h_Q] at hf_Q
            try rw [← h_Q]
            have hs_Q : wr.heap.size ≤ Q := by omega
            clear h_Q
            have d1 := blk_cell hf_Q 1 (Value.string (bs pt)) rfl
            have d2 := blk_cell hf_Q 2 (Value.string (bs ds)) rfl
            have d3 := blk_cell hf_Q 3 (Value.slice oa dt.length oc) rfl
            have HX7 := Lib.hid (HX6.out.trans hx_w7); clear hf_Q hx_w7 hs_Q
            go_wp2_with fail
            all_goals (first
              | (rw [HR.out]; exact ⟨⟨false, rfl⟩, HX5.out.trans HX7.out⟩)
              | (go_roundw
                 case rel => exact ⟨j + 1, by go_num, by omega, HX7⟩
                 case measure => simp [intOf]; omega))
          · have hse := HST.out
            rw [← HS.out, ← HM.out] at hse
            have HSE := Lib.hid hse; clear hse
            go_wp2_with fail
            go_roundw
            case rel => exact ⟨k + 1, by rw [HSE.out]; go_num, by go_num, by omega, Lib.hid (HX5.out.trans HX6.out)⟩
            case measure => simp [intOf]; omega
    · have hs0 := sumB2_le B k
      go_wp2_with fail
      rw [HR.out]
      exact ⟨⟨_, rfl⟩, HX.out⟩
end Go.Proofs.YtldgpcmnmegioaaDoor
