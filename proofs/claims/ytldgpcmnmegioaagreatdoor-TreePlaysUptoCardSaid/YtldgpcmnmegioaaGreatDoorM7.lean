/- Several texts of mine, one behind the other: TreeFew, TreeFewS, Read, ReadTree. -/
import Derived.Test.YtldgpcmnmegioaaGreatDoorM5
import Derived.Test.YtldgpcmnmegioaaGreatDoorM3
import Derived.Deep.Slices
import Derived.Deep.Fields
import Derived.DataReads
namespace Go.Proofs.YtldgpcmnmegioaaGreatDoor
open Go.RowKit
/-- Operations that are done at once, and where they lie; of the numbers that are taken away where they lie alone. -/
structure BatchD where
  L : List (OpD × OpA)
  a : Option Addr
  c : Nat
  ra : Option Addr
  rn : Nat
  rc : Nat
def BatchAt (w : World) (g off : Nat) (x : BatchD) : Prop :=
  (w.cell? ⟨g, off, none⟩ = some (.slice x.a x.L.length x.c) ∧ w.cell? ⟨g, off + 1, none⟩ = some (.slice x.ra x.rn x.rc)) ∧ OpsL w x.a x.L
theorem BatchAt.ext {w w' : World} {g off : Nat} {x : BatchD} (h : BatchAt w g off x) (k : Ext w w') : BatchAt w' g off x := ⟨⟨k.cell h.1.1, k.cell h.1.2⟩, h.2.ext k⟩
def bz : BatchD := ⟨[], none, 0, none, 0, 0⟩
def BatchL (w : World) (a : Option Addr) (B : List BatchD) : Prop :=
  B = [] ∨ ∃ g off, a = some ⟨g, off, none⟩ ∧ g < w.heap.size ∧ ∀ i, i < B.length → BatchAt w g (off + i * 2) (B.getD i bz)
theorem BatchL.ext {w w' : World} {a : Option Addr} {B : List BatchD} (h : BatchL w a B) (k : Ext w w') : BatchL w' a B := by
  rcases h with h | ⟨g, off, ha, hg, hc⟩
  · exact Or.inl h
  · exact Or.inr ⟨g, off, ha, Nat.lt_of_lt_of_le hg k.size, fun i hi => (hc i hi).ext k⟩
theorem BatchL.at {w : World} {a : Option Addr} {B : List BatchD} (h : BatchL w a B) {i : Nat} (hi : i < B.length) :
    ∃ g off, a = some ⟨g, off, none⟩ ∧ g < w.heap.size ∧ BatchAt w g (off + i * 2) (B.getD i bz) := by
  rcases h with h | ⟨g, off, ha, hg, hc⟩
  · rw [h] at hi; simp at hi
  · exact ⟨g, off, ha, hg, hc i hi⟩
/-- How many operations there are, and batches. -/
def sumB2 (B : List BatchD) : Nat := (B.map fun x => 1 + x.L.length).sum
theorem sumB2_take (B : List BatchD) {k : Nat} (hk : k < B.length) : sumB2 (B.take (k + 1)) = sumB2 (B.take k) + (1 + (B.getD k bz).L.length) := by
  unfold sumB2
  rw [List.take_succ_eq_append_getElem hk, List.map_append, List.sum_append, List.getD_eq_getElem?_getD, List.getElem?_eq_getElem hk]
  simp
theorem sumB2_le (B : List BatchD) (k : Nat) : sumB2 (B.take k) ≤ sumB2 B := by
  unfold sumB2
  conv => rhs; rw [← List.take_append_drop k B]
  rw [List.map_append, List.sum_append]
  omega
set_option maxRecDepth 100000 in
set_option maxHeartbeats 6400000 in
theorem tree_few (a : Option Addr) (c : Nat) (B : List BatchD) (w : World) (hB : BatchL w a B) (hs : sumB2 B ≤ 2000000) (hl : B.length ≤ 1099511627776) :
    Calls Tryz.prog 6 #[.slice a B.length c] w fun e w' => (∃ q, e = .returned (.bool q)) ∧ Ext w w' := by
  obtain ⟨R, hR⟩ : ∃ R : Ending → World → Prop, R = fun e w' => (∃ q, e = .returned (.bool q)) ∧ Ext w w' := ⟨_, rfl⟩
  rw [← hR]
  have HR := Lib.hid hR; clear hR
  have HB := Lib.hid hB; clear hB
  obtain ⟨n, hn⟩ : ∃ n, n = B.length := ⟨_, rfl⟩
  rw [← hn] at hl ⊢
  have HN := Lib.hid hn; clear hn
  go_enter Tryz.func6, Tryz.ntmps6
  go_wp2_with fail
  go_loopw [3, 10] (fun v i wr => ∃ (k : Nat), v = .int .i64 (sumB2 (B.take k) : Nat) ∧ i = .int .i64 k ∧ k ≤ n ∧ Hid (Ext w wr)) (fun _ i _ => n - (intOf i).toNat)
  case atStart => exact ⟨0, rfl, rfl, Nat.zero_le _, Lib.hid (Ext.refl _)⟩
  case round =>
    obtain ⟨k, rfl, rfl, hk, HX⟩ := hrel
    by_cases hlt : k < n
    · have hkL : k < B.length := by have := HN.out; omega
      have hst := sumB2_take B hkL
      have hsl := sumB2_le B (k + 1)
      obtain ⟨g, off, rfl, _, ⟨c0, c1⟩, hops⟩ := (HB.out.ext HX.out).at hkL
      generalize B.getD k bz = x at c0 c1 hops hst
      obtain ⟨xL, xa, xc, ra, rn, rc⟩ := x
      simp only at c0 c1 hops hst
      have HST := Lib.hid hst; clear hst
      have HOPS := Lib.hid hops; clear hops
      have hs0 : sumB2 (B.take k) + (1 + xL.length) ≤ 2000000 := by have := HST.out; omega
      have HSUM := Lib.hid hsl; clear hsl
      go_upto_region 5 with (fail)
      clear c0 c1
      have hx_w5 : Ext wr (wr.alloc (.cells #[.slice xa xL.length xc, .slice ra rn rc] 35)) := (Ext.alloc _ _)
      have hf_P := heap_alloc_new wr (.cells #[.slice xa xL.length xc, .slice ra rn rc] 35)
      generalize wr.alloc (.cells #[.slice xa xL.length xc, .slice ra rn rc] 35) = w5 at hx_w5 hf_P ⊢
      obtain ⟨P, h_P⟩ : ∃ x, x = wr.heap.size := ⟨_, rfl⟩
      rw [← h_P] at hf_P
      try rw [← h_P]
      have hs_P : wr.heap.size ≤ P := by omega
      clear h_P
      have d0 := blk_cell hf_P 0 (Value.slice xa xL.length xc) rfl
      have d1 := blk_cell hf_P 1 (Value.slice ra rn rc) rfl
      have HP := Lib.hid hf_P; clear hf_P
      have HX5 := Lib.hid (HX.out.trans hx_w5)
      have HOPS5 := Lib.hid (HOPS.out.ext hx_w5); clear hx_w5 hs_P HOPS
      obtain ⟨m, hm⟩ : ∃ m, m = xL.length := ⟨_, rfl⟩
      rw [← hm] at d0 hs0
      have HM := Lib.hid hm; clear hm
      obtain ⟨s, hsum⟩ : ∃ s, s = sumB2 (B.take k) := ⟨_, rfl⟩
      rw [← hsum] at hs0 ⊢
      have HS := Lib.hid hsum; clear hsum
      by_cases hr20 : 20 < rn
      · have hd : decide ((20 : Int) < (rn : Int)) = true := decide_eq_true (by omega)
        go_wp2_with fail
        rw [HR.out]
        exact ⟨⟨false, rfl⟩, HX5.out⟩
      · have hd : decide ((20 : Int) < (rn : Int)) = false := decide_eq_false (by omega)
        go_wp2_with fail
        clear d0 d1 hd
        go_loopw [27] (fun i wr2 => ∃ (j : Nat), i = .int .i64 j ∧ j ≤ m ∧ Hid (Ext w5 wr2)) (fun i _ => m - (intOf i).toNat)
        case atStart => exact ⟨0, rfl, Nat.zero_le _, Lib.hid (Ext.refl _)⟩
        case round =>
          obtain ⟨j, rfl, hj, HX6⟩ := hrel
          by_cases hjt : j < m
          · have hjL : j < xL.length := by have := HM.out; omega
            obtain ⟨g2, off2, rfl, _, ⟨e0, e1, e2, e3⟩, _⟩ := (HOPS5.out.ext HX6.out).at hjL
            generalize xL.getD j oz = y at e0 e1 e2 e3
            obtain ⟨⟨kd, pt, ds, dt⟩, ⟨oa, oc⟩⟩ := y
            simp only at e0 e1 e2 e3
            go_upto_region 11 with (fail)
            clear e0 e1 e2 e3
            have hx_w7 : Ext wr (wr.alloc (.cells #[.int .i64 kd, .string (bs pt), .string (bs ds), .slice oa dt.length oc] 38)) := (Ext.alloc _ _)
            have hf_Q := heap_alloc_new wr (.cells #[.int .i64 kd, .string (bs pt), .string (bs ds), .slice oa dt.length oc] 38)
            generalize wr.alloc (.cells #[.int .i64 kd, .string (bs pt), .string (bs ds), .slice oa dt.length oc] 38) = w7 at hx_w7 hf_Q ⊢
            obtain ⟨Q, h_Q⟩ : ∃ x, x = wr.heap.size := ⟨_, rfl⟩
            rw [← h_Q] at hf_Q
            try rw [← h_Q]
            have hs_Q : wr.heap.size ≤ Q := by omega
            clear h_Q
            have d1 := blk_cell hf_Q 1 (Value.string (bs pt)) rfl
            have d2 := blk_cell hf_Q 2 (Value.string (bs ds)) rfl
            have d3 := blk_cell hf_Q 3 (Value.slice oa dt.length oc) rfl
            have HX7 := Lib.hid (HX6.out.trans hx_w7); clear hf_Q hx_w7 hs_Q
            go_wp2_with fail
            all_goals (first
              | (rw [HR.out]; exact ⟨⟨false, rfl⟩, HX5.out.trans HX7.out⟩)
              | (go_roundw
                 case rel => exact ⟨j + 1, by go_num, by omega, HX7⟩
                 case measure => simp [intOf]; omega))
          · have hse := HST.out
            rw [← HS.out, ← HM.out] at hse
            have HSE := Lib.hid hse; clear hse
            go_wp2_with fail
            go_roundw
            case rel => exact ⟨k + 1, by rw [HSE.out]; go_num, by go_num, by omega, Lib.hid (HX5.out.trans HX6.out)⟩
            case measure => simp [intOf]; omega
    · have hs0 := sumB2_le B k
      go_wp2_with fail
      rw [HR.out]
      exact ⟨⟨_, rfl⟩, HX.out⟩
end Go.Proofs.YtldgpcmnmegioaaGreatDoor
namespace Go.Proofs.YtldgpcmnmegioaaGreatDoor
open Go.RowKit
structure SmallOp (y : OpD × OpA) : Prop where
  path : y.1.path.length ≤ 60
  dest : y.1.dest.length ≤ 60
  data : y.1.data.length ≤ 3600
structure SmallBat (x : BatchD) : Prop where
  reap : x.rn ≤ 20
  ops : ∀ y ∈ x.L, SmallOp y
set_option maxRecDepth 100000 in
set_option maxHeartbeats 6400000 in
theorem tree_few_s (a : Option Addr) (c : Nat) (B : List BatchD) (w : World) (hB : BatchL w a B) (hs : sumB2 B ≤ 2000000) (hl : B.length ≤ 1099511627776) :
    Calls Tryz.prog 6 #[.slice a B.length c] w fun e w' => (∃ q, e = .returned (.bool q) ∧ (q = true → ∀ x ∈ B, SmallBat x)) ∧ Ext w w' := by
  obtain ⟨R, hR⟩ : ∃ R : Ending → World → Prop, R = fun e w' => (∃ q, e = .returned (.bool q) ∧ (q = true → ∀ x ∈ B, SmallBat x)) ∧ Ext w w' := ⟨_, rfl⟩
  rw [← hR]
  have HR := Lib.hid hR; clear hR
  have HB := Lib.hid hB; clear hB
  obtain ⟨n, hn⟩ : ∃ n, n = B.length := ⟨_, rfl⟩
  rw [← hn] at hl ⊢
  have HN := Lib.hid hn; clear hn
  go_enter Tryz.func6, Tryz.ntmps6
  go_wp2_with fail
  go_loopw [3, 10] (fun v i wr => ∃ (k : Nat), v = .int .i64 (sumB2 (B.take k) : Nat) ∧ i = .int .i64 k ∧ k ≤ n ∧ Hid (∀ j, j < k → SmallBat (B.getD j bz)) ∧ Hid (Ext w wr)) (fun _ i _ => n - (intOf i).toNat)
  case atStart => exact ⟨0, rfl, rfl, Nat.zero_le _, Lib.hid (fun j hj => by omega), Lib.hid (Ext.refl _)⟩
  case round =>
    obtain ⟨k, rfl, rfl, hk, HSB, HX⟩ := hrel
    by_cases hlt : k < n
    · have hkL : k < B.length := by have := HN.out; omega
      have hst := sumB2_take B hkL
      have hsl := sumB2_le B (k + 1)
      obtain ⟨g, off, rfl, _, ⟨c0, c1⟩, hops⟩ := (HB.out.ext HX.out).at hkL
      have hnx : SmallBat (B.getD k bz) → ∀ j, j < k + 1 → SmallBat (B.getD j bz) := fun h j hj => by
        rcases Nat.lt_succ_iff_lt_or_eq.1 hj with h1 | h1
        · exact HSB.out j h1
        · rw [h1]; exact h
      have HNX := Lib.hid hnx; clear hnx
      generalize B.getD k bz = x at c0 c1 hops hst HNX
      obtain ⟨xL, xa, xc, ra, rn, rc⟩ := x
      simp only at c0 c1 hops hst
      have HST := Lib.hid hst; clear hst
      have HOPS := Lib.hid hops; clear hops
      have hs0 : sumB2 (B.take k) + (1 + xL.length) ≤ 2000000 := by have := HST.out; omega
      have HSUM := Lib.hid hsl; clear hsl
      go_upto_region 5 with (fail)
      clear c0 c1
      have hx_w5 : Ext wr (wr.alloc (.cells #[.slice xa xL.length xc, .slice ra rn rc] 35)) := (Ext.alloc _ _)
      have hf_P := heap_alloc_new wr (.cells #[.slice xa xL.length xc, .slice ra rn rc] 35)
      generalize wr.alloc (.cells #[.slice xa xL.length xc, .slice ra rn rc] 35) = w5 at hx_w5 hf_P ⊢
      obtain ⟨P, h_P⟩ : ∃ x, x = wr.heap.size := ⟨_, rfl⟩
      rw [← h_P] at hf_P
      try rw [← h_P]
      have hs_P : wr.heap.size ≤ P := by omega
      clear h_P
      have d0 := blk_cell hf_P 0 (Value.slice xa xL.length xc) rfl
      have d1 := blk_cell hf_P 1 (Value.slice ra rn rc) rfl
      have HP := Lib.hid hf_P; clear hf_P
      have HX5 := Lib.hid (HX.out.trans hx_w5)
      have HOPS5 := Lib.hid (HOPS.out.ext hx_w5); clear hx_w5 hs_P HOPS
      obtain ⟨m, hm⟩ : ∃ m, m = xL.length := ⟨_, rfl⟩
      rw [← hm] at d0 hs0
      have HM := Lib.hid hm; clear hm
      obtain ⟨s, hsum⟩ : ∃ s, s = sumB2 (B.take k) := ⟨_, rfl⟩
      rw [← hsum] at hs0 ⊢
      have HS := Lib.hid hsum; clear hsum
      by_cases hr20 : 20 < rn
      · have hd : decide ((20 : Int) < (rn : Int)) = true := decide_eq_true (by omega)
        go_wp2_with fail
        rw [HR.out]
        exact ⟨⟨false, rfl, fun h => by cases h⟩, HX5.out⟩
      · have hd : decide ((20 : Int) < (rn : Int)) = false := decide_eq_false (by omega)
        go_wp2_with fail
        clear d0 d1 hd
        go_loopw [27] (fun i wr2 => ∃ (j : Nat), i = .int .i64 j ∧ j ≤ m ∧ Hid (∀ i, i < j → SmallOp (xL.getD i oz)) ∧ Hid (Ext w5 wr2)) (fun i _ => m - (intOf i).toNat)
        case atStart => exact ⟨0, rfl, Nat.zero_le _, Lib.hid (fun j hj => by omega), Lib.hid (Ext.refl _)⟩
        case round =>
          obtain ⟨j, rfl, hj, HSO, HX6⟩ := hrel
          by_cases hjt : j < m
          · have hjL : j < xL.length := by have := HM.out; omega
            obtain ⟨g2, off2, rfl, _, ⟨e0, e1, e2, e3⟩, _⟩ := (HOPS5.out.ext HX6.out).at hjL
            have hnx : SmallOp (xL.getD j oz) → ∀ i, i < j + 1 → SmallOp (xL.getD i oz) := fun h i hi => by
              rcases Nat.lt_succ_iff_lt_or_eq.1 hi with h1 | h1
              · exact HSO.out i h1
              · rw [h1]; exact h
            have HNO := Lib.hid hnx; clear hnx
            generalize xL.getD j oz = y at e0 e1 e2 e3 HNO
            obtain ⟨⟨kd, pt, ds, dt⟩, ⟨oa, oc⟩⟩ := y
            simp only at e0 e1 e2 e3
            go_upto_region 11 with (fail)
            clear e0 e1 e2 e3
            have hx_w7 : Ext wr (wr.alloc (.cells #[.int .i64 kd, .string (bs pt), .string (bs ds), .slice oa dt.length oc] 38)) := (Ext.alloc _ _)
            have hf_Q := heap_alloc_new wr (.cells #[.int .i64 kd, .string (bs pt), .string (bs ds), .slice oa dt.length oc] 38)
            generalize wr.alloc (.cells #[.int .i64 kd, .string (bs pt), .string (bs ds), .slice oa dt.length oc] 38) = w7 at hx_w7 hf_Q ⊢
            obtain ⟨Q, h_Q⟩ : ∃ x, x = wr.heap.size := ⟨_, rfl⟩
            rw [← h_Q] at hf_Q
            try rw [← h_Q]
            have hs_Q : wr.heap.size ≤ Q := by omega
            clear h_Q
            have d1 := blk_cell hf_Q 1 (Value.string (bs pt)) rfl
            have d2 := blk_cell hf_Q 2 (Value.string (bs ds)) rfl
            have d3 := blk_cell hf_Q 3 (Value.slice oa dt.length oc) rfl
            have HX7 := Lib.hid (HX6.out.trans hx_w7); clear hf_Q hx_w7 hs_Q
            have Z := Lib.hid (And.intro (bs_size pt) (bs_size ds))
            by_cases s1 : 60 < pt.length
            · have hd1 : decide ((60 : Int) < ((bs pt).size : Int)) = true := decide_eq_true (by have := Z.out; omega)
              have hd1' : decide (60 < (bs pt).size) = true := decide_eq_true (by have := Z.out; omega)
              go_wp2_with fail
              rw [HR.out]
              exact ⟨⟨false, rfl, fun h => by cases h⟩, HX5.out.trans HX7.out⟩
            have hd1 : decide ((60 : Int) < ((bs pt).size : Int)) = false := decide_eq_false (by have := Z.out; omega)
            have hd1' : decide (60 < (bs pt).size) = false := decide_eq_false (by have := Z.out; omega)
            by_cases s2 : 60 < ds.length
            · have hd2 : decide ((60 : Int) < ((bs ds).size : Int)) = true := decide_eq_true (by have := Z.out; omega)
              have hd2' : decide (60 < (bs ds).size) = true := decide_eq_true (by have := Z.out; omega)
              go_wp2_with fail
              rw [HR.out]
              exact ⟨⟨false, rfl, fun h => by cases h⟩, HX5.out.trans HX7.out⟩
            have hd2 : decide ((60 : Int) < ((bs ds).size : Int)) = false := decide_eq_false (by have := Z.out; omega)
            have hd2' : decide (60 < (bs ds).size) = false := decide_eq_false (by have := Z.out; omega)
            by_cases s3 : 3600 < dt.length
            · have hd3 : decide ((3600 : Int) < (dt.length : Int)) = true := decide_eq_true (by have := Z.out; omega)
              go_wp2_with fail
              rw [HR.out]
              exact ⟨⟨false, rfl, fun h => by cases h⟩, HX5.out.trans HX7.out⟩
            have hd3 : decide ((3600 : Int) < (dt.length : Int)) = false := decide_eq_false (by have := Z.out; omega)
            have HSM := Lib.hid (HNO.out ⟨by show pt.length ≤ 60; omega, by show ds.length ≤ 60; omega, by show dt.length ≤ 3600; omega⟩)
            clear s1 s2 s3
            go_wp2_with fail
            go_roundw
            case rel => exact ⟨j + 1, by go_num, by omega, HSM, HX7⟩
            case measure => simp [intOf]; omega
          · have hse := HST.out
            rw [← HS.out, ← HM.out] at hse
            have HSE := Lib.hid hse; clear hse
            have HBA := Lib.hid (HNX.out ⟨by show rn ≤ 20; omega, fun y hy => by
              obtain ⟨i, hi, rfl⟩ := List.getElem_of_mem hy
              have hi2 : i < xL.length := hi
              have := HSO.out i (by have := HM.out; omega)
              have e : xL.getD i oz = xL[i] := by simp [List.getD_eq_getElem?_getD, List.getElem?_eq_getElem hi2]
              rw [e] at this
              exact this⟩)
            go_wp2_with fail
            go_roundw
            case rel => exact ⟨k + 1, by rw [HSE.out]; go_num, by go_num, by omega, HBA, Lib.hid (HX5.out.trans HX6.out)⟩
            case measure => simp [intOf]; omega
    · have hs0 := sumB2_le B k
      go_wp2_with fail
      rw [HR.out]
      refine ⟨⟨_, rfl, fun _ x hx => ?_⟩, HX.out⟩
      obtain ⟨i, hi, rfl⟩ := List.getElem_of_mem hx
      have := HSB.out i (by have := HN.out; omega)
      have e : B.getD i bz = B[i] := by simp [List.getD_eq_getElem?_getD, List.getElem?_eq_getElem hi]
      rw [e] at this
      exact this
end Go.Proofs.YtldgpcmnmegioaaGreatDoor
namespace Go.Proofs.YtldgpcmnmegioaaGreatDoor
open Go.RowKit Go.WideShapes Go.ChangeShapes Go.Deep
/-- A slice's elements: C cells each, read as R says. -/
def SliceOf {α : Type} (C : Nat) (R : World → List Value → α → Prop) (w : World) (a : Option Addr) (L : List α) : Prop :=
  L = [] ∨ ∃ g off, a = some ⟨g, off, none⟩ ∧ g < w.heap.size ∧ ∀ i (hi : i < L.length), ∃ cs, cs.length = C ∧ (∀ j, j < C → w.cell? ⟨g, off + i * C + j, none⟩ = cs[j]?) ∧ R w cs L[i]
theorem SliceOf.ext {α : Type} {C : Nat} {R : World → List Value → α → Prop} (hR : ∀ {w w' : World} {cs : List Value} {x : α}, R w cs x → Ext w w' → R w' cs x) {w w' : World} {a : Option Addr} {L : List α} (h : SliceOf C R w a L) (k : Ext w w') : SliceOf C R w' a L := by
  rcases h with h | ⟨g, off, ha, hg, hc⟩
  · exact Or.inl h
  · refine Or.inr ⟨g, off, ha, Nat.lt_of_lt_of_le hg k.size, fun i hi => ?_⟩
    obtain ⟨cs, h1, h2, h3⟩ := hc i hi
    refine ⟨cs, h1, fun j hj => ?_, hR h3 k⟩
    have := h2 j hj
    have hj' : j < cs.length := by omega
    rw [List.getElem?_eq_getElem hj'] at this ⊢
    exact k.cell this
theorem read_list {α : Type} {P : Nat → α → Prop} : ∀ (m : Nat), (∀ i, i < m → ∃ x, P i x) → ∃ L : List α, L.length = m ∧ ∀ i (hi : i < L.length), P i L[i]
  | 0, _ => ⟨[], rfl, fun i hi => by simp at hi⟩
  | m + 1, h => by
    obtain ⟨L, h1, h2⟩ := read_list m (fun i hi => h i (by omega))
    obtain ⟨x, hx⟩ := h m (by omega)
    refine ⟨L ++ [x], by simp [h1], fun i hi => ?_⟩
    by_cases hl : i < L.length
    · rw [List.getElem_append_left hl]; exact h2 i hl
    · have : i = m := by simp at hi; omega
      subst this
      rw [List.getElem_append_right (by omega)]
      simpa [h1] using hx
section
variable {H : Type} {enc : TypeId × Value → H} {P : Program} {w : World} {base : Nat} {spare : Nat → Bool} {held : Bool}
theorem bulk_append (l r : List (DataW H)) : Rows.uptoBulkAll (l ++ r) = Rows.uptoBulkAll l + Rows.uptoBulkAll r := by
  induction l with
  | nil => simp [Rows.uptoBulkAll]
  | cons x l ih => simp only [List.cons_append, Rows.uptoBulkAll, ih]; omega
/-- A slice that came in. R, wt: what an element reads as, and how much it weighs at most. -/
theorem read_slice {α : Type} {R : World → List Value → α → Prop} {wt : α → Nat} {t e : TypeId} {C fuel : Nat} {cs : List Value} {x : DataW H × List MemPlace} (ht : P.underlying t = some (.slice e)) (hC : P.cellsOf e = C) (hCp : 0 < C)
    (he : ∀ n cs y, DataW.trod enc P w base spare held n e cs = some y → ∃ v, R w cs v ∧ wt v ≤ Rows.uptoBulk y.1)
    (h : DataW.trod enc P w base spare held fuel t cs = some x) :
    ∃ (a : Option Addr) (L : List α) (c : Nat), cs = [.slice a L.length c] ∧ L.length ≤ c ∧ SliceOf C R w a L ∧ (L.map wt).sum + 1 ≤ Rows.uptoBulk x.1 := by
  subst hC
  rcases open_slice ht h with ⟨h1, h2⟩ | ⟨a, len, cap, m, n, D, Pl, hcs, _, hl, _, hm, hx, hi⟩
  · subst h1 h2
    exact ⟨none, [], 0, rfl, Nat.le_refl _, Or.inl rfl, by simp [Rows.uptoBulk]⟩
  · subst hx hcs
    have hlm : len ≤ m := by rw [hm]; split <;> omega
    obtain ⟨L, h1, h2⟩ := read_list (P := fun i v => ∃ cs', w.cells? base (a.add (i * P.cellsOf e)) (P.cellsOf e) = some cs' ∧ R w cs' v ∧ wt v ≤ Rows.uptoBulk (D i)) len (fun i hi' => by
      obtain ⟨cs', k1, k2⟩ := hi i (by omega)
      obtain ⟨v, k3, k4⟩ := he n cs' _ k2
      exact ⟨v, cs', k1, k3, k4⟩)
    have hsum : ∀ (k : Nat) (M : List α) (E : Nat → DataW H), M.length = k → (∀ i (hi : i < M.length), wt M[i] ≤ Rows.uptoBulk (E i)) → (M.map wt).sum ≤ Rows.uptoBulkAll ((List.range k).map E) := by
      intro k
      induction k with
      | zero => intro M E hM _; rw [List.eq_nil_of_length_eq_zero hM]; simp
      | succ k ih =>
        intro M E hM hE
        have hne : M ≠ [] := by intro e; rw [e] at hM; simp at hM
        have hlast : M.dropLast.length = k := by simp [hM]
        rw [← List.dropLast_concat_getLast hne, List.map_append, List.sum_append, List.range_succ, List.map_append, bulk_append]
        have a1 := ih M.dropLast E hlast (fun i hi => by
          have := hE i (by omega)
          simpa [List.getElem_dropLast] using this)
        have a2 := hE k (by omega)
        have e3 : M.getLast hne = M[k]'(by omega) := by rw [List.getLast_eq_getElem]; congr 1; omega
        simp only [List.map_cons, List.map_nil, List.sum_cons, List.sum_nil, Rows.uptoBulkAll, e3]
        omega
    refine ⟨some a, L, cap, by rw [h1], by omega, ?_, ?_⟩
    · by_cases hL : L = []
      · exact Or.inl hL
      · have hpos : 0 < L.length := List.length_pos_iff.2 hL
        obtain ⟨cs', k1, _, _⟩ := h2 0 hpos
        obtain ⟨_, k3, k4⟩ := World.cells?_some k1
        have hc0 := k4 0 hCp
        have e0 : (a.add (0 * P.cellsOf e)).add 0 = a := by simp [Addr.add]
        rw [e0, List.getElem?_eq_getElem (by omega)] at hc0
        obtain ⟨g, off, rfl, hlt⟩ := addr_plain hc0
        refine Or.inr ⟨g, off, rfl, hlt, fun i hi' => ?_⟩
        obtain ⟨cs', k1, k2, _⟩ := h2 i hi'
        obtain ⟨_, k3, k4⟩ := World.cells?_some k1
        refine ⟨cs', k3, fun j hj => ?_, k2⟩
        have := k4 j hj
        rwa [add_plain, add_plain] at this
    · have := hsum len L D h1 (fun i hi' => by obtain ⟨_, _, _, k⟩ := h2 i hi'; exact k)
      simp only [Rows.uptoBulk]
      omega
/-- A struct of one-cell fields: its fields' readings. -/
theorem read_struct {t : TypeId} {fs : Array Field} {fuel : Nat} {cs : List Value} {x : DataW H × List MemPlace} (ht : P.underlying t = some (.struct fs)) (hone : oneCellFields P fs = true) (hC : P.cellsOf t = fs.size)
    (h : DataW.trod enc P w base spare held fuel t cs = some x) :
    ∃ (ys : List (DataW H × List MemPlace)) (n : Nat), x.1 = .agg (ys.map (·.1)) ∧ cs.length = fs.size ∧ ys.length = fs.size ∧
      ∀ (j : Nat) (f : Field), fs[j]? = some f → ∃ v y, cs[j]? = some v ∧ ys[j]? = some y ∧ DataW.trod enc P w base spare held n f.type [v] = some y := by
  obtain ⟨ys, n, _, hx, hlen, hyl, hf⟩ := DataW.trod_struct ht h
  refine ⟨ys, n, by rw [hx], by rw [hlen, hC], hyl, fun j f hj => ?_⟩
  obtain ⟨ho, hk⟩ := hone_of hone j f hj
  have hjl : j < fs.size := (Array.getElem?_eq_some_iff.1 hj).1
  have h1 := hf j f hj
  rw [ho, hk] at h1
  have hj2 : j < cs.length := by omega
  have hone' : (cs.drop j).take 1 = [cs[j]'hj2] := by
    rw [List.drop_eq_getElem_cons hj2]; rfl
  rw [hone'] at h1
  have hys : ys[j]? = some (ys[j]'(by omega)) := List.getElem?_eq_getElem (by omega)
  exact ⟨_, _, List.getElem?_eq_getElem hj2, hys, h1.trans hys⟩
end
section
variable {H : Type} {enc : TypeId × Value → H} {w : World} {base : Nat} {spare : Nat → Bool} {held : Bool}
theorem read_u8s {fuel : Nat} {cs : List Value} {x : DataW H × List MemPlace} (h : DataW.trod enc Tryz.prog w base spare held fuel 36 cs = some x) :
    ∃ (a : Option Addr) (l : List UInt8) (c : Nat), cs = [.slice a l.length c] ∧ l.length ≤ c ∧ Bytes w a l := by
  rcases open_ints Tryz.underlying36 Tryz.underlying5 cells_u8 h with ⟨hcs, hx⟩ | ⟨a, len, cap, zs, hcs, _, hl, hm, hz, hx, hcell, hwf⟩
  · exact ⟨none, [], 0, hcs, Nat.le_refl _, Or.inl rfl⟩
  · have hz' : len ≤ zs.length := by rw [hz]; split <;> omega
    have hLl : ((zs.take len).map fun n => UInt8.ofNat n.toNat).length = len := by simp; omega
    refine ⟨some a, (zs.take len).map fun n => UInt8.ofNat n.toNat, cap, by rw [hLl]; exact hcs, by rw [hLl]; exact hl, ?_⟩
    rcases Nat.eq_zero_or_pos len with h0 | h0
    · left; subst h0; simp
    · have hc0 := hcell 0 (by omega)
      have e0 : a.add 0 = a := by simp [Addr.add]
      rw [e0] at hc0
      obtain ⟨g, off, rfl, hlt⟩ := addr_plain hc0
      refine Or.inr ⟨_, _, rfl, hlt, fun i hi => ?_⟩
      have hi' : i < len := by rw [hLl] at hi; exact hi
      have hc := hcell i (by omega)
      rw [add_plain] at hc
      rw [hc]
      have hi2 : i < zs.length := by omega
      have hw := hwf (zs.getD i 0) (by rw [List.getD_eq_getElem?_getD, List.getElem?_eq_getElem hi2]; simp)
      have hb : 0 ≤ zs.getD i 0 ∧ zs.getD i 0 < 256 := by
        simp only [Lit.wf, Bool.and_eq_true, decide_eq_true_eq] at hw
        have h1 : IntKind.u8.min = 0 := by decide
        have h2 : IntKind.u8.max = 255 := by decide
        rw [h1, h2] at hw
        omega
      simp [byteAt, hi', hi2] at hb ⊢
      omega
end
end Go.Proofs.YtldgpcmnmegioaaGreatDoor
namespace Go.Proofs.YtldgpcmnmegioaaGreatDoor
open Go.RowKit Go.WideShapes Go.ChangeShapes Go.Deep
section
variable {H : Type} {enc : TypeId × Value → H} {w : World} {base : Nat} {spare : Nat → Bool} {held : Bool}
theorem bulk_pos (d : DataW H) : 1 ≤ Rows.uptoBulk d := by
  cases d with
  | lit l => cases l <;> simp [Rows.uptoBulk]
  | _ => simp [Rows.uptoBulk]
theorem bulk_mem {d : DataW H} : ∀ {l : List (DataW H)}, d ∈ l → Rows.uptoBulk d ≤ Rows.uptoBulkAll l
  | x :: l, h => by
    simp only [Rows.uptoBulkAll]
    rcases List.mem_cons.1 h with rfl | h
    · omega
    · have := bulk_mem h; omega
theorem sum_ones {α : Type} (L : List α) : (L.map fun _ => 1).sum = L.length := by
  induction L with
  | nil => rfl
  | cons a L ih => rw [List.map_cons, List.sum_cons, ih, List.length_cons]; omega
theorem cells_op4 : Tryz.prog.cellsOf 38 = 4 := by kernel_rfl
theorem cells_batch2 : Tryz.prog.cellsOf 35 = 2 := by kernel_rfl
theorem cells_i1 : Tryz.prog.cellsOf 3 = 1 := by kernel_rfl
theorem cells_s1 : Tryz.prog.cellsOf 9 = 1 := by kernel_rfl
theorem cells_bs1 : Tryz.prog.cellsOf 36 = 1 := by kernel_rfl
theorem cells_os1 : Tryz.prog.cellsOf 32 = 1 := by kernel_rfl
theorem cells_is1 : Tryz.prog.cellsOf 33 = 1 := by kernel_rfl
def opR4 (w : World) (cs : List Value) (x : OpD × OpA) : Prop := cs = opV x ∧ Bytes w x.2.oa x.1.data
set_option maxRecDepth 100000 in
theorem read_op {fuel : Nat} {cs : List Value} {x : DataW H × List MemPlace} (h : DataW.trod enc Tryz.prog w base spare held fuel 38 cs = some x) : ∃ y, opR4 w cs y := by
  obtain ⟨ys, n, _, _, hlen, hyl, hf⟩ := DataW.trod_struct Tryz.underlying38 h
  rw [cells_op4] at hlen
  have h0 := hf 0 _ rfl
  have h1 := hf 1 _ rfl
  have h2 := hf 2 _ rfl
  have h3 := hf 3 _ rfl
  change DataW.trod enc Tryz.prog w base spare held n 3 ((cs.drop 0).take (Tryz.prog.cellsOf 3)) = _ at h0
  change DataW.trod enc Tryz.prog w base spare held n 9 ((cs.drop 1).take (Tryz.prog.cellsOf 9)) = _ at h1
  change DataW.trod enc Tryz.prog w base spare held n 9 ((cs.drop 2).take (Tryz.prog.cellsOf 9)) = _ at h2
  change DataW.trod enc Tryz.prog w base spare held n 36 ((cs.drop 3).take (Tryz.prog.cellsOf 36)) = _ at h3
  rw [cells_i1] at h0
  rw [cells_s1] at h1 h2
  rw [cells_bs1] at h3
  have hy0 : ys[0]? = some (ys[0]'(by rw [hyl]; decide)) := List.getElem?_eq_getElem _
  have hy1 : ys[1]? = some (ys[1]'(by rw [hyl]; decide)) := List.getElem?_eq_getElem _
  have hy2 : ys[2]? = some (ys[2]'(by rw [hyl]; decide)) := List.getElem?_eq_getElem _
  have hy3 : ys[3]? = some (ys[3]'(by rw [hyl]; decide)) := List.getElem?_eq_getElem _
  rw [hy0] at h0
  rw [hy1] at h1
  rw [hy2] at h2
  rw [hy3] at h3
  match cs, hlen with
  | [c0, c1, c2, c3], _ =>
    simp only [List.drop_zero, List.take_succ_cons, List.take_zero, List.drop_succ_cons] at h0 h1 h2 h3
    obtain ⟨k, e0, _⟩ := DataW.trod_int Tryz.underlying3 h0
    obtain ⟨s1, e1, _⟩ := DataW.trod_string Tryz.underlying9 h1
    obtain ⟨s2, e2, _⟩ := DataW.trod_string Tryz.underlying9 h2
    obtain ⟨a, l, c, e3, _, hB⟩ := read_u8s h3
    cases e0
    cases e1
    cases e2
    cases e3
    refine ⟨(⟨k, s1.data.toList, s2.data.toList, l⟩, ⟨a, c⟩), ?_, hB⟩
    unfold opV
    simp only [bs_of]
theorem SliceOf.ops {a : Option Addr} {L : List (OpD × OpA)} (h : SliceOf 4 opR4 w a L) : OpsL w a L := by
  rcases h with h | ⟨g, off, ha, hg, hc⟩
  · exact Or.inl h
  · refine Or.inr ⟨g, off, ha, hg, fun i hi => ?_⟩
    obtain ⟨cs, _, h2, h3, h4⟩ := hc i hi
    have e : L.getD i oz = L[i] := by simp [List.getD_eq_getElem?_getD, List.getElem?_eq_getElem hi]
    rw [e]
    subst h3
    exact ⟨⟨h2 0 (by omega), h2 1 (by omega), h2 2 (by omega), h2 3 (by omega)⟩, h4⟩
theorem read_ops {fuel : Nat} {cs : List Value} {x : DataW H × List MemPlace} (h : DataW.trod enc Tryz.prog w base spare held fuel 32 cs = some x) :
    ∃ (a : Option Addr) (L : List (OpD × OpA)) (c : Nat), cs = [.slice a L.length c] ∧ L.length ≤ c ∧ OpsL w a L ∧ L.length + 1 ≤ Rows.uptoBulk x.1 := by
  obtain ⟨a, L, c, h1, h2, h3, h4⟩ := read_slice (R := opR4) (wt := fun _ => 1) Tryz.underlying32 cells_op4 (by decide) (fun n cs y hy => by
    obtain ⟨v, hv⟩ := read_op hy
    exact ⟨v, hv, bulk_pos _⟩) h
  rw [sum_ones] at h4
  exact ⟨a, L, c, h1, h2, h3.ops, h4⟩
def batR2 (w : World) (cs : List Value) (x : BatchD) : Prop := cs = [.slice x.a x.L.length x.c, .slice x.ra x.rn x.rc] ∧ OpsL w x.a x.L
set_option maxRecDepth 100000 in
theorem read_batch {fuel : Nat} {cs : List Value} {x : DataW H × List MemPlace} (h : DataW.trod enc Tryz.prog w base spare held fuel 35 cs = some x) : ∃ y, batR2 w cs y ∧ 1 + y.L.length ≤ Rows.uptoBulk x.1 := by
  obtain ⟨ys, n, _, hx, hlen, hyl, hf⟩ := DataW.trod_struct Tryz.underlying35 h
  rw [cells_batch2] at hlen
  have h0 := hf 0 _ rfl
  have h1 := hf 1 _ rfl
  change DataW.trod enc Tryz.prog w base spare held n 32 ((cs.drop 0).take (Tryz.prog.cellsOf 32)) = _ at h0
  change DataW.trod enc Tryz.prog w base spare held n 33 ((cs.drop 1).take (Tryz.prog.cellsOf 33)) = _ at h1
  rw [cells_os1] at h0
  rw [cells_is1] at h1
  have hy0 : ys[0]? = some (ys[0]'(by rw [hyl]; decide)) := List.getElem?_eq_getElem _
  have hy1 : ys[1]? = some (ys[1]'(by rw [hyl]; decide)) := List.getElem?_eq_getElem _
  have hm0 : (ys[0]'(by rw [hyl]; decide)).1 ∈ ys.map (·.1) := List.mem_map_of_mem (List.getElem_mem _)
  rw [hy0] at h0
  rw [hy1] at h1
  match cs, hlen with
  | [c0, c1], _ =>
    simp only [List.drop_zero, List.take_succ_cons, List.take_zero, List.drop_succ_cons] at h0 h1
    obtain ⟨a, L, c, e0, _, hO, hb⟩ := read_ops h0
    obtain ⟨ra, rn, rc, e1⟩ : ∃ ra rn rc, [c1] = [Value.slice ra rn rc] := by
      rcases open_ints Tryz.underlying33 Tryz.underlying3 cells_i1 h1 with ⟨hcs, _⟩ | ⟨ad, len, cap, _, hcs, _⟩
      · exact ⟨none, 0, 0, hcs⟩
      · exact ⟨some ad, len, cap, hcs⟩
    cases e0
    cases e1
    refine ⟨⟨L, a, c, ra, rn, rc⟩, ⟨rfl, hO⟩, ?_⟩
    have := bulk_mem hm0
    rw [hx]
    simp only [Rows.uptoBulk]
    show 1 + L.length ≤ _
    omega
theorem SliceOf.batches {a : Option Addr} {B : List BatchD} (h : SliceOf 2 batR2 w a B) : BatchL w a B := by
  rcases h with h | ⟨g, off, ha, hg, hc⟩
  · exact Or.inl h
  · refine Or.inr ⟨g, off, ha, hg, fun i hi => ?_⟩
    obtain ⟨cs, _, h2, h3, h4⟩ := hc i hi
    have e : B.getD i bz = B[i] := by simp [List.getD_eq_getElem?_getD, List.getElem?_eq_getElem hi]
    rw [e]
    subst h3
    exact ⟨⟨h2 0 (by omega), h2 1 (by omega)⟩, h4⟩
set_option maxRecDepth 100000 in
/-- A []Op that came in. -/
theorem open_ops {b0 : Nat} {v : Value} {d : DataW H} {ps : List MemPlace} (hval : Value.okWide Tryz.prog w .any b0 32 v) (hd : DataW.Trod enc Tryz.prog w base spare held 32 v d ps) :
    ∃ (a : Option Addr) (L : List (OpD × OpA)) (c : Nat), v = .slice a L.length c ∧ L.length ≤ c ∧ OpsL w a L ∧ L.length + 1 ≤ Rows.uptoBulk d := by
  obtain ⟨a0, len, cap, rfl⟩ := okWide_slice Tryz.underlying32 hval
  obtain ⟨fuel, hf⟩ := hd
  obtain ⟨a, L, c, h1, h2, h3, h4⟩ := read_ops hf
  simp [Value.cells] at h1
  obtain ⟨rfl, rfl, rfl⟩ := h1
  exact ⟨a0, L, cap, rfl, h2, h3, h4⟩
set_option maxRecDepth 100000 in
/-- A []Batch that came in. -/
theorem open_batches {b0 : Nat} {v : Value} {d : DataW H} {ps : List MemPlace} (hval : Value.okWide Tryz.prog w .any b0 22 v) (hd : DataW.Trod enc Tryz.prog w base spare held 22 v d ps) :
    ∃ (a : Option Addr) (B : List BatchD) (c : Nat), v = .slice a B.length c ∧ B.length ≤ c ∧ BatchL w a B ∧ sumB2 B + 1 ≤ Rows.uptoBulk d := by
  obtain ⟨a0, len, cap, rfl⟩ := okWide_slice Tryz.underlying22 hval
  obtain ⟨fuel, hf⟩ := hd
  obtain ⟨a, B, c, h1, h2, h3, h4⟩ := read_slice (R := batR2) (wt := fun x => 1 + x.L.length) Tryz.underlying22 cells_batch2 (by decide) (fun n cs y hy => read_batch hy) hf
  simp [Value.cells] at h1
  obtain ⟨rfl, rfl, rfl⟩ := h1
  exact ⟨a0, B, cap, rfl, h2, h3.batches, h4⟩
theorem sumB2_len (B : List BatchD) : B.length ≤ sumB2 B := by
  unfold sumB2
  induction B with
  | nil => simp
  | cons x B ih => rw [List.map_cons, List.sum_cons, List.length_cons]; omega
end
end Go.Proofs.YtldgpcmnmegioaaGreatDoor
