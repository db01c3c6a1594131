/- UnitLines: the walk of the statement. -/
import Derived.Test.YtedfpoidggpkdaaDoorAlive13
import Derived.Test.YtedfpoidggpkdaaDoorUnitLaws
import Derived.Deep.RegionHeld3
import Derived.Deep.MidRow
import Derived.Deep.DrawnRows
namespace Go.Proofs.YtedfpoidggpkdaaDoor
open Go.RowKit
attribute [local go_sem ↓] Go.wp_at_zero Go.wp_at_succ
/-- What is parsed has few names. -/
theorem parseU_rows (s : Bs) (f : Nat) (h1 : 1 ≤ f) (h6 : f ≤ 6) : ((parseU s).1.row f).length ≤ 8 := by
  have hz : ∀ f, (UnitD.row ⟨[], [], [], [], [], [], [], 0⟩ f).length ≤ 8 := by
    intro f; unfold UnitD.row; split <;> simp
  unfold parseU
  cases hl : linesU (splitOn 10 s) 0 u0 with
  | inr p => obtain ⟨e, j⟩ := p; exact hz f
  | inl v =>
    have hp := linesU_part _ _ _ _ partU_0 hl
    have hr := (hp.rows f h1 h6).1
    unfold endU
    simp only
    split
    · exact hz f
    · split
      · have e : UnitD.row { v with retry := 0 } f = v.row f := by unfold UnitD.row; split <;> rfl
        rw [e]; exact hr
      · exact hr
theorem info_unit : (Tryd.prog.info? 56).map (·.size) = some 8 := by kernel_rfl
theorem blk_fun {w : World} {B : Nat} {cs : Array Value} {t : TypeId} (hb : w.heap[B]? = some (.cells cs t (0, 0))) (h8 : cs.size = 8) (j : Nat) (hj : j < 8) :
    w.cell? ⟨B, j, none⟩ = some (cs.getD j (.bool false)) := by
  refine blk_cell hb j _ ?_
  rw [Array.getElem?_eq_getElem (by omega)]
  simp [Array.getD, h8, hj]
theorem parse_bytes (s : ByteArray) (l : Bs) (h : s.data.toList = l) (hl : l.length ≤ 900000) (w : World) (hE : EnvN w) :
    Calls Tryd.prog 38 #[.string s] w fun e w' => ∃ A C, e = .returned (.tuple #[unitV (parseU l).1 A C, .int .i64 ((parseU l).2.1 : Int), .int .i64 ((parseU l).2.2 : Int)]) ∧ UnitR w' (parseU l).1 A ∧ Ext w w' := by
  have e1 : s = bs l := by rw [← h, bs_of]
  rw [e1]
  refine (unit_parse l hl w hE).mono ?_
  intro e w' hp
  exact hp.strs
set_option maxRecDepth 100000 in
set_option maxHeartbeats 1600000 in
theorem unit_lines (s t : ByteArray) (n : Int) (w : World) (hE : EnvN w) :
    Calls Tryd.prog 12 #[.string s, .string t, .int .i64 n] w fun e w' => e = .returned (.bool true) ∧ Ext w w' := by
  obtain ⟨R, hR⟩ : ∃ R : Ending → World → Prop, R = fun e w' => e = .returned (.bool true) ∧ Ext w w' := ⟨_, rfl⟩
  rw [← hR]
  have HR := Lib.hid hR; clear hR
  go_enter Tryd.func12, Tryd.ntmps12
  by_cases h1 : 500 < s.size
  · go_wp2_with (go_at_call 37; refine (alive_13 _ hE).mono ?_; rintro e w1 ⟨rfl, hx1⟩; have hx1 := Lib.hid hx1)
    rw [HR.out]; exact ⟨rfl, hx1.out⟩
  · by_cases h2 : 500 < t.size
    · go_wp2_with (go_at_call 37; refine (alive_13 _ hE).mono ?_; rintro e w1 ⟨rfl, hx1⟩; have hx1 := Lib.hid hx1)
      rw [HR.out]; exact ⟨rfl, hx1.out⟩
    · have hd1 : decide ((500 : Int) < (s.size : Int)) = false := by simp; omega
      have hd2 : decide ((500 : Int) < (t.size : Int)) = false := by simp; omega
      obtain ⟨a, ha⟩ : ∃ a, a = s.data.toList := ⟨_, rfl⟩
      obtain ⟨b, hb⟩ : ∃ b, b = t.data.toList := ⟨_, rfl⟩
      have hal : a.length ≤ 500 := by rw [ha, size_len]; omega
      have hbl : b.length ≤ 500 := by rw [hb, size_len]; omega
      obtain ⟨hr1, hr2⟩ := law_rem a b
      obtain ⟨hr3, hr4⟩ := law_retry a
      have q1 := fun W (k : Ext w W) => parse_bytes (s ++ ⟨#[10]⟩ ++ t) (a ++ 10 :: b) (by rw [ha, hb]; simp [ByteArray.data_append]) (by simp; omega) W (hE.ext k)
      have q2 := fun W (k : Ext w W) => parse_bytes (s ++ ⟨#[10, 10, 35, 32, 114, 101, 109, 97, 114, 107, 10]⟩ ++ t) (a ++ 10 :: 10 :: (wRem ++ 10 :: b)) (by rw [ha, hb]; simp [ByteArray.data_append, wRem]) (by simp [wRem]; omega) W (hE.ext k)
      have q3 := fun W (k : Ext w W) => parse_bytes (⟨#[114, 101, 116, 114, 121, 32, 49, 10]⟩ ++ s) (wRe1 ++ 10 :: a) (by rw [ha]; simp [ByteArray.data_append, wRe1]) (by simp [wRe1]; omega) W (hE.ext k)
      have q4 := fun W (k : Ext w W) => parse_bytes (s ++ ⟨#[10, 114, 101, 116, 114, 121, 32, 49]⟩) (a ++ 10 :: wRe1) (by rw [ha]; simp [ByteArray.data_append, wRe1]) (by simp [wRe1]; omega) W (hE.ext k)
      have hs1 : s.size ≤ 500 := by omega
      have hs2 : t.size ≤ 500 := by omega
      clear ha hb hal hbl h1 h2
      rw [← hr1, ← hr2] at q2
      rw [← hr3] at q4
      clear hr1 hr2 hr3
      have BU := Lib.hid (parseU_rows (a ++ 10 :: b))
      have BX := Lib.hid (parseU_rows (wRe1 ++ 10 :: a))
      generalize (parseU (a ++ 10 :: b)).1 = u at *
      generalize (parseU (a ++ 10 :: b)).2.1 = m at *
      generalize (parseU (wRe1 ++ 10 :: a)).1 = x at *
      generalize (parseU (wRe1 ++ 10 :: a)).2.1 = g at *
      generalize (parseU (a ++ 10 :: wRe1)).2.1 = h at *
      generalize (parseU (a ++ 10 :: b)).2.2 = i1 at *
      generalize (parseU (a ++ 10 :: 10 :: (wRem ++ 10 :: b))).2.2 = i2 at *
      generalize (parseU (wRe1 ++ 10 :: a)).2.2 = i3 at *
      generalize (parseU (a ++ 10 :: wRe1)).2.2 = i4 at *
      have Q1 := Lib.hid q1; clear q1
      have Q2 := Lib.hid q2; clear q2
      have Q3 := Lib.hid q3; clear q3
      have Q4 := Lib.hid q4; clear q4
      have HGH := Lib.hid hr4; clear hr4
      go_wp2_with (go_at_call 37; refine (alive_13 _ hE).mono ?_; rintro e w1 ⟨rfl, hx1⟩; have hx1 := Lib.hid hx1)
      refine (Q1.out _ hx1.out).mono ?_
      rintro e w2 ⟨A1, C1, rfl, R1, hx2⟩
      have X2 := Lib.hid (hx1.out.trans (hx2.trans (Ext.alloc _ (.cells #[.string (bs u.name), .slice (A1 1) u.files.length (C1 1), .slice (A1 2) u.after.length (C1 2), .slice (A1 3) u.before.length (C1 3), .slice (A1 4) u.reqs.length (C1 4), .slice (A1 5) u.wants.length (C1 5), .slice (A1 6) u.partof.length (C1 6), .int .i64 u.retry] 56))))
      have R1 := Lib.hid R1; clear hx2
      unfold unitV
      go_wp2_with fail
      refine (Q2.out _ X2.out).mono ?_
      rintro e w3 ⟨A2, C2, rfl, R2, hx3⟩
      have R2 := Lib.hid R2
      have X3 := Lib.hid (X2.out.trans (hx3.trans (Ext.alloc _ (.cells #[.string (bs u.name), .slice (A2 1) u.files.length (C2 1), .slice (A2 2) u.after.length (C2 2), .slice (A2 3) u.before.length (C2 3), .slice (A2 4) u.reqs.length (C2 4), .slice (A2 5) u.wants.length (C2 5), .slice (A2 6) u.partof.length (C2 6), .int .i64 u.retry] 56))))
      have hx3 := Lib.hid hx3
      unfold unitV
      go_wp2_with fail
      refine (Q3.out _ X3.out).mono ?_
      rintro e w4 ⟨A3, C3, rfl, R3, hx4⟩
      have R3 := Lib.hid R3
      have X4 := Lib.hid (X3.out.trans (hx4.trans (Ext.alloc _ (.cells #[.string (bs x.name), .slice (A3 1) x.files.length (C3 1), .slice (A3 2) x.after.length (C3 2), .slice (A3 3) x.before.length (C3 3), .slice (A3 4) x.reqs.length (C3 4), .slice (A3 5) x.wants.length (C3 5), .slice (A3 6) x.partof.length (C3 6), .int .i64 x.retry] 56))))
      have hx4 := Lib.hid hx4
      unfold unitV
      go_wp2_with fail
      refine (Q4.out _ X4.out).mono ?_
      rintro e w5 ⟨A4, C4, rfl, R4, hx5⟩
      have R4 := Lib.hid R4
      have hx5 := Lib.hid hx5
      unfold unitV
      go_wp2_with fail
      have HB4 := Lib.hid (heap_alloc_new w5 (.cells #[.string (bs x.name), .slice (A4 1) x.files.length (C4 1), .slice (A4 2) x.after.length (C4 2), .slice (A4 3) x.before.length (C4 3), .slice (A4 4) x.reqs.length (C4 4), .slice (A4 5) x.wants.length (C4 5), .slice (A4 6) x.partof.length (C4 6), .int .i64 x.retry] 56))
      have e5 : Ext w5 (w5.alloc (.cells #[.string (bs x.name), .slice (A4 1) x.files.length (C4 1), .slice (A4 2) x.after.length (C4 2), .slice (A4 3) x.before.length (C4 3), .slice (A4 4) x.reqs.length (C4 4), .slice (A4 5) x.wants.length (C4 5), .slice (A4 6) x.partof.length (C4 6), .int .i64 x.retry] 56)) := Ext.alloc _ _
      have HB3 := Lib.hid (e5.heap (hx5.out.heap (heap_alloc_new w4 (.cells #[.string (bs x.name), .slice (A3 1) x.files.length (C3 1), .slice (A3 2) x.after.length (C3 2), .slice (A3 3) x.before.length (C3 3), .slice (A3 4) x.reqs.length (C3 4), .slice (A3 5) x.wants.length (C3 5), .slice (A3 6) x.partof.length (C3 6), .int .i64 x.retry] 56))))
      have e4 := (Ext.alloc w4 (.cells #[.string (bs x.name), .slice (A3 1) x.files.length (C3 1), .slice (A3 2) x.after.length (C3 2), .slice (A3 3) x.before.length (C3 3), .slice (A3 4) x.reqs.length (C3 4), .slice (A3 5) x.wants.length (C3 5), .slice (A3 6) x.partof.length (C3 6), .int .i64 x.retry] 56)).trans (hx5.out.trans e5)
      have HB2 := Lib.hid (e4.heap (hx4.out.heap (heap_alloc_new w3 (.cells #[.string (bs u.name), .slice (A2 1) u.files.length (C2 1), .slice (A2 2) u.after.length (C2 2), .slice (A2 3) u.before.length (C2 3), .slice (A2 4) u.reqs.length (C2 4), .slice (A2 5) u.wants.length (C2 5), .slice (A2 6) u.partof.length (C2 6), .int .i64 u.retry] 56))))
      have e3 := (Ext.alloc w3 (.cells #[.string (bs u.name), .slice (A2 1) u.files.length (C2 1), .slice (A2 2) u.after.length (C2 2), .slice (A2 3) u.before.length (C2 3), .slice (A2 4) u.reqs.length (C2 4), .slice (A2 5) u.wants.length (C2 5), .slice (A2 6) u.partof.length (C2 6), .int .i64 u.retry] 56)).trans (hx4.out.trans e4)
      have HB1 := Lib.hid (e3.heap (hx3.out.heap (heap_alloc_new w2 (.cells #[.string (bs u.name), .slice (A1 1) u.files.length (C1 1), .slice (A1 2) u.after.length (C1 2), .slice (A1 3) u.before.length (C1 3), .slice (A1 4) u.reqs.length (C1 4), .slice (A1 5) u.wants.length (C1 5), .slice (A1 6) u.partof.length (C1 6), .int .i64 u.retry] 56))))
      have e2 := (Ext.alloc w2 (.cells #[.string (bs u.name), .slice (A1 1) u.files.length (C1 1), .slice (A1 2) u.after.length (C1 2), .slice (A1 3) u.before.length (C1 3), .slice (A1 4) u.reqs.length (C1 4), .slice (A1 5) u.wants.length (C1 5), .slice (A1 6) u.partof.length (C1 6), .int .i64 u.retry] 56)).trans (hx3.out.trans e3)
      have T1 := Lib.hid (R1.out.ext e2)
      have T2 := Lib.hid (R2.out.ext e3)
      have T3 := Lib.hid (R3.out.ext e4)
      have T4 := Lib.hid (R4.out.ext e5)
      have XZ := Lib.hid (X4.out.trans (hx5.out.trans e5))
      clear e2 e3 e4 e5 R1 R2 R3 R4 hx3 hx4 hx5 X2 X3 X4 Q1 Q2 Q3 Q4
      generalize Value.agg #[.string (bs u.name), .slice (A1 1) u.files.length (C1 1), .slice (A1 2) u.after.length (C1 2), .slice (A1 3) u.before.length (C1 3), .slice (A1 4) u.reqs.length (C1 4), .slice (A1 5) u.wants.length (C1 5), .slice (A1 6) u.partof.length (C1 6), .int .i64 u.retry] = g1
      generalize Value.agg #[.string (bs u.name), .slice (A2 1) u.files.length (C2 1), .slice (A2 2) u.after.length (C2 2), .slice (A2 3) u.before.length (C2 3), .slice (A2 4) u.reqs.length (C2 4), .slice (A2 5) u.wants.length (C2 5), .slice (A2 6) u.partof.length (C2 6), .int .i64 u.retry] = g2
      generalize Value.agg #[.string (bs x.name), .slice (A3 1) x.files.length (C3 1), .slice (A3 2) x.after.length (C3 2), .slice (A3 3) x.before.length (C3 3), .slice (A3 4) x.reqs.length (C3 4), .slice (A3 5) x.wants.length (C3 5), .slice (A3 6) x.partof.length (C3 6), .int .i64 x.retry] = g3
      generalize Value.agg #[.string (bs x.name), .slice (A4 1) x.files.length (C4 1), .slice (A4 2) x.after.length (C4 2), .slice (A4 3) x.before.length (C4 3), .slice (A4 4) x.reqs.length (C4 4), .slice (A4 5) x.wants.length (C4 5), .slice (A4 6) x.partof.length (C4 6), .int .i64 x.retry] = g4
      generalize w5.alloc (.cells #[.string (bs x.name), .slice (A4 1) x.files.length (C4 1), .slice (A4 2) x.after.length (C4 2), .slice (A4 3) x.before.length (C4 3), .slice (A4 4) x.reqs.length (C4 4), .slice (A4 5) x.wants.length (C4 5), .slice (A4 6) x.partof.length (C4 6), .int .i64 x.retry] 56) = wz at *
      obtain ⟨cs1, hcs1⟩ : ∃ cs, cs = (#[.string (bs u.name), .slice (A1 1) u.files.length (C1 1), .slice (A1 2) u.after.length (C1 2), .slice (A1 3) u.before.length (C1 3), .slice (A1 4) u.reqs.length (C1 4), .slice (A1 5) u.wants.length (C1 5), .slice (A1 6) u.partof.length (C1 6), .int .i64 u.retry] : Array Value) := ⟨_, rfl⟩
      have p1 : unitV u A1 C1 = .agg cs1 := by rw [hcs1]; rfl
      have z1 : cs1.size = 8 := by rw [hcs1]; rfl
      have hb1 := HB1.out
      rw [← hcs1] at hb1
      obtain ⟨b1, hbb1⟩ : ∃ b, b = w2.heap.size := ⟨_, rfl⟩
      rw [← hbb1] at hb1 ⊢
      obtain ⟨v1, hv1⟩ : ∃ v : Nat → Value, v = fun j => cs1.getD j (.bool false) := ⟨_, rfl⟩
      have q1 : unitV u A1 C1 = .agg #[v1 0, v1 1, v1 2, v1 3, v1 4, v1 5, v1 6, v1 7] := by rw [hv1, hcs1]; rfl
      have l1 : ∀ W, Ext wz W → ∀ j, j < 8 → W.cell? ⟨b1, j, none⟩ = some (v1 j) := fun W k j hj => by rw [hv1]; exact blk_fun (k.heap hb1) z1 j hj
      have c1 : ∀ W, Calls Tryd.prog 41 #[.agg #[v1 0, v1 1, v1 2, v1 3, v1 4, v1 5, v1 6, v1 7]] W (fun e w' => e = .returned (.agg cs1) ∧ Ext W w') := fun W => by rw [← q1, ← p1]; exact plain_13 u A1 C1 W
      obtain ⟨cs2, hcs2⟩ : ∃ cs, cs = (#[.string (bs u.name), .slice (A2 1) u.files.length (C2 1), .slice (A2 2) u.after.length (C2 2), .slice (A2 3) u.before.length (C2 3), .slice (A2 4) u.reqs.length (C2 4), .slice (A2 5) u.wants.length (C2 5), .slice (A2 6) u.partof.length (C2 6), .int .i64 u.retry] : Array Value) := ⟨_, rfl⟩
      have p2 : unitV u A2 C2 = .agg cs2 := by rw [hcs2]; rfl
      have z2 : cs2.size = 8 := by rw [hcs2]; rfl
      have hb2 := HB2.out
      rw [← hcs2] at hb2
      obtain ⟨b2, hbb2⟩ : ∃ b, b = w3.heap.size := ⟨_, rfl⟩
      rw [← hbb2] at hb2 ⊢
      obtain ⟨v2, hv2⟩ : ∃ v : Nat → Value, v = fun j => cs2.getD j (.bool false) := ⟨_, rfl⟩
      have q2 : unitV u A2 C2 = .agg #[v2 0, v2 1, v2 2, v2 3, v2 4, v2 5, v2 6, v2 7] := by rw [hv2, hcs2]; rfl
      have l2 : ∀ W, Ext wz W → ∀ j, j < 8 → W.cell? ⟨b2, j, none⟩ = some (v2 j) := fun W k j hj => by rw [hv2]; exact blk_fun (k.heap hb2) z2 j hj
      have c2 : ∀ W, Calls Tryd.prog 41 #[.agg #[v2 0, v2 1, v2 2, v2 3, v2 4, v2 5, v2 6, v2 7]] W (fun e w' => e = .returned (.agg cs2) ∧ Ext W w') := fun W => by rw [← q2, ← p2]; exact plain_13 u A2 C2 W
      obtain ⟨cs3, hcs3⟩ : ∃ cs, cs = (#[.string (bs x.name), .slice (A3 1) x.files.length (C3 1), .slice (A3 2) x.after.length (C3 2), .slice (A3 3) x.before.length (C3 3), .slice (A3 4) x.reqs.length (C3 4), .slice (A3 5) x.wants.length (C3 5), .slice (A3 6) x.partof.length (C3 6), .int .i64 x.retry] : Array Value) := ⟨_, rfl⟩
      have p3 : unitV x A3 C3 = .agg cs3 := by rw [hcs3]; rfl
      have z3 : cs3.size = 8 := by rw [hcs3]; rfl
      have hb3 := HB3.out
      rw [← hcs3] at hb3
      obtain ⟨b3, hbb3⟩ : ∃ b, b = w4.heap.size := ⟨_, rfl⟩
      rw [← hbb3] at hb3 ⊢
      obtain ⟨v3, hv3⟩ : ∃ v : Nat → Value, v = fun j => cs3.getD j (.bool false) := ⟨_, rfl⟩
      have q3 : unitV x A3 C3 = .agg #[v3 0, v3 1, v3 2, v3 3, v3 4, v3 5, v3 6, v3 7] := by rw [hv3, hcs3]; rfl
      have l3 : ∀ W, Ext wz W → ∀ j, j < 8 → W.cell? ⟨b3, j, none⟩ = some (v3 j) := fun W k j hj => by rw [hv3]; exact blk_fun (k.heap hb3) z3 j hj
      have c3 : ∀ W, Calls Tryd.prog 41 #[.agg #[v3 0, v3 1, v3 2, v3 3, v3 4, v3 5, v3 6, v3 7]] W (fun e w' => e = .returned (.agg cs3) ∧ Ext W w') := fun W => by rw [← q3, ← p3]; exact plain_13 x A3 C3 W
      obtain ⟨cs4, hcs4⟩ : ∃ cs, cs = (#[.string (bs x.name), .slice (A4 1) x.files.length (C4 1), .slice (A4 2) x.after.length (C4 2), .slice (A4 3) x.before.length (C4 3), .slice (A4 4) x.reqs.length (C4 4), .slice (A4 5) x.wants.length (C4 5), .slice (A4 6) x.partof.length (C4 6), .int .i64 x.retry] : Array Value) := ⟨_, rfl⟩
      have p4 : unitV x A4 C4 = .agg cs4 := by rw [hcs4]; rfl
      have z4 : cs4.size = 8 := by rw [hcs4]; rfl
      have hb4 := HB4.out
      rw [← hcs4] at hb4
      obtain ⟨b4, hbb4⟩ : ∃ b, b = w5.heap.size := ⟨_, rfl⟩
      rw [← hbb4] at hb4 ⊢
      obtain ⟨v4, hv4⟩ : ∃ v : Nat → Value, v = fun j => cs4.getD j (.bool false) := ⟨_, rfl⟩
      have q4 : unitV x A4 C4 = .agg #[v4 0, v4 1, v4 2, v4 3, v4 4, v4 5, v4 6, v4 7] := by rw [hv4, hcs4]; rfl
      have l4 : ∀ W, Ext wz W → ∀ j, j < 8 → W.cell? ⟨b4, j, none⟩ = some (v4 j) := fun W k j hj => by rw [hv4]; exact blk_fun (k.heap hb4) z4 j hj
      have c4 : ∀ W, Calls Tryd.prog 41 #[.agg #[v4 0, v4 1, v4 2, v4 3, v4 4, v4 5, v4 6, v4 7]] W (fun e w' => e = .returned (.agg cs4) ∧ Ext W w') := fun W => by rw [← q4, ← p4]; exact plain_13 x A4 C4 W
      have s1 : Hid (∀ W, Ext wz W → Calls Tryd.prog 40 #[.agg cs1, .agg cs2] W (SameR u u W)) := Lib.hid (fun W k => by rw [← p1, ← p2]; exact same_13 u u A1 A2 C1 C2 W (T1.out.ext k) (T2.out.ext k) (fun f h1 h6 => Nat.le_trans (BU.out f h1 h6) (by decide)))
      have s2 : Hid (∀ W, Ext wz W → Calls Tryd.prog 40 #[.agg cs3, .agg cs4] W (SameR x x W)) := Lib.hid (fun W k => by rw [← p3, ← p4]; exact same_13 x x A3 A4 C3 C4 W (T3.out.ext k) (T4.out.ext k) (fun f h1 h6 => Nat.le_trans (BX.out f h1 h6) (by decide)))
      have D1 := Lib.hid c1
      have D2 := Lib.hid c2
      have D3 := Lib.hid c3
      have D4 := Lib.hid c4
      clear c1 c2 c3 c4 p1 p2 p3 p4 q1 q2 q3 q4 hv1 hv2 hv3 hv4 hcs1 hcs2 hcs3 hcs4 z1 z2 z3 z4 hb1 hb2 hb3 hb4 hbb1 hbb2 hbb3 hbb4 HB1 HB2 HB3 HB4 T1 T2 T3 T4
      have hm : ((m : Int) == 0) = true ∨ ((m : Int) == 0) = false := by cases ((m : Int) == 0) <;> simp
      have hgh : ((g : Int) == 0) = true ∧ ((h : Int) == 0) = true ∨ ((g : Int) == 0) = false ∧ ((h : Int) == 0) = false := by
        have := HGH.out
        by_cases hg : g = 0
        · exact Or.inl (by simp [hg, this.1 hg])
        · exact Or.inr (by simp; exact ⟨by omega, fun e => hg (this.2 (by omega))⟩)
      clear HGH
      rcases hm with hm | hm <;> rcases hgh with ⟨hg, hh⟩ | ⟨hg, hh⟩
      all_goals
        go_wp2_with fail
        go_region_held3 (fun w' => Ext wz w') (first | exact (Ext.refl wz).drew | assumption)
          (first
            | (go_at_call_of 41 (Value.agg #[v1 0, v1 1, v1 2, v1 3, v1 4, v1 5, v1 6, v1 7]); have hS0 := ‹Ext wz _›; refine (D1.out _).mono ?_; rintro e w7 ⟨rfl, hx7⟩; have hS2 := hS0.trans hx7)
            | (go_at_call_of 41 (Value.agg #[v2 0, v2 1, v2 2, v2 3, v2 4, v2 5, v2 6, v2 7]); have hS0 := ‹Ext wz _›; refine (D2.out _).mono ?_; rintro e w7 ⟨rfl, hx7⟩; have hS2 := hS0.trans hx7)
            | (go_at_call_of 41 (Value.agg #[v3 0, v3 1, v3 2, v3 3, v3 4, v3 5, v3 6, v3 7]); have hS0 := ‹Ext wz _›; refine (D3.out _).mono ?_; rintro e w7 ⟨rfl, hx7⟩; have hS2 := hS0.trans hx7)
            | (go_at_call_of 41 (Value.agg #[v4 0, v4 1, v4 2, v4 3, v4 4, v4 5, v4 6, v4 7]); have hS0 := ‹Ext wz _›; refine (D4.out _).mono ?_; rintro e w7 ⟨rfl, hx7⟩; have hS2 := hS0.trans hx7)
            | (go_at_call_of 40 (Value.agg cs1); have hS0 := ‹Ext wz _›; refine (s1.out _ hS0).mono ?_; rintro e w7 ⟨b, rfl, hbb, hx7⟩; have hbt := hbb.2 rfl; subst hbt; have hS2 := hS0.trans hx7)
            | (go_at_call_of 40 (Value.agg cs3); have hS0 := ‹Ext wz _›; refine (s2.out _ hS0).mono ?_; rintro e w7 ⟨b, rfl, hbb, hx7⟩; have hbt := hbb.2 rfl; subst hbt; have hS2 := hS0.trans hx7))
        all_goals
          go_wp2_with fail
          rw [HR.out]
          exact ⟨rfl, XZ.out.trans (by assumption)⟩
end Go.Proofs.YtedfpoidggpkdaaDoor
