/- UnitParses: the walk of the statement. -/
import Derived.Test.YtedfpoidggpkdaaDoorUnitLinesW
import Derived.Test.YtedfpoidggpkdaaDoorRef13Parse
import Derived.Deep.QuietTactic
import Derived.BigQuiet
namespace Go.Proofs.YtedfpoidggpkdaaDoor
open Go.RowKit
attribute [local go_sem ↓] Go.wp_at_zero Go.wp_at_succ
theorem nameL_60 {l : Bs} (h : nameL l = true) : l.length ≤ 60 := by
  unfold nameL at h
  simp only [Bool.and_eq_true, decide_eq_true_eq] at h
  omega
theorem good_short {u : UnitD} (h : GoodU u) : shortU u 6 ∧ u.name.length ≤ 60 := by
  refine ⟨fun j hj => ⟨?_, ?_⟩, ?_⟩
  · have := (h.rows (j + 1) (by omega) (by omega)).1; omega
  · intro s hs
    have := (h.rows (j + 1) (by omega) (by omega)).2.2 s hs
    split at this
    · unfold rightL at this
      split at this
      · rename_i L hL
        have := (pathL_facts hL).2.2.1; omega
      · cases this
    · exact nameL_60 this
  · exact nameL_60 h.name
set_option maxRecDepth 100000 in
set_option maxHeartbeats 3200000 in
theorem unit_parses (s : ByteArray) (w : World) (hE : EnvN w) :
    Calls Tryd.prog 11 #[.string s] w fun e w' => e = .returned (.bool true) ∧ Ext w w' := by
  obtain ⟨R, hR⟩ : ∃ R : Ending → World → Prop, R = fun e w' => e = .returned (.bool true) ∧ Ext w w' := ⟨_, rfl⟩
  rw [← hR]
  have HR := Lib.hid hR; clear hR
  go_enter Tryd.func11, Tryd.ntmps11
  by_cases h1 : 1000 < s.size
  · have h1b : decide ((1000 : Int) < (s.size : Int)) = true := decide_eq_true (by omega)
    go_wp2_with (go_at_call 37; refine (alive_13 _ hE).mono ?_; rintro e w1 ⟨rfl, hx1⟩; have hx1 := Lib.hid hx1)
    rw [HR.out]; exact ⟨rfl, hx1.out⟩
  · have h1b : decide ((1000 : Int) < (s.size : Int)) = false := decide_eq_false (by omega)
    obtain ⟨t, rfl⟩ : ∃ t, s = bs t := ⟨s.data.toList, (bs_of s).symm⟩
    have htl : t.length ≤ 1000 := by rw [bs_size] at h1; omega
    have q1 := fun W (k : Ext w W) => unit_parse t (by omega) W (hE.ext k)
    have q2 := fun W => ref_parse t (by omega) W
    have hgood : ∀ v i, parseU t = (v, 0, i) → GoodU v := fun v i h => parseU_good h
    have hrows := parseU_rows t
    obtain ⟨⟨u, m, i⟩, ho⟩ : ∃ o, o = parseU t := ⟨_, rfl⟩
    rw [← ho] at q1 q2
    have hg : m = 0 → GoodU u := fun h => hgood u i (by rw [← ho, h])
    simp only [← ho] at hrows
    have Q1 := Lib.hid q1; clear q1
    have Q2 := Lib.hid q2; clear q2
    have HG := Lib.hid hg; clear hg hgood ho
    have HRW := Lib.hid hrows; clear hrows h1
    go_wp2_with (go_at_call 37; refine (alive_13 _ hE).mono ?_; rintro e w1 ⟨rfl, hx1⟩; have hx1 := Lib.hid hx1)
    refine (Q1.out _ hx1.out).mono ?_
    intro e w2 hp
    obtain ⟨A1, C1, rfl, R1, hx2⟩ := hp.strs
    clear hp
    simp only at R1 ⊢
    have X2 := Lib.hid (hx1.out.trans (hx2.trans (Ext.alloc _ (.cells #[.string (bs u.name), .slice (A1 1) u.files.length (C1 1), .slice (A1 2) u.after.length (C1 2), .slice (A1 3) u.before.length (C1 3), .slice (A1 4) u.reqs.length (C1 4), .slice (A1 5) u.wants.length (C1 5), .slice (A1 6) u.partof.length (C1 6), .int .i64 u.retry] 56))))
    have R1 := Lib.hid R1; clear hx2 hx1
    unfold unitV
    go_wp2_with fail
    refine (Q2.out _).mono ?_
    rintro e w3 ⟨A2, C2, rfl, R2, hx3⟩
    simp only at R2 ⊢
    have hb1 := (Ext.alloc w3 (.cells #[.string (bs u.name), .slice (A2 1) u.files.length (C2 1), .slice (A2 2) u.after.length (C2 2), .slice (A2 3) u.before.length (C2 3), .slice (A2 4) u.reqs.length (C2 4), .slice (A2 5) u.wants.length (C2 5), .slice (A2 6) u.partof.length (C2 6), .int .i64 u.retry] 61)).heap (hx3.heap (heap_alloc_new w2 (.cells #[.string (bs u.name), .slice (A1 1) u.files.length (C1 1), .slice (A1 2) u.after.length (C1 2), .slice (A1 3) u.before.length (C1 3), .slice (A1 4) u.reqs.length (C1 4), .slice (A1 5) u.wants.length (C1 5), .slice (A1 6) u.partof.length (C1 6), .int .i64 u.retry] 56)))
    have hb2 := heap_alloc_new w3 (.cells #[.string (bs u.name), .slice (A2 1) u.files.length (C2 1), .slice (A2 2) u.after.length (C2 2), .slice (A2 3) u.before.length (C2 3), .slice (A2 4) u.reqs.length (C2 4), .slice (A2 5) u.wants.length (C2 5), .slice (A2 6) u.partof.length (C2 6), .int .i64 u.retry] 61)
    have HB1 := Lib.hid hb1; clear hb1
    have HB2 := Lib.hid hb2; clear hb2
    have ey : Ext w3 (w3.alloc (.cells #[.string (bs u.name), .slice (A2 1) u.files.length (C2 1), .slice (A2 2) u.after.length (C2 2), .slice (A2 3) u.before.length (C2 3), .slice (A2 4) u.reqs.length (C2 4), .slice (A2 5) u.wants.length (C2 5), .slice (A2 6) u.partof.length (C2 6), .int .i64 u.retry] 61)) := Ext.alloc _ _
    have XY := Lib.hid (X2.out.trans (hx3.trans ey))
    have T1 := Lib.hid (R1.out.ext ((Ext.alloc w2 (.cells #[.string (bs u.name), .slice (A1 1) u.files.length (C1 1), .slice (A1 2) u.after.length (C1 2), .slice (A1 3) u.before.length (C1 3), .slice (A1 4) u.reqs.length (C1 4), .slice (A1 5) u.wants.length (C1 5), .slice (A1 6) u.partof.length (C1 6), .int .i64 u.retry] 56)).trans (hx3.trans ey)))
    have T2 := Lib.hid (UnitR.ext R2 ey)
    clear R1 R2 hx3 ey X2 Q1 Q2
    unfold unitV
    go_upto_region 7 with fail
    generalize Value.agg #[.string (bs u.name), .slice (A1 1) u.files.length (C1 1), .slice (A1 2) u.after.length (C1 2), .slice (A1 3) u.before.length (C1 3), .slice (A1 4) u.reqs.length (C1 4), .slice (A1 5) u.wants.length (C1 5), .slice (A1 6) u.partof.length (C1 6), .int .i64 u.retry] = g1
    generalize Value.agg #[.string (bs u.name), .slice (A2 1) u.files.length (C2 1), .slice (A2 2) u.after.length (C2 2), .slice (A2 3) u.before.length (C2 3), .slice (A2 4) u.reqs.length (C2 4), .slice (A2 5) u.wants.length (C2 5), .slice (A2 6) u.partof.length (C2 6), .int .i64 u.retry] = g2
    generalize w3.alloc (.cells #[.string (bs u.name), .slice (A2 1) u.files.length (C2 1), .slice (A2 2) u.after.length (C2 2), .slice (A2 3) u.before.length (C2 3), .slice (A2 4) u.reqs.length (C2 4), .slice (A2 5) u.wants.length (C2 5), .slice (A2 6) u.partof.length (C2 6), .int .i64 u.retry] 61) = wy at *
    obtain ⟨b1, hbb1⟩ : ∃ b, b = w2.heap.size := ⟨_, rfl⟩
    rw [← hbb1] at HB1 ⊢
    obtain ⟨b2, hbb2⟩ : ∃ b, b = w3.heap.size := ⟨_, rfl⟩
    rw [← hbb2] at HB2 ⊢
    obtain ⟨cs1, hcs1⟩ : ∃ cs, cs = (#[.string (bs u.name), .slice (A1 1) u.files.length (C1 1), .slice (A1 2) u.after.length (C1 2), .slice (A1 3) u.before.length (C1 3), .slice (A1 4) u.reqs.length (C1 4), .slice (A1 5) u.wants.length (C1 5), .slice (A1 6) u.partof.length (C1 6), .int .i64 u.retry] : Array Value) := ⟨_, rfl⟩
    have p1 : unitV u A1 C1 = .agg cs1 := by rw [hcs1]; rfl
    have z1 : cs1.size = 8 := by rw [hcs1]; rfl
    have hb1 := HB1.out
    rw [← hcs1] at hb1
    obtain ⟨v1, hv1⟩ : ∃ v : Nat → Value, v = fun j => cs1.getD j (.bool false) := ⟨_, rfl⟩
    have q1 : unitV u A1 C1 = .agg #[v1 0, v1 1, v1 2, v1 3, v1 4, v1 5, v1 6, v1 7] := by rw [hv1, hcs1]; rfl
    have l1 : ∀ W, Ext wy W → ∀ j, j < 8 → W.cell? ⟨b1, j, none⟩ = some (v1 j) := fun W k j hj => by rw [hv1]; exact blk_fun (k.heap hb1) z1 j hj
    have c1 : ∀ W, Calls Tryd.prog 41 #[.agg #[v1 0, v1 1, v1 2, v1 3, v1 4, v1 5, v1 6, v1 7]] W (fun e w' => e = .returned (.agg cs1) ∧ Ext W w') := fun W => by rw [← q1, ← p1]; exact plain_13 u A1 C1 W
    obtain ⟨cs2, hcs2⟩ : ∃ cs, cs = (#[.string (bs u.name), .slice (A2 1) u.files.length (C2 1), .slice (A2 2) u.after.length (C2 2), .slice (A2 3) u.before.length (C2 3), .slice (A2 4) u.reqs.length (C2 4), .slice (A2 5) u.wants.length (C2 5), .slice (A2 6) u.partof.length (C2 6), .int .i64 u.retry] : Array Value) := ⟨_, rfl⟩
    have p2 : unitV u A2 C2 = .agg cs2 := by rw [hcs2]; rfl
    have z2 : cs2.size = 8 := by rw [hcs2]; rfl
    have hb2 := HB2.out
    rw [← hcs2] at hb2
    obtain ⟨v2, hv2⟩ : ∃ v : Nat → Value, v = fun j => cs2.getD j (.bool false) := ⟨_, rfl⟩
    have q2 : unitV u A2 C2 = .agg #[v2 0, v2 1, v2 2, v2 3, v2 4, v2 5, v2 6, v2 7] := by rw [hv2, hcs2]; rfl
    have l2 : ∀ W, Ext wy W → ∀ j, j < 8 → W.cell? ⟨b2, j, none⟩ = some (v2 j) := fun W k j hj => by rw [hv2]; exact blk_fun (k.heap hb2) z2 j hj
    have c2 : ∀ W, Calls Tryd.prog 41 #[.agg #[v2 0, v2 1, v2 2, v2 3, v2 4, v2 5, v2 6, v2 7]] W (fun e w' => e = .returned (.agg cs2) ∧ Ext W w') := fun W => by rw [← q2, ← p2]; exact plain_13 u A2 C2 W
    have s1 : Hid (∀ W, Ext wy W → Calls Tryd.prog 40 #[.agg cs1, .agg #[v2 0, v2 1, v2 2, v2 3, v2 4, v2 5, v2 6, v2 7]] W (fun e w' => e = .returned (.bool true) ∧ Ext W w')) := Lib.hid (fun W k => (by rw [← p1, ← q2]; exact same_13 u u A1 A2 C1 C2 W (T1.out.ext k) (T2.out.ext k) (fun f h1 h6 => Nat.le_trans (HRW.out f h1 h6) (by decide)) : Calls Tryd.prog 40 #[.agg cs1, .agg #[v2 0, v2 1, v2 2, v2 3, v2 4, v2 5, v2 6, v2 7]] W (SameR u u W)).mono (by rintro e w7 ⟨bb, rfl, hbb, hx7⟩; exact ⟨by rw [hbb.2 rfl], hx7⟩))
    have D1 := Lib.hid c1
    have Q1V := Lib.hid q1
    have Q2V := Lib.hid q2
    have P1V := Lib.hid p1
    clear c1 c2 p1 p2 q1 q2 hv1 hv2 hcs1 hcs2 z1 z2 hb1 hb2 hbb1 hbb2 HB1 HB2
    have hb0 : Ext wy wy.drew := (Ext.refl wy).drew
    have hmm : ((m : Int) != (m : Int)) = false := by simp
    have hii : ((i : Int) != (i : Int)) = false := by simp
    by_cases hm : m = 0
    · have hmb : ((m : Int) != 0) = false := by simp; omega
      have hgu := HG.out hm
      clear HG hm
      obtain ⟨hsu, hsn⟩ := good_short hgu
      have hxl := text_short u hsu hsn (by have := hgu.retry; omega)
      have hpx := parse_text u hgu
      have hrt := hgu.retry
      obtain ⟨X, hX⟩ : ∃ X, X = textU u := ⟨_, rfl⟩
      rw [← hX] at hxl hpx
      have HTX : Hid (∀ (n : Nat → Option Addr) (c : Nat → Nat) W, Ext wy W → UnitR W u n → Calls Tryd.prog 42 #[unitV u n c] W (fun e w' => e = .returned (.string (bs X)) ∧ Ext W w')) := Lib.hid (fun n c W k hn => by
        have h := unit_text u n c W (hE.ext (XY.out.trans k)) hn (by rw [← hX]; omega) (by omega)
        rwa [← hX] at h)
      have HT1 : Hid (∀ W, Ext wy W → Calls Tryd.prog 42 #[.agg #[v1 0, v1 1, v1 2, v1 3, v1 4, v1 5, v1 6, v1 7]] W (fun e w' => e = .returned (.string (bs X)) ∧ Ext wy w')) := Lib.hid (fun W k => by
        rw [← Q1V.out]
        exact (HTX.out A1 C1 W k (T1.out.ext k)).mono (fun e w' ⟨h1, h2⟩ => ⟨h1, k.trans h2⟩))
      have HP3 : Hid (∀ W, Ext wy W → Calls Tryd.prog 38 #[.string (bs X)] W (fun e w' => ∃ A C, e = .returned (.tuple #[unitV u A C, .int .i64 0, .int .i64 0]) ∧ UnitR w' u A ∧ Ext wy w')) := Lib.hid (fun W k => by
        have h := unit_parse X (by omega) W (hE.ext (XY.out.trans k))
        rw [hpx] at h
        refine h.mono ?_
        intro e w' hp
        obtain ⟨A, C, h1, h2, h3⟩ := hp.strs
        exact ⟨A, C, h1, h2, k.trans h3⟩)
      clear hgu hsu hsn hxl hpx hrt hX
      go_wp2_with fail
      go_region_held3 (fun w' => Ext wy w') (first | exact hb0 | assumption)
        (first
          | (go_at_call 41; have hS0 := ‹Ext wy _›; refine (D1.out _).mono ?_; rintro e w7 ⟨rfl, hx7⟩; have hS2 := hS0.trans hx7)
          | (go_at_call 40; have hS0 := ‹Ext wy _›; refine (s1.out _ hS0).mono ?_; rintro e w7 ⟨rfl, hx7⟩; have hS2 := hS0.trans hx7))
      all_goals
        go_wp2_with fail
        refine (HT1.out _ (by assumption)).mono ?_
        rintro e w8 ⟨rfl, hx8⟩
        go_wp2_with fail
        refine (HP3.out _ hx8).mono ?_
        rintro e w9 ⟨A3, C3, rfl, R3, hx9⟩
        have HB3 := Lib.hid (heap_alloc_new w9 (.cells #[.string (bs u.name), .slice (A3 1) u.files.length (C3 1), .slice (A3 2) u.after.length (C3 2), .slice (A3 3) u.before.length (C3 3), .slice (A3 4) u.reqs.length (C3 4), .slice (A3 5) u.wants.length (C3 5), .slice (A3 6) u.partof.length (C3 6), .int .i64 u.retry] 56))
        have T3 := Lib.hid (UnitR.ext R3 (Ext.alloc w9 (.cells #[.string (bs u.name), .slice (A3 1) u.files.length (C3 1), .slice (A3 2) u.after.length (C3 2), .slice (A3 3) u.before.length (C3 3), .slice (A3 4) u.reqs.length (C3 4), .slice (A3 5) u.wants.length (C3 5), .slice (A3 6) u.partof.length (C3 6), .int .i64 u.retry] 56)))
        have hyz := hx9.trans (Ext.alloc w9 (.cells #[.string (bs u.name), .slice (A3 1) u.files.length (C3 1), .slice (A3 2) u.after.length (C3 2), .slice (A3 3) u.before.length (C3 3), .slice (A3 4) u.reqs.length (C3 4), .slice (A3 5) u.wants.length (C3 5), .slice (A3 6) u.partof.length (C3 6), .int .i64 u.retry] 56))
        clear R3 hx9
        unfold unitV
        go_upto_region 12 with fail
        generalize Value.agg #[.string (bs u.name), .slice (A3 1) u.files.length (C3 1), .slice (A3 2) u.after.length (C3 2), .slice (A3 3) u.before.length (C3 3), .slice (A3 4) u.reqs.length (C3 4), .slice (A3 5) u.wants.length (C3 5), .slice (A3 6) u.partof.length (C3 6), .int .i64 u.retry] = g3
        generalize w9.alloc (.cells #[.string (bs u.name), .slice (A3 1) u.files.length (C3 1), .slice (A3 2) u.after.length (C3 2), .slice (A3 3) u.before.length (C3 3), .slice (A3 4) u.reqs.length (C3 4), .slice (A3 5) u.wants.length (C3 5), .slice (A3 6) u.partof.length (C3 6), .int .i64 u.retry] 56) = wz at *
        obtain ⟨b3, hbb3⟩ : ∃ b, b = w9.heap.size := ⟨_, rfl⟩
        rw [← hbb3] at HB3 ⊢
        obtain ⟨cs3, hcs3⟩ : ∃ cs, cs = (#[.string (bs u.name), .slice (A3 1) u.files.length (C3 1), .slice (A3 2) u.after.length (C3 2), .slice (A3 3) u.before.length (C3 3), .slice (A3 4) u.reqs.length (C3 4), .slice (A3 5) u.wants.length (C3 5), .slice (A3 6) u.partof.length (C3 6), .int .i64 u.retry] : Array Value) := ⟨_, rfl⟩
        have p3 : unitV u A3 C3 = .agg cs3 := by rw [hcs3]; rfl
        have z3 : cs3.size = 8 := by rw [hcs3]; rfl
        have hb3 := HB3.out
        rw [← hcs3] at hb3
        obtain ⟨v3, hv3⟩ : ∃ v : Nat → Value, v = fun j => cs3.getD j (.bool false) := ⟨_, rfl⟩
        have q3 : unitV u A3 C3 = .agg #[v3 0, v3 1, v3 2, v3 3, v3 4, v3 5, v3 6, v3 7] := by rw [hv3, hcs3]; rfl
        have l3 : ∀ W, Ext wz W → ∀ j, j < 8 → W.cell? ⟨b3, j, none⟩ = some (v3 j) := fun W k j hj => by rw [hv3]; exact blk_fun (k.heap hb3) z3 j hj
        have c3 : ∀ W, Calls Tryd.prog 41 #[.agg #[v3 0, v3 1, v3 2, v3 3, v3 4, v3 5, v3 6, v3 7]] W (fun e w' => e = .returned (.agg cs3) ∧ Ext W w') := fun W => by rw [← q3, ← p3]; exact plain_13 u A3 C3 W
        have l1z : ∀ W, Ext wz W → ∀ j, j < 8 → W.cell? ⟨b1, j, none⟩ = some (v1 j) := fun W k => l1 W (hyz.trans k)
        have l2z : ∀ W, Ext wz W → ∀ j, j < 8 → W.cell? ⟨b2, j, none⟩ = some (v2 j) := fun W k => l2 W (hyz.trans k)
        have s3 : Hid (∀ W, Ext wz W → Calls Tryd.prog 40 #[.agg cs3, .agg #[v2 0, v2 1, v2 2, v2 3, v2 4, v2 5, v2 6, v2 7]] W (fun e w' => e = .returned (.bool true) ∧ Ext wz w')) := Lib.hid (fun W k => (by rw [← p3, ← Q2V.out]; exact same_13 u u A3 A2 C3 C2 W (UnitR.ext T3.out k) (T2.out.ext (hyz.trans k)) (fun f h1 h6 => Nat.le_trans (HRW.out f h1 h6) (by decide)) : Calls Tryd.prog 40 #[.agg cs3, .agg #[v2 0, v2 1, v2 2, v2 3, v2 4, v2 5, v2 6, v2 7]] W (SameR u u W)).mono (by rintro e w7 ⟨bb, rfl, hbb, hx7⟩; exact ⟨by rw [hbb.2 rfl], k.trans hx7⟩))
        have D3 : Hid (∀ W, Ext wz W → Calls Tryd.prog 41 #[.agg #[v3 0, v3 1, v3 2, v3 3, v3 4, v3 5, v3 6, v3 7]] W (fun e w' => e = .returned (.agg cs3) ∧ Ext wz w')) := Lib.hid (fun W k => (c3 W).mono (fun e w' ⟨h1, h2⟩ => ⟨h1, k.trans h2⟩))
        have HT1z : Hid (∀ W, Ext wz W → Calls Tryd.prog 42 #[.agg #[v1 0, v1 1, v1 2, v1 3, v1 4, v1 5, v1 6, v1 7]] W (fun e w' => e = .returned (.string (bs X)) ∧ Ext wz w')) := Lib.hid (fun W k => by
          rw [← Q1V.out]
          exact (HTX.out A1 C1 W (hyz.trans k) (T1.out.ext (hyz.trans k))).mono (fun e w' ⟨h1, h2⟩ => ⟨h1, k.trans h2⟩))
        have HT3z : Hid (∀ W, Ext wz W → Calls Tryd.prog 42 #[.agg #[v3 0, v3 1, v3 2, v3 3, v3 4, v3 5, v3 6, v3 7]] W (fun e w' => e = .returned (.string (bs X)) ∧ Ext wz w')) := Lib.hid (fun W k => by
          rw [← q3]
          exact (HTX.out A3 C3 W (hyz.trans k) (UnitR.ext T3.out k)).mono (fun e w' ⟨h1, h2⟩ => ⟨h1, k.trans h2⟩))
        have XZ := Lib.hid (XY.out.trans hyz)
        have hz0 : Ext wz wz.drew := (Ext.refl wz).drew
        clear l1 l2 c3 p3 q3 hv3 hcs3 z3 hb3 hbb3 HB3 T1 T2 T3 HTX HT1 HP3 D1 s1 Q1V Q2V P1V hyz hx8 hb0 HRW
        go_wp2_with fail
        go_region_held3 (fun w' => Ext wz w') (first | exact hz0 | assumption)
          (first
            | (go_at_call 41; refine (D3.out _ (by assumption)).mono ?_; rintro e w7 ⟨rfl, hx7⟩)
            | (go_at_call 40; refine (s3.out _ (by assumption)).mono ?_; rintro e w7 ⟨rfl, hx7⟩)
            | (go_at_call_of 42 (Value.agg #[v1 0, v1 1, v1 2, v1 3, v1 4, v1 5, v1 6, v1 7]); refine (HT1z.out _ (by assumption)).mono ?_; rintro e w7 ⟨rfl, hx7⟩)
            | (go_at_call_of 42 (Value.agg #[v3 0, v3 1, v3 2, v3 3, v3 4, v3 5, v3 6, v3 7]); refine (HT3z.out _ (by assumption)).mono ?_; rintro e w7 ⟨rfl, hx7⟩))
        all_goals
          go_wp2_with fail
          rw [HR.out]
          exact ⟨rfl, XZ.out.trans (by assumption)⟩
    · have hmb : ((m : Int) != 0) = true := by simp; omega
      clear hm HG
      go_wp2_with fail
      go_region_held3 (fun w' => Ext wy w') (first | exact hb0 | assumption)
        (first
          | (go_at_call 41; have hS0 := ‹Ext wy _›; refine (D1.out _).mono ?_; rintro e w7 ⟨rfl, hx7⟩; have hS2 := hS0.trans hx7)
          | (go_at_call 40; have hS0 := ‹Ext wy _›; refine (s1.out _ hS0).mono ?_; rintro e w7 ⟨rfl, hx7⟩; have hS2 := hS0.trans hx7))
      all_goals
        go_wp2_with fail
        rw [HR.out]
        exact ⟨rfl, XY.out.trans (by assumption)⟩
end Go.Proofs.YtedfpoidggpkdaaDoor
