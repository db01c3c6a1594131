/- The walk of farrierlaw06.TreeLinks. -/
import Derived.Test.YtldgpcmnmegioaaDoorAlive06
namespace Go.Proofs.YtldgpcmnmegioaaDoor
open Go.RowKit
theorem one_cell {w : World} {base : Nat} {a : Option Addr} {c : Nat} {x : Int} (h : OwnIs w base a c [x]) : ∃ g off, a = some ⟨g, off, none⟩ ∧ 1 ≤ c ∧ w.cell? ⟨g, off, none⟩ = some (.int .i64 x) := by
  obtain ⟨a', c', hv, hn, hr, _⟩ := run_of_row h
  cases hv
  rcases hr with hr | ⟨g, off, ha, _, hc⟩
  · cases hr
  · exact ⟨g, off, ha, hn, hc 0 _ rfl⟩
set_option maxRecDepth 100000 in
set_option maxHeartbeats 25600000 in
theorem tree_links (a1 : Option Addr) (c1 : Nat) (l1 : By) (a2 : Option Addr) (c2 : Nat) (l2 : By) (rn : Bool) (w : World) (hE : Env w) (hB1 : Bytes w a1 l1) (hB2 : Bytes w a2 l2) :
    Calls Tryd.prog 4 #[.slice a1 l1.length c1, .slice a2 l2.length c2, .bool rn] w fun e w' => e = .returned (.bool true) ∧ Ext w w' := by
  obtain ⟨R, hR⟩ : ∃ R : Ending → World → Prop, R = fun e w' => e = .returned (.bool true) ∧ Ext w w' := ⟨_, rfl⟩
  rw [← hR]
  have HR := Lib.hid hR; clear hR
  have HAL := Lib.hid (alive06 w hE)
  have HE := Lib.hid hE; clear hE
  have HB1 := Lib.hid hB1; clear hB1
  have HB2 := Lib.hid hB2; clear hB2
  go_enter Tryd.func4, Tryd.ntmps4
  go_upto_region 3 with (go_at_call 5; refine HAL.out.mono ?_; rintro E w0 ⟨rfl, hx⟩; have HX0 := Lib.hid hx; clear hx)
  by_cases h1 : 3500 < l1.length
  · have hd1 : decide ((3500 : Int) < (l1.length : Int)) = true := decide_eq_true (by omega)
    go_wp2_with fail
    all_goals (rw [HR.out]; exact ⟨rfl, HX0.out⟩)
  · have hd1 : decide ((3500 : Int) < (l1.length : Int)) = false := decide_eq_false (by omega)
    by_cases h2 : 3500 < l2.length
    · have hd2 : decide ((3500 : Int) < (l2.length : Int)) = true := decide_eq_true (by omega)
      go_wp2_with fail
      all_goals (rw [HR.out]; exact ⟨rfl, HX0.out⟩)
    · have hd2 : decide ((3500 : Int) < (l2.length : Int)) = false := decide_eq_false (by omega)
      have hnew := at_New 8000 w0
      obtain ⟨S, hS⟩ : ∃ S, S = w0.heap.size := ⟨_, rfl⟩
      rw [← hS] at hnew
      have HNEW := Lib.hid hnew; clear hnew
      have HS : Hid (w.heap.size ≤ S) := Lib.hid (by rw [hS]; exact HX0.out.size)
      clear hS
      go_upto_region 7 with (first
        | (go_at_call 7; refine HNEW.out.mono ?_; rintro E w1 ⟨tb, rfl, hT, hx⟩; have HT := Lib.hid hT; have HX := Lib.hid (HX0.out.trans hx); clear hT hx)
        | (go_at_call 8; refine Hid.out ?_))
      refine Lib.hid ?_
      have hx_w2 : Ext w1 (w1.alloc (.cells #[.int .i64 2, .string ⟨#[47, 97]⟩, .string ⟨#[]⟩, .slice a1 l1.length c1, .int .i64 4, .string ⟨#[47, 97]⟩, .string ⟨#[47, 98]⟩, .slice none 0 0, .int .i64 3, .string ⟨#[47, 97]⟩, .string ⟨#[]⟩, .slice a2 l2.length c2] 36)) := (Ext.alloc w1 (.cells #[.int .i64 2, .string ⟨#[47, 97]⟩, .string ⟨#[]⟩, .slice a1 l1.length c1, .int .i64 4, .string ⟨#[47, 97]⟩, .string ⟨#[47, 98]⟩, .slice none 0 0, .int .i64 3, .string ⟨#[47, 97]⟩, .string ⟨#[]⟩, .slice a2 l2.length c2] 36))
      have ho := heap_alloc_new w1 (.cells #[.int .i64 2, .string ⟨#[47, 97]⟩, .string ⟨#[]⟩, .slice a1 l1.length c1, .int .i64 4, .string ⟨#[47, 97]⟩, .string ⟨#[47, 98]⟩, .slice none 0 0, .int .i64 3, .string ⟨#[47, 97]⟩, .string ⟨#[]⟩, .slice a2 l2.length c2] 36)
      generalize (w1.alloc (.cells #[.int .i64 2, .string ⟨#[47, 97]⟩, .string ⟨#[]⟩, .slice a1 l1.length c1, .int .i64 4, .string ⟨#[47, 97]⟩, .string ⟨#[47, 98]⟩, .slice none 0 0, .int .i64 3, .string ⟨#[47, 97]⟩, .string ⟨#[]⟩, .slice a2 l2.length c2] 36)) = w2 at ho hx_w2  ⊢
      have hops : OpsL w2 (some ⟨w1.heap.size, 0, none⟩) ([(⟨2, [47, 97], [], l1⟩, ⟨a1, c1⟩), (⟨4, [47, 97], [47, 98], []⟩, ⟨none, 0⟩), (⟨3, [47, 97], [], l2⟩, ⟨a2, c2⟩)] : List (OpD × OpA)) := ops_blk ho (by
        intro z hz
        simp only [List.mem_cons, List.not_mem_nil, or_false] at hz
        rcases hz with rfl | rfl | rfl
        · exact (HB1.out.ext HX.out).ext hx_w2
        · exact Or.inl rfl
        · exact (HB2.out.ext HX.out).ext hx_w2)
      refine (at_Do _ _ ([(⟨2, [47, 97], [], l1⟩, ⟨a1, c1⟩), (⟨4, [47, 97], [47, 98], []⟩, ⟨none, 0⟩), (⟨3, [47, 97], [], l2⟩, ⟨a2, c2⟩)] : List (OpD × OpA)) (HE.out.ext (HX.out.trans hx_w2)) (HT.out.ext hx_w2) hops (by simp only [List.length_cons, List.length_nil]; omega)).mono ?_
      obtain ⟨hz0, hone⟩ := one_made l1 l2 (by omega) (by omega) (o1 := ⟨2, [47, 97], [], l1⟩) (o2 := ⟨4, [47, 97], [47, 98], []⟩) (o3 := ⟨3, [47, 97], [], l2⟩) rfl rfl rfl
      have hz : (doT (newT 8000) (List.map Prod.fst ([(⟨2, [47, 97], [], l1⟩, ⟨a1, c1⟩), (⟨4, [47, 97], [47, 98], []⟩, ⟨none, 0⟩), (⟨3, [47, 97], [], l2⟩, ⟨a2, c2⟩)] : List (OpD × OpA)))).2 = 0 := hz0
      rintro E w3 ⟨rfl, hT, hk⟩
      rw [hz]
      have htb := HT.out.low.1
      have hx := ext_do (HX.out.trans hx_w2) (by have := HS.out; omega) hk
      simp only [List.length_cons, List.length_nil] at hT
      obtain ⟨T1, hT1⟩ : ∃ T1, T1 = (doT (newT 8000) [⟨2, [47, 97], [], l1⟩, ⟨4, [47, 97], [47, 98], []⟩, ⟨3, [47, 97], [], l2⟩]).1 := ⟨_, rfl⟩
      rw [← hT1] at hone
      replace hT : TreeAt w3 S tb 8 T1 := by rw [hT1]; exact hT
      clear hT1
      have HONE := Lib.hid hone; clear hone
      replace HT := Lib.hid hT
      replace HX := Lib.hid hx
      clear hT hk hx hx_w2 ho hops hz hz0 htb
      have hfa : findT T1 [47, 97] = 2 := findA 2 (by rw [HONE.out.kid]; exact kAB_a)
      have hfb : findT T1 [47, 98] = 2 := findB 2 (by rw [HONE.out.kid]; exact kAB_b)
      have hrd := read_file [47, 98] (HE.out.ext HX.out) HT.out (by omega) hfb (by decide) HONE.out.fdir (l := l2) (by rw [HONE.out.file])
      have HRD := Lib.hid hrd; clear hrd
      have hf1 := fun W (k : Ext w3 W) => at_Find [47, 97] (HE.out.ext (HX.out.trans k)) (HT.out.ext k) (by omega)
      rw [hfa] at hf1
      have HF1 := Lib.hid hf1; clear hf1
      have hf2 := fun W (k : Ext w3 W) => at_Find [47, 98] (HE.out.ext (HX.out.trans k)) (HT.out.ext k) (by omega)
      rw [hfb] at hf2
      have HF2 := Lib.hid hf2; clear hf2 hfa hfb
      go_upto_region 9 with (go_at_call 13; refine HRD.out.mono ?_; rintro E w4 ⟨ax, cx, rfl, hbx, hx⟩; have HBX := Lib.hid hbx; have HX4 := Lib.hid hx; clear hbx hx)
      go_upto_region 10 with (go_at_call 12; refine (HF1.out _ HX4.out).mono ?_; rintro E w5 ⟨rfl, hx⟩; have HX5 := Lib.hid (HX4.out.trans hx); replace HBX := Lib.hid (HBX.out.keep (Keep.of_ext (S := fun _ => True) hx) (datas_all _)); clear hx)
      go_upto_region 11 with (go_at_call 12; refine (HF2.out _ HX5.out).mono ?_; rintro E w6 ⟨rfl, hx⟩; have HX6 := Lib.hid (HX5.out.trans hx); replace HBX := Lib.hid (HBX.out.keep (Keep.of_ext (S := fun _ => True) hx) (datas_all _)); clear hx)
      have u1 := conv_text (c := cx) HBX.out.bytes
      have u2 := conv_text (c := c2) (HB2.out.ext (HX.out.trans HX6.out))
      have hus := fun W (k : Ext w3 W) => at_Used (HT.out.ext k) (by omega)
      rw [HONE.out.used] at hus
      have HUS := Lib.hid hus; clear hus
      have hdec : decide ((2 : Int) ≠ 0) = true := by decide
      go_upto_region 13 with (go_at_call 11; refine (HUS.out _ HX6.out).mono ?_; rintro E w7 ⟨rfl, hx⟩; have HX7 := Lib.hid (HX6.out.trans hx); clear hx)
      clear u1 u2 hdec
      replace HT := Lib.hid (HT.out.ext HX7.out)
      replace HX := Lib.hid (HX.out.trans HX7.out)
      clear HX4 HX5 HX6 HX7 HRD HF1 HF2 HUS HBX HB1
      have hpa : placeT T1 [47, 97] = .at 1 [97] := placeA HONE.out.dir
      have HPA := Lib.hid hpa; clear hpa
      cases rn with
      | false =>
        go_upto_region 17 with (go_at_call 8; refine Hid.out ?_)
        refine Lib.hid ?_
        have hx_y1 : Ext w7 (w7.alloc (.cells #[.int .i64 6, .string ⟨#[47, 97]⟩, .string ⟨#[]⟩, .slice none 0 0] 36)) := (Ext.alloc w7 (.cells #[.int .i64 6, .string ⟨#[47, 97]⟩, .string ⟨#[]⟩, .slice none 0 0] 36))
        have ho := heap_alloc_new w7 (.cells #[.int .i64 6, .string ⟨#[47, 97]⟩, .string ⟨#[]⟩, .slice none 0 0] 36)
        generalize (w7.alloc (.cells #[.int .i64 6, .string ⟨#[47, 97]⟩, .string ⟨#[]⟩, .slice none 0 0] 36)) = y1 at ho hx_y1  ⊢
        have hops : OpsL y1 (some ⟨w7.heap.size, 0, none⟩) ([(⟨6, [47, 97], [], []⟩, ⟨none, 0⟩)] : List (OpD × OpA)) := ops_blk ho (by
          intro z hz
          simp only [List.mem_cons, List.not_mem_nil, or_false] at hz
          rcases hz with rfl
          · exact Or.inl rfl)
        refine (at_Do _ _ ([(⟨6, [47, 97], [], []⟩, ⟨none, 0⟩)] : List (OpD × OpA)) (HE.out.ext (HX.out.trans hx_y1)) (HT.out.ext hx_y1) hops (by simp only [List.length_cons, List.length_nil]; omega)).mono ?_
        obtain ⟨hz0, hone⟩ := one_unlink HONE.out (by omega) (x := [97]) (o := ⟨6, [47, 97], [], []⟩) rfl (by simp) HPA.out kAB_a
        have hz : (doT T1 (List.map Prod.fst ([(⟨6, [47, 97], [], []⟩, ⟨none, 0⟩)] : List (OpD × OpA)))).2 = 0 := hz0
        rintro E y2 ⟨rfl, hT, hk⟩
        rw [hz]
        have htb := HT.out.low.1
        have hx := ext_do (HX.out.trans hx_y1) (by have := HS.out; omega) hk
        simp only [List.length_cons, List.length_nil] at hT
        obtain ⟨T2, hT2⟩ : ∃ T2, T2 = (doT T1 [⟨6, [47, 97], [], []⟩]).1 := ⟨_, rfl⟩
        rw [← hT2] at hone
        replace hT : TreeAt y2 S tb 10 T2 := by rw [hT2]; exact hT
        clear hT2
        have HONE2 : Hid (One T2 kB (2 - 1) l2) := Lib.hid hone
        clear hone
        replace HT := Lib.hid hT
        replace HX := Lib.hid hx
        clear hT hk hx hx_y1 ho hops hz hz0 htb
        have hpb : placeT T2 [47, 98] = .at 1 [98] := placeB HONE2.out.dir
        have HPB := Lib.hid hpb; clear hpb
        have hlo := at_Loose HT.out (by omega)
        rw [HONE2.out.loose, if_neg (by omega)] at hlo
        have HLO := Lib.hid hlo; clear hlo
        go_upto_region 17 with (first
          | (go_at_call 15; refine HLO.out.mono ?_; rintro E y3 ⟨al, cl, rfl, _, hx⟩; have HXL := Lib.hid hx; clear hx)
          | (go_at_call 8; refine Hid.out ?_))
        refine Lib.hid ?_
        replace HT := Lib.hid (HT.out.ext HXL.out)
        replace HX := Lib.hid (HX.out.trans HXL.out)
        clear HLO HXL
        have hx_y4 : Ext y3 (y3.alloc (.cells #[.int .i64 6, .string ⟨#[47, 98]⟩, .string ⟨#[]⟩, .slice none 0 0] 36)) := (Ext.alloc y3 (.cells #[.int .i64 6, .string ⟨#[47, 98]⟩, .string ⟨#[]⟩, .slice none 0 0] 36))
        have ho := heap_alloc_new y3 (.cells #[.int .i64 6, .string ⟨#[47, 98]⟩, .string ⟨#[]⟩, .slice none 0 0] 36)
        generalize (y3.alloc (.cells #[.int .i64 6, .string ⟨#[47, 98]⟩, .string ⟨#[]⟩, .slice none 0 0] 36)) = y4 at ho hx_y4  ⊢
        have hops : OpsL y4 (some ⟨y3.heap.size, 0, none⟩) ([(⟨6, [47, 98], [], []⟩, ⟨none, 0⟩)] : List (OpD × OpA)) := ops_blk ho (by
          intro z hz
          simp only [List.mem_cons, List.not_mem_nil, or_false] at hz
          rcases hz with rfl
          · exact Or.inl rfl)
        refine (at_Do _ _ ([(⟨6, [47, 98], [], []⟩, ⟨none, 0⟩)] : List (OpD × OpA)) (HE.out.ext (HX.out.trans hx_y4)) (HT.out.ext hx_y4) hops (by simp only [List.length_cons, List.length_nil]; omega)).mono ?_
        obtain ⟨hz0, hone⟩ := one_unlink HONE2.out (by omega) (x := [98]) (o := ⟨6, [47, 98], [], []⟩) rfl (by simp) HPB.out kB_b
        have hz : (doT T2 (List.map Prod.fst ([(⟨6, [47, 98], [], []⟩, ⟨none, 0⟩)] : List (OpD × OpA)))).2 = 0 := hz0
        rintro E y5 ⟨rfl, hT, hk⟩
        rw [hz]
        have htb := HT.out.low.1
        have hx := ext_do (HX.out.trans hx_y4) (by have := HS.out; omega) hk
        simp only [List.length_cons, List.length_nil] at hT
        obtain ⟨T3, hT3⟩ : ∃ T3, T3 = (doT T2 [⟨6, [47, 98], [], []⟩]).1 := ⟨_, rfl⟩
        rw [← hT3] at hone
        replace hT : TreeAt y5 S tb 12 T3 := by rw [hT3]; exact hT
        clear hT3
        have HONE3 : Hid (One T3 k0 (2 - 1 - 1) l2) := Lib.hid hone
        clear hone
        replace HT := Lib.hid hT
        replace HX := Lib.hid hx
        clear hT hk hx hx_y4 ho hops hz hz0 htb
        have hlo := fun W (k : Ext y5 W) => at_Loose (HT.out.ext k) (by omega)
        rw [HONE3.out.loose, if_pos (by omega)] at hlo
        have HLO := Lib.hid hlo; clear hlo
        have hus := fun W (k : Ext y5 W) => at_Used (HT.out.ext k) (by omega)
        rw [HONE3.out.used] at hus
        have HUS := Lib.hid hus; clear hus
        go_upto_region 17 with fail
        go_wp2_with (go_at_call 15; refine Hid.out ?_)
        refine Lib.hid ?_
        refine (HLO.out _ (Ext.refl _)).mono ?_
        rintro E y6 ⟨a6, c6, rfl, _, hx6⟩
        have HX6 := Lib.hid hx6; clear hx6
        go_wp2_with (go_at_call 15; refine Hid.out ?_)
        refine Lib.hid ?_
        refine (HLO.out _ HX6.out).mono ?_
        rintro E y7 ⟨a7, c7, rfl, ho7, hx7⟩
        obtain ⟨g7, o7, rfl, hc7, q7⟩ := one_cell ho7
        have HX7 := Lib.hid (HX6.out.trans hx7); clear hx7 ho7
        simp only [List.length_cons, List.length_nil, Nat.zero_add]
        go_wp2_with (go_at_call 11; refine (HUS.out _ HX7.out).mono ?_; rintro E y8 ⟨rfl, hx⟩; have HX8 := Lib.hid (HX7.out.trans hx); clear hx)
        rw [HR.out]
        exact ⟨rfl, HX.out.trans HX8.out⟩
      | true =>
        go_upto_region 15 with (go_at_call 8; refine Hid.out ?_)
        refine Lib.hid ?_
        have hx_x1 : Ext w7 (w7.alloc (.cells #[.int .i64 5, .string ⟨#[47, 97]⟩, .string ⟨#[47, 98]⟩, .slice none 0 0] 36)) := (Ext.alloc w7 (.cells #[.int .i64 5, .string ⟨#[47, 97]⟩, .string ⟨#[47, 98]⟩, .slice none 0 0] 36))
        have ho := heap_alloc_new w7 (.cells #[.int .i64 5, .string ⟨#[47, 97]⟩, .string ⟨#[47, 98]⟩, .slice none 0 0] 36)
        generalize (w7.alloc (.cells #[.int .i64 5, .string ⟨#[47, 97]⟩, .string ⟨#[47, 98]⟩, .slice none 0 0] 36)) = x1 at ho hx_x1  ⊢
        have hops : OpsL x1 (some ⟨w7.heap.size, 0, none⟩) ([(⟨5, [47, 97], [47, 98], []⟩, ⟨none, 0⟩)] : List (OpD × OpA)) := ops_blk ho (by
          intro z hz
          simp only [List.mem_cons, List.not_mem_nil, or_false] at hz
          rcases hz with rfl
          · exact Or.inl rfl)
        refine (at_Do _ _ ([(⟨5, [47, 97], [47, 98], []⟩, ⟨none, 0⟩)] : List (OpD × OpA)) (HE.out.ext (HX.out.trans hx_x1)) (HT.out.ext hx_x1) hops (by simp only [List.length_cons, List.length_nil]; omega)).mono ?_
        have hz1 := one_rename HONE.out (by omega) (o := ⟨5, [47, 97], [47, 98], []⟩) rfl (by simp) rfl rfl
        have hz0 : (doT T1 [⟨5, [47, 97], [47, 98], []⟩]).2 = 0 := by rw [hz1]
        have hz : (doT T1 (List.map Prod.fst ([(⟨5, [47, 97], [47, 98], []⟩, ⟨none, 0⟩)] : List (OpD × OpA)))).2 = 0 := hz0
        rintro E x2 ⟨rfl, hT, hk⟩
        rw [hz]
        have htb := HT.out.low.1
        have hx := ext_do (HX.out.trans hx_x1) (by have := HS.out; omega) hk
        simp only [List.length_cons, List.length_nil] at hT
        replace hT : TreeAt x2 S tb 10 T1 := by
          have e : (doT T1 [⟨5, [47, 97], [47, 98], []⟩]).1 = T1 := by rw [hz1]
          rw [← e]
          exact hT
        clear hz1
        replace HT := Lib.hid hT
        replace HX := Lib.hid hx
        clear hT hk hx hx_x1 ho hops hz hz0 htb
        have hdi := at_Dir [47] (HE.out.ext HX.out) HT.out (by omega)
        rw [findR, HONE.out.dir] at hdi
        have HDI := Lib.hid hdi; clear hdi
        have hno := fun W (k : Ext x2 W) => at_Nodes (HT.out.ext k)
        rw [HONE.out.ids] at hno
        have HNO := Lib.hid hno; clear hno
        go_upto_region 15 with (first
          | (go_at_call 14; refine HDI.out.mono ?_; rintro E x3 ⟨rfl, hx⟩; have HX3 := Lib.hid hx; clear hx)
          | (go_at_call 10; refine (HNO.out _ HX3.out).mono ?_; rintro E x4 ⟨rfl, hx⟩; have HX4 := Lib.hid (HX3.out.trans hx); clear hx))
        replace HT := Lib.hid (HT.out.ext HX4.out)
        replace HX := Lib.hid (HX.out.trans HX4.out)
        clear HDI HNO HX3 HX4
        go_upto_region 17 with (go_at_call 8; refine Hid.out ?_)
        refine Lib.hid ?_
        have hx_y1 : Ext x4 (x4.alloc (.cells #[.int .i64 6, .string ⟨#[47, 97]⟩, .string ⟨#[]⟩, .slice none 0 0] 36)) := (Ext.alloc x4 (.cells #[.int .i64 6, .string ⟨#[47, 97]⟩, .string ⟨#[]⟩, .slice none 0 0] 36))
        have ho := heap_alloc_new x4 (.cells #[.int .i64 6, .string ⟨#[47, 97]⟩, .string ⟨#[]⟩, .slice none 0 0] 36)
        generalize (x4.alloc (.cells #[.int .i64 6, .string ⟨#[47, 97]⟩, .string ⟨#[]⟩, .slice none 0 0] 36)) = y1 at ho hx_y1  ⊢
        have hops : OpsL y1 (some ⟨x4.heap.size, 0, none⟩) ([(⟨6, [47, 97], [], []⟩, ⟨none, 0⟩)] : List (OpD × OpA)) := ops_blk ho (by
          intro z hz
          simp only [List.mem_cons, List.not_mem_nil, or_false] at hz
          rcases hz with rfl
          · exact Or.inl rfl)
        refine (at_Do _ _ ([(⟨6, [47, 97], [], []⟩, ⟨none, 0⟩)] : List (OpD × OpA)) (HE.out.ext (HX.out.trans hx_y1)) (HT.out.ext hx_y1) hops (by simp only [List.length_cons, List.length_nil]; omega)).mono ?_
        obtain ⟨hz0, hone⟩ := one_unlink HONE.out (by omega) (x := [97]) (o := ⟨6, [47, 97], [], []⟩) rfl (by simp) HPA.out kAB_a
        have hz : (doT T1 (List.map Prod.fst ([(⟨6, [47, 97], [], []⟩, ⟨none, 0⟩)] : List (OpD × OpA)))).2 = 0 := hz0
        rintro E y2 ⟨rfl, hT, hk⟩
        rw [hz]
        have htb := HT.out.low.1
        have hx := ext_do (HX.out.trans hx_y1) (by have := HS.out; omega) hk
        simp only [List.length_cons, List.length_nil] at hT
        obtain ⟨T2, hT2⟩ : ∃ T2, T2 = (doT T1 [⟨6, [47, 97], [], []⟩]).1 := ⟨_, rfl⟩
        rw [← hT2] at hone
        replace hT : TreeAt y2 S tb 12 T2 := by rw [hT2]; exact hT
        clear hT2
        have HONE2 : Hid (One T2 kB (2 - 1) l2) := Lib.hid hone
        clear hone
        replace HT := Lib.hid hT
        replace HX := Lib.hid hx
        clear hT hk hx hx_y1 ho hops hz hz0 htb
        have hpb : placeT T2 [47, 98] = .at 1 [98] := placeB HONE2.out.dir
        have HPB := Lib.hid hpb; clear hpb
        have hlo := at_Loose HT.out (by omega)
        rw [HONE2.out.loose, if_neg (by omega)] at hlo
        have HLO := Lib.hid hlo; clear hlo
        go_upto_region 17 with (first
          | (go_at_call 15; refine HLO.out.mono ?_; rintro E y3 ⟨al, cl, rfl, _, hx⟩; have HXL := Lib.hid hx; clear hx)
          | (go_at_call 8; refine Hid.out ?_))
        refine Lib.hid ?_
        replace HT := Lib.hid (HT.out.ext HXL.out)
        replace HX := Lib.hid (HX.out.trans HXL.out)
        clear HLO HXL
        have hx_y4 : Ext y3 (y3.alloc (.cells #[.int .i64 6, .string ⟨#[47, 98]⟩, .string ⟨#[]⟩, .slice none 0 0] 36)) := (Ext.alloc y3 (.cells #[.int .i64 6, .string ⟨#[47, 98]⟩, .string ⟨#[]⟩, .slice none 0 0] 36))
        have ho := heap_alloc_new y3 (.cells #[.int .i64 6, .string ⟨#[47, 98]⟩, .string ⟨#[]⟩, .slice none 0 0] 36)
        generalize (y3.alloc (.cells #[.int .i64 6, .string ⟨#[47, 98]⟩, .string ⟨#[]⟩, .slice none 0 0] 36)) = y4 at ho hx_y4  ⊢
        have hops : OpsL y4 (some ⟨y3.heap.size, 0, none⟩) ([(⟨6, [47, 98], [], []⟩, ⟨none, 0⟩)] : List (OpD × OpA)) := ops_blk ho (by
          intro z hz
          simp only [List.mem_cons, List.not_mem_nil, or_false] at hz
          rcases hz with rfl
          · exact Or.inl rfl)
        refine (at_Do _ _ ([(⟨6, [47, 98], [], []⟩, ⟨none, 0⟩)] : List (OpD × OpA)) (HE.out.ext (HX.out.trans hx_y4)) (HT.out.ext hx_y4) hops (by simp only [List.length_cons, List.length_nil]; omega)).mono ?_
        obtain ⟨hz0, hone⟩ := one_unlink HONE2.out (by omega) (x := [98]) (o := ⟨6, [47, 98], [], []⟩) rfl (by simp) HPB.out kB_b
        have hz : (doT T2 (List.map Prod.fst ([(⟨6, [47, 98], [], []⟩, ⟨none, 0⟩)] : List (OpD × OpA)))).2 = 0 := hz0
        rintro E y5 ⟨rfl, hT, hk⟩
        rw [hz]
        have htb := HT.out.low.1
        have hx := ext_do (HX.out.trans hx_y4) (by have := HS.out; omega) hk
        simp only [List.length_cons, List.length_nil] at hT
        obtain ⟨T3, hT3⟩ : ∃ T3, T3 = (doT T2 [⟨6, [47, 98], [], []⟩]).1 := ⟨_, rfl⟩
        rw [← hT3] at hone
        replace hT : TreeAt y5 S tb 14 T3 := by rw [hT3]; exact hT
        clear hT3
        have HONE3 : Hid (One T3 k0 (2 - 1 - 1) l2) := Lib.hid hone
        clear hone
        replace HT := Lib.hid hT
        replace HX := Lib.hid hx
        clear hT hk hx hx_y4 ho hops hz hz0 htb
        have hlo := fun W (k : Ext y5 W) => at_Loose (HT.out.ext k) (by omega)
        rw [HONE3.out.loose, if_pos (by omega)] at hlo
        have HLO := Lib.hid hlo; clear hlo
        have hus := fun W (k : Ext y5 W) => at_Used (HT.out.ext k) (by omega)
        rw [HONE3.out.used] at hus
        have HUS := Lib.hid hus; clear hus
        go_upto_region 17 with fail
        go_wp2_with (go_at_call 15; refine Hid.out ?_)
        refine Lib.hid ?_
        refine (HLO.out _ (Ext.refl _)).mono ?_
        rintro E y6 ⟨a6, c6, rfl, _, hx6⟩
        have HX6 := Lib.hid hx6; clear hx6
        go_wp2_with (go_at_call 15; refine Hid.out ?_)
        refine Lib.hid ?_
        refine (HLO.out _ HX6.out).mono ?_
        rintro E y7 ⟨a7, c7, rfl, ho7, hx7⟩
        obtain ⟨g7, o7, rfl, hc7, q7⟩ := one_cell ho7
        have HX7 := Lib.hid (HX6.out.trans hx7); clear hx7 ho7
        simp only [List.length_cons, List.length_nil, Nat.zero_add]
        go_wp2_with (go_at_call 11; refine (HUS.out _ HX7.out).mono ?_; rintro E y8 ⟨rfl, hx⟩; have HX8 := Lib.hid (HX7.out.trans hx); clear hx)
        rw [HR.out]
        exact ⟨rfl, HX.out.trans HX8.out⟩
end Go.Proofs.YtldgpcmnmegioaaDoor
