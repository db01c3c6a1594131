/- base.Get: a package that is there, by its name. -/
import Derived.Test.YtnclibfhbngkjaaGreatDoorBaseWith
namespace Go.Proofs.YtnclibfhbngkjaaGreatDoor
open Go.RowKit
attribute [local go_sem ↓] Go.wp_at_zero Go.wp_at_succ
theorem wpList_look_run {w : World} {ops : Array Oper} {rest : List Oper} {o : Oper} {a : Act} {Q : Exit → Act → World → Prop} (hg : o.guard = none) (m x : Operand) (t : TypeId) (b : Bool) (hop : o.op = Op.lookup t m x b) (mv key r : Value) (hm : a.eval m = mv) (hx : a.eval x = key)
    (hrun : (Instr.lookup t mv key b).run Tryz.prog w = .ok r w) (hK : wpList Tryz.prog ops Q rest (a.put o.dst r) w) : wpList Tryz.prog ops Q (o :: rest) a w := by
  refine wpList_plain hg fun K' hK' => ?_
  unfold Oper.wp
  simp [execOp, hop, hm, hx, hrun, Result.andThen]
  exact hK' _ _ hK
theorem set6e {w : World} {R : Nat} {t : TypeId} {a0 a1 a2 a3 a4 a5 : Value} (hg : w.heap[R]? = some (.cells #[a0, a1, a2, a3, a4, a5] t (0, 0))) (v0 v1 v2 v3 v4 v5 : Value) :
    ((((((w.setCell ⟨R, 0, none⟩ v0).setCell ⟨R, 1, none⟩ v1).setCell ⟨R, 2, none⟩ v2).setCell ⟨R, 3, none⟩ v3).setCell ⟨R, 4, none⟩ v4).setCell ⟨R, 5, none⟩ v5).heap[R]? = some (.cells #[v0, v1, v2, v3, v4, v5] t (0, 0)) ∧
    But R w ((((((w.setCell ⟨R, 0, none⟩ v0).setCell ⟨R, 1, none⟩ v1).setCell ⟨R, 2, none⟩ v2).setCell ⟨R, 3, none⟩ v3).setCell ⟨R, 4, none⟩ v4).setCell ⟨R, 5, none⟩ v5) := by
  refine ⟨?_, ((((((But.refl R w).setCell 0 _).setCell 1 _).setCell 2 _).setCell 3 _).setCell 4 _).setCell 5 _⟩
  exact setCell_row (setCell_row (setCell_row (setCell_row (setCell_row (setCell_row hg v0) v1) v2) v3) v4) v5
/-- What Get answers. -/
def GetR (e : PkgD) (y : Bool) (w : World) (E : Ending) (w' : World) : Prop := ∃ A, E = .returned (.tuple #[pkgV e A, .bool y]) ∧ EntM w' e A ∧ PkgC e A ∧ Ext w w'
set_option maxRecDepth 100000 in
set_option maxHeartbeats 6400000 in
theorem get_core (pm : Option Nat) (x : By) (e : PkgD) (an ac af au : Option Addr) (cn cc cf cu : Nat) (y : Bool) (w : World) (hE : EntM w e ⟨an, ac, af, au, cn, cc, cf, cu⟩) (hl1 : e.needs.length ≤ 8) (hl2 : e.conf.length ≤ 8) (hl3 : e.files.length ≤ 12) (hl4 : e.units.length ≤ 4)
    (hlook : ∀ W, Ext w W → (Instr.lookup 40 (.map pm) (.string (bs x)) true).run Tryz.prog W = .ok (.tuple #[.agg #[.string (bs e.name), .string (bs e.ver), .slice an e.needs.length cn, .slice ac e.conf.length cc, .slice af e.files.length cf, .slice au e.units.length cu], .bool y]) W) :
    Calls Tryz.prog 19 #[.agg #[.map pm], .string (bs x)] w (GetR e y w) := by
  obtain ⟨R, hR⟩ : ∃ R, R = GetR e y w := ⟨_, rfl⟩
  rw [← hR]
  have HR := Lib.hid hR; clear hR
  have HE := Lib.hid hE; clear hE
  have HLK := Lib.hid hlook; clear hlook
  have hx1 : Ext w ((w.alloc (.cells #[.map pm] 42)).alloc (.cells #[.string ⟨#[]⟩, .string ⟨#[]⟩, .slice none 0 0, .slice none 0 0, .slice none 0 0, .slice none 0 0] 37)) := (Ext.alloc _ _).trans (Ext.alloc _ _)
  have hb1 := (Ext.alloc _ (.cells #[.string ⟨#[]⟩, .string ⟨#[]⟩, .slice none 0 0, .slice none 0 0, .slice none 0 0, .slice none 0 0] 37)).heap (heap_alloc_new w (.cells #[.map pm] 42))
  have hr1 := heap_alloc_new (w.alloc (.cells #[.map pm] 42)) (.cells #[.string ⟨#[]⟩, .string ⟨#[]⟩, .slice none 0 0, .slice none 0 0, .slice none 0 0, .slice none 0 0] 37)
  rw [World.size_alloc] at hr1
  go_enter Tryz.func19, Tryz.ntmps19
  go_upto_region 1 with (fail)
  generalize (w.alloc (.cells #[.map pm] 42)).alloc (.cells #[.string ⟨#[]⟩, .string ⟨#[]⟩, .slice none 0 0, .slice none 0 0, .slice none 0 0, .slice none 0 0] 37) = w1 at hx1 hb1 hr1 ⊢
  obtain ⟨BX, hBX⟩ : ∃ x, x = w.heap.size := ⟨_, rfl⟩
  obtain ⟨RS, hRS⟩ : ∃ x, x = w.heap.size + 1 := ⟨_, rfl⟩
  rw [← hRS] at hr1
  rw [← hBX] at hb1
  have HZ : Hid (BX = w.heap.size ∧ RS = w.heap.size + 1) := Lib.hid ⟨hBX, hRS⟩
  rw [← hRS, ← hBX]
  clear hRS hBX
  have p0 := blk_cell hb1 0 (Value.map pm) rfl
  have HX1 := Lib.hid hx1; clear hx1
  have HR1 := Lib.hid hr1; clear hr1 hb1
  go_upto_region 2 with (first
    | (at_lookup; refine wpList_look_run rfl _ _ 40 true rfl _ _ _ rfl rfl (HLK.out w1 HX1.out) ?_; go_frame))
  clear p0
  have hbk := heap_alloc_new w1 (.cells #[.string (bs e.name), .string (bs e.ver), .slice an e.needs.length cn, .slice ac e.conf.length cc, .slice af e.files.length cf, .slice au e.units.length cu] 37)
  have hx3 := Ext.alloc w1 (.cells #[.string (bs e.name), .string (bs e.ver), .slice an e.needs.length cn, .slice ac e.conf.length cc, .slice af e.files.length cf, .slice au e.units.length cu] 37)
  generalize w1.alloc (.cells #[.string (bs e.name), .string (bs e.ver), .slice an e.needs.length cn, .slice ac e.conf.length cc, .slice af e.files.length cf, .slice au e.units.length cu] 37) = w3 at hbk hx3 ⊢
  obtain ⟨B, hB⟩ : ∃ x, x = w1.heap.size := ⟨_, rfl⟩
  rw [← hB] at hbk ⊢
  have HBS := Lib.hid hB; clear hB
  have HB3 := Lib.hid hbk; clear hbk
  have HX3 := Lib.hid hx3; clear hx3
  have HENT3 := Lib.hid (HE.out.ext (HX1.out.trans HX3.out)); clear HE
  have HK := Lib.hid ((Ext.refl w3).drew)
  refine wp_region_noPanic ?_
  refine wp_region_K (S := (fun W => W.cell? ⟨B, 2, none⟩ = some (.slice an e.needs.length cn) ∧ W.cell? ⟨B, 3, none⟩ = some (.slice ac e.conf.length cc) ∧ W.cell? ⟨B, 4, none⟩ = some (.slice af e.files.length cf) ∧ W.cell? ⟨B, 5, none⟩ = some (.slice au e.units.length cu))) (I := [1, 4, 7, 10]) (by kernel_rfl) ⟨blk_cell (HK.out.heap HB3.out) 2 _ rfl, blk_cell (HK.out.heap HB3.out) 3 _ rfl, blk_cell (HK.out.heap HB3.out) 4 _ rfl, blk_cell (HK.out.heap HB3.out) 5 _ rfl⟩ (fun hHeld => ?_)
  refine wpAnyK_free (i := 0) (v := ?v100) rfl (by kernel_rfl) (by kernel_rfl) (by kernel_rfl) (fun _ _ _ h => h) (by kernel_rfl) ?hy100 (fun _ => by assumption) ?rest100
  case hy100 => (intro wq; first | (go_simp; done) | (go_simp; with_reducible rfl))
  try simp only [List.getElem_toArray, List.getElem_cons_zero, Act.put, List.setIfInBounds_toArray, List.set_cons_zero, List.set_cons_succ]
  refine wpAnyK_free (i := 3) (v := ?v103) rfl (by kernel_rfl) (by kernel_rfl) (by kernel_rfl) (fun _ _ _ h => h) (by kernel_rfl) ?hy103 (fun _ => by assumption) ?rest103
  case hy103 => (intro wq; first | (go_simp; done) | (go_simp; with_reducible rfl))
  try simp only [List.getElem_toArray, List.getElem_cons_zero, List.getElem_cons_succ, Act.put, List.setIfInBounds_toArray, List.set_cons_zero, List.set_cons_succ]
  refine wpAnyK_free (i := 6) (v := ?v106) rfl (by kernel_rfl) (by kernel_rfl) (by kernel_rfl) (fun _ _ _ h => h) (by kernel_rfl) ?hy106 (fun _ => by assumption) ?rest106
  case hy106 => (intro wq; first | (go_simp; done) | (go_simp; with_reducible rfl))
  try simp only [List.getElem_toArray, List.getElem_cons_zero, List.getElem_cons_succ, Act.put, List.setIfInBounds_toArray, List.set_cons_zero, List.set_cons_succ]
  refine wpAnyK_free (i := 9) (v := ?v109) rfl (by kernel_rfl) (by kernel_rfl) (by kernel_rfl) (fun _ _ _ h => h) (by kernel_rfl) ?hy109 (fun _ => by assumption) ?rest109
  case hy109 => (intro wq; first | (go_simp; done) | (go_simp; with_reducible rfl))
  try simp only [List.getElem_toArray, List.getElem_cons_zero, List.getElem_cons_succ, Act.put, List.setIfInBounds_toArray, List.set_cons_zero, List.set_cons_succ]
  refine wpAnyK_load (i := 1) (v := ?v101) rfl (by kernel_rfl) (by kernel_rfl) (by kernel_rfl) (fun _ _ _ h => h) (by kernel_rfl) (by kernel_rfl) ?hy101 (by assumption) ?rest101
  case hy101 => (intro wq hSw; (try dsimp only at hSw); first | (go_simp; done) | (go_simp; with_reducible rfl))
  try simp only [List.getElem_toArray, List.getElem_cons_zero, List.getElem_cons_succ, Act.put, List.setIfInBounds_toArray, List.set_cons_zero, List.set_cons_succ]
  refine wpAnyK_load (i := 4) (v := ?v104) rfl (by kernel_rfl) (by kernel_rfl) (by kernel_rfl) (fun _ _ _ h => h) (by kernel_rfl) (by kernel_rfl) ?hy104 (by assumption) ?rest104
  case hy104 => (intro wq hSw; (try dsimp only at hSw); first | (go_simp; done) | (go_simp; with_reducible rfl))
  try simp only [List.getElem_toArray, List.getElem_cons_zero, List.getElem_cons_succ, Act.put, List.setIfInBounds_toArray, List.set_cons_zero, List.set_cons_succ]
  refine wpAnyK_load (i := 7) (v := ?v107) rfl (by kernel_rfl) (by kernel_rfl) (by kernel_rfl) (fun _ _ _ h => h) (by kernel_rfl) (by kernel_rfl) ?hy107 (by assumption) ?rest107
  case hy107 => (intro wq hSw; (try dsimp only at hSw); first | (go_simp; done) | (go_simp; with_reducible rfl))
  try simp only [List.getElem_toArray, List.getElem_cons_zero, List.getElem_cons_succ, Act.put, List.setIfInBounds_toArray, List.set_cons_zero, List.set_cons_succ]
  refine wpAnyK_load (i := 10) (v := ?v110) rfl (by kernel_rfl) (by kernel_rfl) (by kernel_rfl) (fun _ _ _ h => h) (by kernel_rfl) (by kernel_rfl) ?hy110 (by assumption) ?rest110
  case hy110 => (intro wq hSw; (try dsimp only at hSw); first | (go_simp; done) | (go_simp; with_reducible rfl))
  try simp only [List.getElem_toArray, List.getElem_cons_zero, List.getElem_cons_succ, Act.put, List.setIfInBounds_toArray, List.set_cons_zero, List.set_cons_succ]
  refine wpAnyK_one (i := 2) (by kernel_rfl) rfl ?_
  intro K hK
  go_simp
  (go_at_call 40; refine (clone_n an e.needs.length cn (e.needs.flatMap needV3) _ (flat_lenm (F := needV3) (fun _ => rfl) _) ((needs_run).1 ((HENT3.out.ext HK.out).needs)) (ones_n _) (by omega)).mono ?_; rintro e2 wc2 ⟨y2, z2, rfl, hz2, hr2, hfr, hx⟩; have HF2 := Lib.hid (fun ad h => Nat.le_trans HK.out.size (hfr ad h)); clear hfr; replace HK := Lib.hid (HK.out.trans hx); have HR2 := Lib.hid hr2; clear hx hr2)
  go_wp2_with fail
  refine hK.out _ _ ⟨blk_cell (HK.out.heap HB3.out) 2 _ rfl, blk_cell (HK.out.heap HB3.out) 3 _ rfl, blk_cell (HK.out.heap HB3.out) 4 _ rfl, blk_cell (HK.out.heap HB3.out) 5 _ rfl⟩ ?_
  clear hK K
  try simp only [List.getElem_toArray, List.getElem_cons_zero, List.getElem_cons_succ, Act.put, List.setIfInBounds_toArray, List.set_cons_zero, List.set_cons_succ]
  refine wpAnyK_free (i := 12) (v := ?v112) rfl (by kernel_rfl) (by kernel_rfl) (by kernel_rfl) (fun _ _ _ h => h) (by kernel_rfl) ?hy112 (fun _ => ⟨blk_cell (HK.out.heap HB3.out) 2 _ rfl, blk_cell (HK.out.heap HB3.out) 3 _ rfl, blk_cell (HK.out.heap HB3.out) 4 _ rfl, blk_cell (HK.out.heap HB3.out) 5 _ rfl⟩) ?rest112
  case hy112 => (intro wq; first | (go_simp; done) | (go_simp; with_reducible rfl))
  try simp only [List.getElem_toArray, List.getElem_cons_zero, List.getElem_cons_succ, Act.put, List.setIfInBounds_toArray, List.set_cons_zero, List.set_cons_succ]
  refine wpAnyK_one (i := 5) (by kernel_rfl) rfl ?_
  intro K hK
  go_simp
  (go_at_call 41; refine (clone_s ac e.conf.length cc (textV e.conf) _ (by rw [textV_len]; omega) ((strs_run).1 ((HENT3.out.ext HK.out).conf)) (ones_s _) (by omega)).mono ?_; rintro e3 wc3 ⟨y3, z3, rfl, hz3, hr3, hfr, hx⟩; have HF3 := Lib.hid (fun ad h => Nat.le_trans HK.out.size (hfr ad h)); clear hfr; replace HK := Lib.hid (HK.out.trans hx); replace HR2 := Lib.hid (HR2.out.ext hx); have HR3 := Lib.hid hr3; clear hx hr3)
  go_wp2_with fail
  refine hK.out _ _ ⟨blk_cell (HK.out.heap HB3.out) 2 _ rfl, blk_cell (HK.out.heap HB3.out) 3 _ rfl, blk_cell (HK.out.heap HB3.out) 4 _ rfl, blk_cell (HK.out.heap HB3.out) 5 _ rfl⟩ ?_
  clear hK K
  try simp only [List.getElem_toArray, List.getElem_cons_zero, List.getElem_cons_succ, Act.put, List.setIfInBounds_toArray, List.set_cons_zero, List.set_cons_succ]
  refine wpAnyK_one (i := 8) (by kernel_rfl) rfl ?_
  intro K hK
  go_simp
  (go_at_call 59; refine (clone_f af e.files.length cf (e.files.flatMap fileV3) _ (flat_lenm (F := fileV3) (fun _ => rfl) _) ((filesE_run).1 ((HENT3.out.ext HK.out).files)) (ones_f _) (by omega)).mono ?_; rintro e4 wc4 ⟨y4, z4, rfl, hz4, hr4, hfr, hx⟩; have HF4 := Lib.hid (fun ad h => Nat.le_trans HK.out.size (hfr ad h)); clear hfr; replace HK := Lib.hid (HK.out.trans hx); replace HR2 := Lib.hid (HR2.out.ext hx); replace HR3 := Lib.hid (HR3.out.ext hx); have HR4 := Lib.hid hr4; clear hx hr4)
  go_wp2_with fail
  refine hK.out _ _ ⟨blk_cell (HK.out.heap HB3.out) 2 _ rfl, blk_cell (HK.out.heap HB3.out) 3 _ rfl, blk_cell (HK.out.heap HB3.out) 4 _ rfl, blk_cell (HK.out.heap HB3.out) 5 _ rfl⟩ ?_
  clear hK K
  try simp only [List.getElem_toArray, List.getElem_cons_zero, List.getElem_cons_succ, Act.put, List.setIfInBounds_toArray, List.set_cons_zero, List.set_cons_succ]
  refine wpAnyK_one (i := 11) (by kernel_rfl) rfl ?_
  intro K hK
  go_simp
  (go_at_call 41; refine (clone_s au e.units.length cu (textV e.units) _ (by rw [textV_len]; omega) ((strs_run).1 ((HENT3.out.ext HK.out).units)) (ones_s _) (by omega)).mono ?_; rintro e5 wc5 ⟨y5, z5, rfl, hz5, hr5, hfr, hx⟩; have HF5 := Lib.hid (fun ad h => Nat.le_trans HK.out.size (hfr ad h)); clear hfr; replace HK := Lib.hid (HK.out.trans hx); replace HR2 := Lib.hid (HR2.out.ext hx); replace HR3 := Lib.hid (HR3.out.ext hx); replace HR4 := Lib.hid (HR4.out.ext hx); have HR5 := Lib.hid hr5; clear hx hr5)
  go_wp2_with fail
  refine hK.out _ _ ⟨blk_cell (HK.out.heap HB3.out) 2 _ rfl, blk_cell (HK.out.heap HB3.out) 3 _ rfl, blk_cell (HK.out.heap HB3.out) 4 _ rfl, blk_cell (HK.out.heap HB3.out) 5 _ rfl⟩ ?_
  clear hK K
  try simp only [List.getElem_toArray, List.getElem_cons_zero, List.getElem_cons_succ, Act.put, List.setIfInBounds_toArray, List.set_cons_zero, List.set_cons_succ]
  have d2 := blk_cell (HK.out.heap HB3.out) 2 (Value.slice an e.needs.length cn) rfl; have f2 := blk_free (HK.out.heap HB3.out) 2; have d3 := blk_cell (HK.out.heap HB3.out) 3 (Value.slice ac e.conf.length cc) rfl; have f3 := blk_free (HK.out.heap HB3.out) 3; have d4 := blk_cell (HK.out.heap HB3.out) 4 (Value.slice af e.files.length cf) rfl; have f4 := blk_free (HK.out.heap HB3.out) 4; have d5 := blk_cell (HK.out.heap HB3.out) 5 (Value.slice au e.units.length cu) rfl; have f5 := blk_free (HK.out.heap HB3.out) 5
  refine wpAnyK_last (i := 13) (by kernel_rfl) rfl (by kernel_rfl) ?_
  intro K hK
  go_simp
  refine hK.out _ _ ?_
  clear hK K
  try simp only [List.getElem_toArray, List.getElem_cons_zero, List.getElem_cons_succ, Act.put, List.setIfInBounds_toArray, List.set_cons_zero, List.set_cons_succ]
  refine wpAnyK_free (i := 14) (v := ?v114) rfl (by kernel_rfl) (by kernel_rfl) (by kernel_rfl) (fun _ _ _ h => h) (by kernel_rfl) ?hy114 (fun h => by cases h) ?rest114
  case hy114 => (intro wq; first | (go_simp; done) | (go_simp; with_reducible rfl))
  try simp only [List.getElem_toArray, List.getElem_cons_zero, List.getElem_cons_succ, Act.put, List.setIfInBounds_toArray, List.set_cons_zero, List.set_cons_succ]
  refine wpAnyK_last (i := 15) (by kernel_rfl) rfl (by kernel_rfl) ?_
  intro K hK
  go_simp
  refine hK.out _ _ ?_
  clear hK K
  try simp only [List.getElem_toArray, List.getElem_cons_zero, List.getElem_cons_succ, Act.put, List.setIfInBounds_toArray, List.set_cons_zero, List.set_cons_succ]
  refine wpAnyK_free (i := 16) (v := ?v116) rfl (by kernel_rfl) (by kernel_rfl) (by kernel_rfl) (fun _ _ _ h => h) (by kernel_rfl) ?hy116 (fun h => by cases h) ?rest116
  case hy116 => (intro wq; first | (go_simp; done) | (go_simp; with_reducible rfl))
  try simp only [List.getElem_toArray, List.getElem_cons_zero, List.getElem_cons_succ, Act.put, List.setIfInBounds_toArray, List.set_cons_zero, List.set_cons_succ]
  refine wpAnyK_last (i := 17) (by kernel_rfl) rfl (by kernel_rfl) ?_
  intro K hK
  go_simp
  refine hK.out _ _ ?_
  clear hK K
  try simp only [List.getElem_toArray, List.getElem_cons_zero, List.getElem_cons_succ, Act.put, List.setIfInBounds_toArray, List.set_cons_zero, List.set_cons_succ]
  refine wpAnyK_free (i := 18) (v := ?v118) rfl (by kernel_rfl) (by kernel_rfl) (by kernel_rfl) (fun _ _ _ h => h) (by kernel_rfl) ?hy118 (fun h => by cases h) ?rest118
  case hy118 => (intro wq; first | (go_simp; done) | (go_simp; with_reducible rfl))
  try simp only [List.getElem_toArray, List.getElem_cons_zero, List.getElem_cons_succ, Act.put, List.setIfInBounds_toArray, List.set_cons_zero, List.set_cons_succ]
  refine wpAnyK_last (i := 19) (by kernel_rfl) rfl (by kernel_rfl) ?_
  intro K hK
  go_simp
  refine hK.out _ _ ?_
  clear hK K
  try simp only [List.getElem_toArray, List.getElem_cons_zero, List.getElem_cons_succ, Act.put, List.setIfInBounds_toArray, List.set_cons_zero, List.set_cons_succ]
  refine wpAnyK_done (by kernel_rfl) ?_ _
  refine NoPanic.normal ?_
  clear d2 d3 d4 d5 f2 f3 f4 f5
  have hb6 := set4e (HK.out.heap HB3.out) (.slice y2 e.needs.length z2) (.slice y3 e.conf.length z3) (.slice y4 e.files.length z4) (.slice y5 e.units.length z5)
  have hk6 : Keep (fun j => j ≠ B) wc5 ((((wc5.setCell ⟨B, 2, none⟩ (.slice y2 e.needs.length z2)).setCell ⟨B, 3, none⟩ (.slice y3 e.conf.length z3)).setCell ⟨B, 4, none⟩ (.slice y4 e.files.length z4)).setCell ⟨B, 5, none⟩ (.slice y5 e.units.length z5)) := ((((Keep.refl _ _).setCell (fun _ h => h) _ _).setCell (fun _ h => h) _ _).setCell (fun _ h => h) _ _).setCell (fun _ h => h) _ _
  generalize (((wc5.setCell ⟨B, 2, none⟩ (.slice y2 e.needs.length z2)).setCell ⟨B, 3, none⟩ (.slice y3 e.conf.length z3)).setCell ⟨B, 4, none⟩ (.slice y4 e.files.length z4)).setCell ⟨B, 5, none⟩ (.slice y5 e.units.length z5) = w6 at hb6 hk6 ⊢
  have hRl : RS < w1.heap.size := (Array.getElem?_eq_some_iff.1 HR1.out).1
  have hne : RS ≠ B := by have := HBS.out; omega
  have hr6 := hk6.heap hne ((HX3.out.trans HK.out).heap HR1.out)
  have p0 := blk_cell hb6 0 (Value.string (bs e.name)) rfl
  have p1 := blk_cell hb6 1 (Value.string (bs e.ver)) rfl
  have p2 := blk_cell hb6 2 (Value.slice y2 e.needs.length z2) rfl
  have p3 := blk_cell hb6 3 (Value.slice y3 e.conf.length z3) rfl
  have p4 := blk_cell hb6 4 (Value.slice y4 e.files.length z4) rfl
  have p5 := blk_cell hb6 5 (Value.slice y5 e.units.length z5) rfl
  obtain ⟨hs6, hbut⟩ := set6e hr6 (.string (bs e.name)) (.string (bs e.ver)) (.slice y2 e.needs.length z2) (.slice y3 e.conf.length z3) (.slice y4 e.files.length z4) (.slice y5 e.units.length z5)
  have r0 := blk_cell hr6 0 (Value.string ⟨#[]⟩) rfl
  have r1 := blk_cell hr6 1 (Value.string ⟨#[]⟩) rfl
  have r2 := blk_cell hr6 2 (Value.slice none 0 0) rfl
  have r3 := blk_cell hr6 3 (Value.slice none 0 0) rfl
  have r4 := blk_cell hr6 4 (Value.slice none 0 0) rfl
  have r5 := blk_cell hr6 5 (Value.slice none 0 0) rfl
  have g0 := blk_free hr6 0
  have g1 := blk_free hr6 1
  have g2 := blk_free hr6 2
  have g3 := blk_free hr6 3
  have g4 := blk_free hr6 4
  have g5 := blk_free hr6 5
  have HK6 := Lib.hid hk6; clear hk6 hb6
  have HS6 := Lib.hid hs6; clear hs6
  have HBT := Lib.hid hbut; clear hbut hr6
  go_wp2_with fail
  have c0 := blk_cell HS6.out 0 (Value.string (bs e.name)) rfl
  have c1 := blk_cell HS6.out 1 (Value.string (bs e.ver)) rfl
  have c2 := blk_cell HS6.out 2 (Value.slice y2 e.needs.length z2) rfl
  have c3 := blk_cell HS6.out 3 (Value.slice y3 e.conf.length z3) rfl
  have c4 := blk_cell HS6.out 4 (Value.slice y4 e.files.length z4) rfl
  have c5 := blk_cell HS6.out 5 (Value.slice y5 e.units.length z5) rfl
  refine bodyPost_ret (v := .tuple #[.agg #[.string (bs e.name), .string (bs e.ver), .slice y2 e.needs.length z2, .slice y3 e.conf.length z3, .slice y4 e.files.length z4, .slice y5 e.units.length z5], .bool y]) (by simp [results, Tryz.results19, go_sem, c0, c1, c2, c3, c4, c5]) rfl ?_
  rw [HR.out]
  have hz := HZ.out
  have hsz := HBS.out
  have hbw : B < w3.heap.size := (Array.getElem?_eq_some_iff.1 HB3.out).1
  have h1s := HX1.out.size
  have hkc := (HK6.out.mono (T := fun j => j ≠ B ∧ j ≠ RS) (fun _ _ h => h.1)).andThen (Keep.of_but HBT.out) (fun _ _ h => h.2)
  have hS : ∀ g, w3.heap.size ≤ g → g ≠ B ∧ g ≠ RS := fun g hg => by omega
  refine ⟨⟨y2, y3, y4, y5, z2, z3, z4, z5⟩, rfl, ⟨needs_run.2 (HR2.out.fresh HF2.out hkc hS), strs_run.2 (HR3.out.fresh HF3.out hkc hS), filesE_run.2 (HR4.out.fresh HF4.out hkc hS), strs_run.2 (HR5.out.fresh HF5.out hkc hS)⟩, ⟨hz2, hz3, hz4, hz5⟩, ?_⟩
  exact ((Keep.of_ext (S := fun j => j < w.heap.size) (HX1.out.trans (HX3.out.trans HK.out))).andThen hkc (fun j hj _ => by omega)).ext_lt
theorem key_by {x : By} (hx : x.length ≤ 100000) : keyOf Tryz.prog 9 (.string (bs x)) = some (keyS x) := by
  have := key_str (bs x) (by rw [bs_size]; unfold maxLen; omega)
  rw [bs_data] at this
  exact this
theorem entM_pz (w : World) : EntM w pz ⟨none, none, none, none, 0, 0, 0, 0⟩ := ⟨Or.inl rfl, Or.inl rfl, Or.inl rfl, Or.inl rfl⟩
theorem base_get (v : Value) (N : Nat) (f : BaseF) (x : By) (w : World) (hb : BaseM w v N f) (hg : GoodF f) (hx : x.length ≤ 100000) :
    Calls Tryz.prog 19 #[v, .string (bs x)] w (GetR ((f x).getD pz) (f x).isSome w) := by
  rcases hb with ⟨rfl, rfl⟩ | ⟨b, A, rfl, h⟩
  · exact get_core none x pz none none none none 0 0 0 0 false w (entM_pz w) (by simp [pz]) (by simp [pz]) (by simp [pz]) (by simp [pz]) (fun W _ => by
      rw [Maps.look_nil true str_keyed Tryz.underlying40 (Tryz.zeroValue37 W) (key_by hx)]
      rfl)
  · have hlk : ∀ W, Ext w W → (Instr.lookup 40 (.map (some b)) (.string (bs x)) true).run Tryz.prog W = .ok (.tuple #[(entF f A x).getD (.agg #[.string ⟨#[]⟩, .string ⟨#[]⟩, .slice none 0 0, .slice none 0 0, .slice none 0 0, .slice none 0 0]), .bool (entF f A x).isSome]) W := fun W hW =>
      (h.1.ext hW).look_ok str_keyed Tryz.underlying40 (Tryz.zeroValue37 W) (key_by hx)
    cases hf : f x with
    | none =>
      refine get_core (some b) x pz none none none none 0 0 0 0 false w (entM_pz w) (by simp [pz]) (by simp [pz]) (by simp [pz]) (by simp [pz]) (fun W hW => ?_)
      rw [hlk W hW]
      have : entF f A x = none := by unfold entF; rw [hf]; rfl
      rw [this]
      rfl
    | some e =>
      obtain ⟨_, hr, _⟩ := hg x e hf
      obtain ⟨_, h1, h2, h3, h4⟩ := right_lens hr
      have he := (h.2 x e hf).1
      have hA : entF f A x = some (pkgV e (A x)) := by unfold entF; rw [hf]; rfl
      rw [hA] at hlk
      generalize A x = Ax at he hlk
      obtain ⟨an, ac, af, au, cn, cc, cf, cu⟩ := Ax
      exact get_core (some b) x e an ac af au cn cc cf cu true w he h1 h2 h3 h4 (fun W hW => by rw [hlk W hW]; rfl)
end Go.Proofs.YtnclibfhbngkjaaGreatDoor
