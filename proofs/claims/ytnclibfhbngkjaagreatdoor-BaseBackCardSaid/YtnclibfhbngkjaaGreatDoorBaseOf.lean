/- base.Of: a package as one that is there. -/
import Derived.Test.YtnclibfhbngkjaaGreatDoorBaseGet
import Derived.Test.YtnclibfhbngkjaaGreatDoorCrc
import Derived.Test.YtnclibfhbngkjaaGreatDoorRowApp
namespace Go.Proofs.YtnclibfhbngkjaaGreatDoor
open Go.RowKit
attribute [local go_sem ↓] Go.wp_at_zero Go.wp_at_succ
theorem info_filee : (Tryz.prog.info? 71).map (fun i => (i.zero, i.size, i.bytes)) = some (some (.agg #[.string ⟨#[]⟩, .bool false, .int .u32 0]), 3, 24) := by kernel_rfl
/-- What Of answers. -/
def OfR (p : PkgD) (w : World) (e : Ending) (w' : World) : Prop := ∃ A, e = .returned (pkgV (ofP p) A) ∧ EntM w' (ofP p) A ∧ PkgC (ofP p) A ∧ Ext w w'
/-- The same, and that its parts lie in blocks that are new. -/
def OfF (p : PkgD) (w : World) (e : Ending) (w' : World) : Prop := ∃ A, e = .returned (pkgV (ofP p) A) ∧ EntM w' (ofP p) A ∧ PkgC (ofP p) A ∧ (Fresh w.heap.size A.an ∧ Fresh w.heap.size A.ac ∧ Fresh w.heap.size A.af ∧ Fresh w.heap.size A.au) ∧ Ext w w'
theorem le32_sumB (l : By) : le32 (sumB l) = (crcL l).toNat := by
  unfold sumB
  have := le32_num4 (n := (crcL l).toNat) (by have := (crcL l).isLt; omega) []
  simpa using this
theorem fileV_take {L : List FileD} {k : Nat} (h : k < L.length) : ((L.map ofF).take (k + 1)).flatMap fileV3 = ((L.map ofF).take k).flatMap fileV3 ++ fileV3 (ofF (L.getD k fz)) := by
  rw [List.take_succ_eq_append_getElem (by simpa using h), List.flatMap_append]
  simp [List.getD_eq_getElem?_getD, List.getElem?_eq_getElem h]
/-- A slice's cells lie in another block. -/
def Away (B : Nat) (a : Option Addr) (us : List Value) : Prop := us = [] ∨ ∀ ad, a = some ad → ad.block ≠ B
theorem away_old {w : World} {a : Option Addr} {us : List Value} {B : Nat} (h : RunM w a us) (hB : w.heap.size ≤ B) : Away B a us := by
  rcases h with h | ⟨g, off, ha, hg, _⟩
  · exact Or.inl h
  · refine Or.inr fun ad e => ?_
    rw [ha] at e
    cases e
    show g ≠ B
    omega
theorem away_new {a : Option Addr} {us : List Value} {base B : Nat} (h : Fresh base a) (hB : B < base) : Away B a us := Or.inr fun ad e => by have := h ad e; omega
theorem RunM.keepA {w w' : World} {a : Option Addr} {us : List Value} {B : Nat} (h : RunM w a us) (k : Keep (· ≠ B) w w') (hA : Away B a us) : RunM w' a us := by
  rcases h with h | ⟨g, off, ha, hg, hc⟩
  · exact Or.inl h
  · rcases hA with h | hA
    · exact Or.inl h
    · have hne : g ≠ B := hA _ ha
      exact Or.inr ⟨g, off, ha, Nat.lt_of_lt_of_le hg k.size, fun j u hj => k.cell hne (hc j u hj)⟩
theorem RunM.keepB {S : Nat → Prop} {w w' : World} {a : Option Addr} {us : List Value} {B : Nat} (h : RunM w a us) (k : Keep S w w') (hA : Away B a us) (hS : ∀ g, g < w.heap.size → g ≠ B → S g) : RunM w' a us := by
  rcases h with h | ⟨g, off, ha, hg, hc⟩
  · exact Or.inl h
  · rcases hA with h | hA
    · exact Or.inl h
    · have hne : g ≠ B := hA _ ha
      exact Or.inr ⟨g, off, ha, Nat.lt_of_lt_of_le hg k.size, fun j u hj => k.cell (hS g hg hne) (hc j u hj)⟩
set_option maxRecDepth 100000 in
set_option maxHeartbeats 6400000 in
theorem base_of0 (p : PkgD) (an ac af au : Option Addr) (cn cc cf cu : Nat) (w : World) (hM : PkgM w p ⟨an, ac, af, au, cn, cc, cf, cu⟩) (hl1 : p.needs.length ≤ 8) (hl2 : p.conf.length ≤ 8) (hl3 : p.files.length ≤ 12) (hl4 : p.units.length ≤ 4) (hld : ∀ f ∈ p.files, f.data.length ≤ 100000) :
    Calls Tryz.prog 11 #[.agg #[.string (bs p.name), .string (bs p.ver), .slice an p.needs.length cn, .slice ac p.conf.length cc, .slice af p.files.length cf, .slice au p.units.length cu]] w (OfF p w) := by
  obtain ⟨R, hR⟩ : ∃ R, R = OfF p w := ⟨_, rfl⟩
  rw [← hR]
  have HR := Lib.hid hR; clear hR
  have HM := Lib.hid hM; clear hM
  have HLD := Lib.hid hld; clear hld
  have hx1 : Ext w ((w.alloc (.cells #[.string (bs p.name), .string (bs p.ver), .slice an p.needs.length cn, .slice ac p.conf.length cc, .slice af p.files.length cf, .slice au p.units.length cu] 31)).alloc (.cells #[.string ⟨#[]⟩, .string ⟨#[]⟩, .slice none 0 0, .slice none 0 0, .slice none 0 0, .slice none 0 0] 37)) := (Ext.alloc _ _).trans (Ext.alloc _ _)
  have hb1 := (Ext.alloc _ (.cells #[.string ⟨#[]⟩, .string ⟨#[]⟩, .slice none 0 0, .slice none 0 0, .slice none 0 0, .slice none 0 0] 37)).heap (heap_alloc_new w (.cells #[.string (bs p.name), .string (bs p.ver), .slice an p.needs.length cn, .slice ac p.conf.length cc, .slice af p.files.length cf, .slice au p.units.length cu] 31))
  have hr1 := heap_alloc_new (w.alloc (.cells #[.string (bs p.name), .string (bs p.ver), .slice an p.needs.length cn, .slice ac p.conf.length cc, .slice af p.files.length cf, .slice au p.units.length cu] 31)) (.cells #[.string ⟨#[]⟩, .string ⟨#[]⟩, .slice none 0 0, .slice none 0 0, .slice none 0 0, .slice none 0 0] 37)
  rw [World.size_alloc] at hr1
  go_enter Tryz.func11, Tryz.ntmps11
  go_upto_region 1 with (fail)
  generalize (w.alloc (.cells #[.string (bs p.name), .string (bs p.ver), .slice an p.needs.length cn, .slice ac p.conf.length cc, .slice af p.files.length cf, .slice au p.units.length cu] 31)).alloc (.cells #[.string ⟨#[]⟩, .string ⟨#[]⟩, .slice none 0 0, .slice none 0 0, .slice none 0 0, .slice none 0 0] 37) = w1 at hx1 hb1 hr1 ⊢
  obtain ⟨BX, hBX⟩ : ∃ x, x = w.heap.size := ⟨_, rfl⟩
  obtain ⟨RS, hRS⟩ : ∃ x, x = w.heap.size + 1 := ⟨_, rfl⟩
  rw [← hRS] at hr1
  rw [← hBX] at hb1
  have HZ : Hid (BX = w.heap.size ∧ RS = w.heap.size + 1) := Lib.hid ⟨hBX, hRS⟩
  rw [← hRS, ← hBX]
  clear hRS hBX
  have HX1 := Lib.hid hx1; clear hx1
  have HR1 := Lib.hid hr1; clear hr1
  have HB1 := Lib.hid hb1; clear hb1
  have HM1 := Lib.hid (HM.out.ext HX1.out); clear HM
  have HK := Lib.hid ((Ext.refl w1).drew)
  have hcs : ∀ W, Ext w1 W → W.cell? ⟨BX, 0, none⟩ = some (.string (bs p.name)) ∧ W.cell? ⟨BX, 1, none⟩ = some (.string (bs p.ver)) ∧ W.cell? ⟨BX, 2, none⟩ = some (.slice an p.needs.length cn) ∧ W.cell? ⟨BX, 3, none⟩ = some (.slice ac p.conf.length cc) ∧ W.cell? ⟨BX, 5, none⟩ = some (.slice au p.units.length cu) := fun W k => ⟨blk_cell (k.heap HB1.out) 0 _ rfl, blk_cell (k.heap HB1.out) 1 _ rfl, blk_cell (k.heap HB1.out) 2 _ rfl, blk_cell (k.heap HB1.out) 3 _ rfl, blk_cell (k.heap HB1.out) 5 _ rfl⟩
  have HCS := Lib.hid hcs; clear hcs
  go_cut [3] from 6 to 19 (fun b wx => ∃ B y2 z2 y3 z3 y5 z5, b = .pointer (some ⟨B, 0, none⟩) ∧ Hid (w1.heap.size ≤ B ∧ wx.heap[B]? = some (.cells #[.string (bs p.name), .string (bs p.ver), .slice y2 p.needs.length z2, .slice y3 p.conf.length z3, .slice none 0 0, .slice y5 p.units.length z5] 37 (0, 0))) ∧ Hid (p.needs.length ≤ z2 ∧ p.conf.length ≤ z3 ∧ p.units.length ≤ z5 ∧ RunM wx y2 (p.needs.flatMap needV3) ∧ RunM wx y3 (textV p.conf) ∧ RunM wx y5 (textV p.units)) ∧ Hid ((Away B y2 (p.needs.flatMap needV3) ∧ Away B y3 (textV p.conf) ∧ Away B y5 (textV p.units)) ∧ Fresh w1.heap.size y2 ∧ Fresh w1.heap.size y3 ∧ Fresh w1.heap.size y5) ∧ Hid (Ext w1 wx))
  case first =>
    refine wp_region_noPanic ?_
    refine wp_region_held_drew (S := (fun W => W.cell? ⟨BX, 0, none⟩ = some (.string (bs p.name)) ∧ W.cell? ⟨BX, 1, none⟩ = some (.string (bs p.ver)) ∧ W.cell? ⟨BX, 2, none⟩ = some (.slice an p.needs.length cn) ∧ W.cell? ⟨BX, 3, none⟩ = some (.slice ac p.conf.length cc) ∧ W.cell? ⟨BX, 5, none⟩ = some (.slice au p.units.length cu))) (by kernel_rfl) (HCS.out _ HK.out) (fun hHeld => ?_)
    clear hHeld
    generalize w1.drew = wd at HK ⊢
    refine wpAnyH_take (i := 0) (v := ?v1) rfl (by kernel_rfl) (by kernel_rfl) (by kernel_rfl) (fun _ _ _ h => h) (Or.inl ⟨by kernel_rfl, ?hy1⟩) (HCS.out _ HK.out) ?rest1
    case hy1 => (intro wq _; first | (go_simp; done) | (go_simp; with_reducible rfl))
    try simp only [List.getElem_toArray, List.getElem_cons_zero, Act.put, List.setIfInBounds_toArray, List.set_cons_zero, List.set_cons_succ]
    refine wpAnyH_take (i := 1) (v := ?v2) rfl (by kernel_rfl) (by kernel_rfl) (by kernel_rfl) (fun _ _ _ h => h) (Or.inl ⟨by kernel_rfl, ?hy2⟩) (HCS.out _ HK.out) ?rest2
    case hy2 => (intro wq hSw; (try dsimp only at hSw); first | (go_simp; done) | (go_simp; with_reducible rfl))
    try simp only [List.getElem_toArray, List.getElem_cons_zero, List.getElem_cons_succ, Act.put, List.setIfInBounds_toArray, List.set_cons_zero, List.set_cons_succ]
    refine wpAnyH_take (i := 2) (v := ?v3) rfl (by kernel_rfl) (by kernel_rfl) (by kernel_rfl) (fun _ _ _ h => h) (Or.inl ⟨by kernel_rfl, ?hy3⟩) (HCS.out _ HK.out) ?rest3
    case hy3 => (intro wq _; first | (go_simp; done) | (go_simp; with_reducible rfl))
    try simp only [List.getElem_toArray, List.getElem_cons_zero, List.getElem_cons_succ, Act.put, List.setIfInBounds_toArray, List.set_cons_zero, List.set_cons_succ]
    refine wpAnyH_take (i := 3) (v := ?v4) rfl (by kernel_rfl) (by kernel_rfl) (by kernel_rfl) (fun _ _ _ h => h) (Or.inl ⟨by kernel_rfl, ?hy4⟩) (HCS.out _ HK.out) ?rest4
    case hy4 => (intro wq hSw; (try dsimp only at hSw); first | (go_simp; done) | (go_simp; with_reducible rfl))
    try simp only [List.getElem_toArray, List.getElem_cons_zero, List.getElem_cons_succ, Act.put, List.setIfInBounds_toArray, List.set_cons_zero, List.set_cons_succ]
    refine wpAnyH_take (i := 4) (v := ?v5) rfl (by kernel_rfl) (by kernel_rfl) (by kernel_rfl) (fun _ _ _ h => h) (Or.inl ⟨by kernel_rfl, ?hy5⟩) (HCS.out _ HK.out) ?rest5
    case hy5 => (intro wq _; first | (go_simp; done) | (go_simp; with_reducible rfl))
    try simp only [List.getElem_toArray, List.getElem_cons_zero, List.getElem_cons_succ, Act.put, List.setIfInBounds_toArray, List.set_cons_zero, List.set_cons_succ]
    refine wpAnyH_take (i := 5) (v := ?v6) rfl (by kernel_rfl) (by kernel_rfl) (by kernel_rfl) (fun _ _ _ h => h) (Or.inl ⟨by kernel_rfl, ?hy6⟩) (HCS.out _ HK.out) ?rest6
    case hy6 => (intro wq hSw; (try dsimp only at hSw); first | (go_simp; done) | (go_simp; with_reducible rfl))
    try simp only [List.getElem_toArray, List.getElem_cons_zero, List.getElem_cons_succ, Act.put, List.setIfInBounds_toArray, List.set_cons_zero, List.set_cons_succ]
    refine wpAnyH_take (i := 7) (v := ?v7) rfl (by kernel_rfl) (by kernel_rfl) (by kernel_rfl) (fun _ _ _ h => h) (Or.inl ⟨by kernel_rfl, ?hy7⟩) (HCS.out _ HK.out) ?rest7
    case hy7 => (intro wq _; first | (go_simp; done) | (go_simp; with_reducible rfl))
    try simp only [List.getElem_toArray, List.getElem_cons_zero, List.getElem_cons_succ, Act.put, List.setIfInBounds_toArray, List.set_cons_zero, List.set_cons_succ]
    refine wpAnyH_take (i := 8) (v := ?v8) rfl (by kernel_rfl) (by kernel_rfl) (by kernel_rfl) (fun _ _ _ h => h) (Or.inl ⟨by kernel_rfl, ?hy8⟩) (HCS.out _ HK.out) ?rest8
    case hy8 => (intro wq hSw; (try dsimp only at hSw); first | (go_simp; done) | (go_simp; with_reducible rfl))
    try simp only [List.getElem_toArray, List.getElem_cons_zero, List.getElem_cons_succ, Act.put, List.setIfInBounds_toArray, List.set_cons_zero, List.set_cons_succ]
    refine wpAnyH_take (i := 10) (v := ?v9) rfl (by kernel_rfl) (by kernel_rfl) (by kernel_rfl) (fun _ _ _ h => h) (Or.inl ⟨by kernel_rfl, ?hy9⟩) (HCS.out _ HK.out) ?rest9
    case hy9 => (intro wq _; first | (go_simp; done) | (go_simp; with_reducible rfl))
    try simp only [List.getElem_toArray, List.getElem_cons_zero, List.getElem_cons_succ, Act.put, List.setIfInBounds_toArray, List.set_cons_zero, List.set_cons_succ]
    refine wpAnyH_take (i := 11) (v := ?v10) rfl (by kernel_rfl) (by kernel_rfl) (by kernel_rfl) (fun _ _ _ h => h) (Or.inl ⟨by kernel_rfl, ?hy10⟩) (HCS.out _ HK.out) ?rest10
    case hy10 => (intro wq hSw; (try dsimp only at hSw); first | (go_simp; done) | (go_simp; with_reducible rfl))
    try simp only [List.getElem_toArray, List.getElem_cons_zero, List.getElem_cons_succ, Act.put, List.setIfInBounds_toArray, List.set_cons_zero, List.set_cons_succ]
    refine wpAnyH_ready (rs := [6, 14]) (by kernel_rfl) (by simp) ?_
    refine AllReadyH.cons rfl (fun K hK => ?_) ?_
    · go_simp
      go_at_call 40
      refine (clone_n an p.needs.length cn (p.needs.flatMap needV3) _ (flat_lenm (F := needV3) (fun _ => rfl) _) (needs_run.1 ((HM1.out.ext HK.out).needs)) (ones_n _) (by omega)).mono ?_
      rintro e2 wc2 ⟨y2, z2, rfl, hz2, hr2, hfr, hx⟩
      have HF2 : Hid (Fresh w1.heap.size y2) := Lib.hid (fun ad h => Nat.le_trans HK.out.size (hfr ad h)); clear hfr
      have HZ2 := Lib.hid hz2; clear hz2
      have HX2 := Lib.hid hx
      replace HK := Lib.hid (HK.out.trans hx)
      have HR2 := Lib.hid hr2; clear hr2
      clear hx
      go_wp2_with fail
      refine hK.out _ _ (HCS.out _ HK.out) (fun _ => ?_)
      clear hK K
      try simp only [List.getElem_toArray, List.getElem_cons_zero, List.getElem_cons_succ, Act.put, List.setIfInBounds_toArray, List.set_cons_zero, List.set_cons_succ]
      refine wpAnyH_ready (rs := [9, 14]) (by kernel_rfl) (by simp) ?_
      refine AllReadyH.cons rfl (fun K hK => ?_) ?_
      · go_simp
        go_at_call 41
        refine (clone_s ac p.conf.length cc (textV p.conf) _ (by rw [textV_len]; omega) (strs_run.1 ((HM1.out.ext HK.out).conf)) (ones_s _) (by omega)).mono ?_
        rintro e3 wc3 ⟨y3, z3, rfl, hz3, hr3, hfr, hx⟩
        have HF3 : Hid (Fresh w1.heap.size y3) := Lib.hid (fun ad h => Nat.le_trans HK.out.size (hfr ad h)); clear hfr
        have HZ3 := Lib.hid hz3; clear hz3
        have HX3 := Lib.hid hx
        replace HK := Lib.hid (HK.out.trans hx)
        have HR3 := Lib.hid hr3; clear hr3
        replace HR2 := Lib.hid (HR2.out.ext hx)
        clear hx
        go_wp2_with fail
        refine hK.out _ _ (HCS.out _ HK.out) (fun _ => ?_)
        clear hK K
        try simp only [List.getElem_toArray, List.getElem_cons_zero, List.getElem_cons_succ, Act.put, List.setIfInBounds_toArray, List.set_cons_zero, List.set_cons_succ]
        refine wpAnyH_ready (rs := [12, 14]) (by kernel_rfl) (by simp) ?_
        refine AllReadyH.cons rfl (fun K hK => ?_) ?_
        · go_simp
          go_at_call 41
          refine (clone_s au p.units.length cu (textV p.units) _ (by rw [textV_len]; omega) (strs_run.1 ((HM1.out.ext HK.out).units)) (ones_s _) (by omega)).mono ?_
          rintro e5 wc5 ⟨y5, z5, rfl, hz5, hr5, hfr, hx⟩
          have HF5 : Hid (Fresh w1.heap.size y5) := Lib.hid (fun ad h => Nat.le_trans HK.out.size (hfr ad h)); clear hfr
          have HZ5 := Lib.hid hz5; clear hz5
          have HX5 := Lib.hid hx
          replace HK := Lib.hid (HK.out.trans hx)
          have HR5 := Lib.hid hr5; clear hr5
          replace HR2 := Lib.hid (HR2.out.ext hx)
          replace HR3 := Lib.hid (HR3.out.ext hx)
          clear hx
          go_wp2_with fail
          refine hK.out _ _ (HCS.out _ HK.out) (fun _ => ?_)
          clear hK K
          try simp only [List.getElem_toArray, List.getElem_cons_zero, List.getElem_cons_succ, Act.put, List.setIfInBounds_toArray, List.set_cons_zero, List.set_cons_succ]
          refine wpAnyH_take (i := 13) (v := ?v11) rfl (by kernel_rfl) (by kernel_rfl) (by kernel_rfl) (fun _ _ _ h => h) (Or.inl ⟨by kernel_rfl, ?hy11⟩) (HCS.out _ HK.out) ?rest11
          case hy11 => (intro wq _; first | (go_simp; done) | (go_simp; with_reducible rfl))
          try simp only [List.getElem_toArray, List.getElem_cons_zero, List.getElem_cons_succ, Act.put, List.setIfInBounds_toArray, List.set_cons_zero, List.set_cons_succ]
          refine wpAnyH_ready (rs := [14]) (by kernel_rfl) (by simp) ?_
          refine AllReadyH.cons rfl (fun K hK => ?_) ?_
          · go_simp
            have hxa := Ext.alloc wc5 (.cells #[.string ⟨#[]⟩, .string ⟨#[]⟩, .slice none 0 0, .slice none 0 0, .slice none 0 0, .slice none 0 0] 37)
            have hbn := heap_alloc_new wc5 (.cells #[.string ⟨#[]⟩, .string ⟨#[]⟩, .slice none 0 0, .slice none 0 0, .slice none 0 0, .slice none 0 0] 37)
            have hle := HK.out.size
            have HA2 := Lib.hid (away_old HR2.out (Nat.le_refl _))
            replace HR2 := Lib.hid (HR2.out.ext hxa)
            have HA3 := Lib.hid (away_old HR3.out (Nat.le_refl _))
            replace HR3 := Lib.hid (HR3.out.ext hxa)
            have HA5 := Lib.hid (away_old HR5.out (Nat.le_refl _))
            replace HR5 := Lib.hid (HR5.out.ext hxa)
            replace HK := Lib.hid (HK.out.trans hxa)
            generalize wc5.alloc (.cells #[.string ⟨#[]⟩, .string ⟨#[]⟩, .slice none 0 0, .slice none 0 0, .slice none 0 0, .slice none 0 0] 37) = wb at hxa hbn HK HR2 HR3 HR5 ⊢
            obtain ⟨B, hB⟩ : ∃ x, x = wc5.heap.size := ⟨_, rfl⟩
            rw [← hB] at hbn hle HA2 HA3 HA5 ⊢
            have NB : Hid (w1.heap.size ≤ B ∧ wb.heap[B]? = some (.cells #[.string ⟨#[]⟩, .string ⟨#[]⟩, .slice none 0 0, .slice none 0 0, .slice none 0 0, .slice none 0 0] 37 (0, 0))) := Lib.hid ⟨hle, hbn⟩
            have HBW := Lib.hid hB
            have HXA := Lib.hid hxa
            clear hbn hle hB hxa
            refine hK.out _ _ (HCS.out _ HK.out) (fun _ => ?_)
            clear hK K
            try simp only [List.getElem_toArray, List.getElem_cons_zero, List.getElem_cons_succ, Act.put, List.setIfInBounds_toArray, List.set_cons_zero, List.set_cons_succ]
            refine wpAnyH_ready (rs := [15]) (by kernel_rfl) (by simp) ?_
            refine AllReadyH.cons rfl (fun K hK => ?_) ?_
            · have n0 := blk_cell NB.out.2 0 (Value.string ⟨#[]⟩) rfl
              have n1 := blk_cell NB.out.2 1 (Value.string ⟨#[]⟩) rfl
              have n2 := blk_cell NB.out.2 2 (Value.slice none 0 0) rfl
              have n3 := blk_cell NB.out.2 3 (Value.slice none 0 0) rfl
              have n4 := blk_cell NB.out.2 4 (Value.slice none 0 0) rfl
              have n5 := blk_cell NB.out.2 5 (Value.slice none 0 0) rfl
              have g0 := blk_free NB.out.2 0
              have g1 := blk_free NB.out.2 1
              have g2 := blk_free NB.out.2 2
              have g3 := blk_free NB.out.2 3
              have g4 := blk_free NB.out.2 4
              have g5 := blk_free NB.out.2 5
              go_simp
              have hs6 := set6e NB.out.2 (.string (bs p.name)) (.string (bs p.ver)) (.slice y2 p.needs.length z2) (.slice y3 p.conf.length z3) (.slice none 0 0) (.slice y5 p.units.length z5)
              have HS6 := Lib.hid hs6; clear hs6
              have HKS : Hid (Ext w1 _) := Lib.hid (((Keep.of_ext (S := fun j => j < w1.heap.size) HK.out).andThen (Keep.of_but HS6.out.2) (fun j hj _ => by have := NB.out.1; omega))).ext_lt
              refine hK.out _ _ (HCS.out _ HKS.out) (fun _ => ?_)
              clear hK K
              try simp only [List.getElem_toArray, List.getElem_cons_zero, List.getElem_cons_succ, Act.put, List.setIfInBounds_toArray, List.set_cons_zero, List.set_cons_succ]
              refine wpAnyH_done (by kernel_rfl) ?_ _
              refine NoPanic.normal ?_
              have hbut := HS6.out.2
              have hs6 := HS6.out.1
              have hm6 := Keep.of_but hbut
              have hext := HKS.out
              clear hbut n0 g0 n1 g1 n2 g2 n3 g3 n4 g4 n5 g5
              generalize ((((((wb.setCell ⟨B, 0, none⟩ (.string (bs p.name))).setCell ⟨B, 1, none⟩ (.string (bs p.ver))).setCell ⟨B, 2, none⟩ (.slice y2 p.needs.length z2)).setCell ⟨B, 3, none⟩ (.slice y3 p.conf.length z3)).setCell ⟨B, 4, none⟩ (.slice none 0 0)).setCell ⟨B, 5, none⟩ (.slice y5 p.units.length z5)) = w6 at hs6 hm6 hext ⊢
              go_wp2_with fail
              go_meet
              exact ⟨B, y2, z2, y3, z3, y5, z5, rfl, Lib.hid ⟨NB.out.1, hs6⟩, Lib.hid ⟨HZ2.out, HZ3.out, HZ5.out, HR2.out.keepA hm6 HA2.out, HR3.out.keepA hm6 HA3.out, HR5.out.keepA hm6 HA5.out⟩, Lib.hid ⟨⟨HA2.out, HA3.out, HA5.out⟩, HF2.out, HF3.out, HF5.out⟩, Lib.hid hext⟩
            exact AllReadyH.nil
          exact AllReadyH.nil
        refine AllReadyH.cons rfl (fun K hK => ?_) ?_
        · go_simp
          have hxa := Ext.alloc wc3 (.cells #[.string ⟨#[]⟩, .string ⟨#[]⟩, .slice none 0 0, .slice none 0 0, .slice none 0 0, .slice none 0 0] 37)
          have hbn := heap_alloc_new wc3 (.cells #[.string ⟨#[]⟩, .string ⟨#[]⟩, .slice none 0 0, .slice none 0 0, .slice none 0 0, .slice none 0 0] 37)
          have hle := HK.out.size
          have HA2 := Lib.hid (away_old HR2.out (Nat.le_refl _))
          replace HR2 := Lib.hid (HR2.out.ext hxa)
          have HA3 := Lib.hid (away_old HR3.out (Nat.le_refl _))
          replace HR3 := Lib.hid (HR3.out.ext hxa)
          replace HK := Lib.hid (HK.out.trans hxa)
          generalize wc3.alloc (.cells #[.string ⟨#[]⟩, .string ⟨#[]⟩, .slice none 0 0, .slice none 0 0, .slice none 0 0, .slice none 0 0] 37) = wb at hxa hbn HK HR2 HR3 ⊢
          obtain ⟨B, hB⟩ : ∃ x, x = wc3.heap.size := ⟨_, rfl⟩
          rw [← hB] at hbn hle HA2 HA3 ⊢
          have NB : Hid (w1.heap.size ≤ B ∧ wb.heap[B]? = some (.cells #[.string ⟨#[]⟩, .string ⟨#[]⟩, .slice none 0 0, .slice none 0 0, .slice none 0 0, .slice none 0 0] 37 (0, 0))) := Lib.hid ⟨hle, hbn⟩
          have HBW := Lib.hid hB
          have HXA := Lib.hid hxa
          clear hbn hle hB hxa
          refine hK.out _ _ (HCS.out _ HK.out) (fun _ => ?_)
          clear hK K
          try simp only [List.getElem_toArray, List.getElem_cons_zero, List.getElem_cons_succ, Act.put, List.setIfInBounds_toArray, List.set_cons_zero, List.set_cons_succ]
          refine wpAnyH_ready (rs := [12]) (by kernel_rfl) (by simp) ?_
          refine AllReadyH.cons rfl (fun K hK => ?_) ?_
          · go_simp
            go_at_call 41
            refine (clone_s au p.units.length cu (textV p.units) _ (by rw [textV_len]; omega) (strs_run.1 ((HM1.out.ext HK.out).units)) (ones_s _) (by omega)).mono ?_
            rintro e5 wc5 ⟨y5, z5, rfl, hz5, hr5, hfr, hx⟩
            have HA5 := Lib.hid (away_new (us := textV p.units) hfr (Array.getElem?_eq_some_iff.1 NB.out.2).1)
            have HF5 : Hid (Fresh w1.heap.size y5) := Lib.hid (fun ad h => Nat.le_trans HK.out.size (hfr ad h)); clear hfr
            have HZ5 := Lib.hid hz5; clear hz5
            have HX5 := Lib.hid hx
            replace HK := Lib.hid (HK.out.trans hx)
            have HR5 := Lib.hid hr5; clear hr5
            replace HR2 := Lib.hid (HR2.out.ext hx)
            replace HR3 := Lib.hid (HR3.out.ext hx)
            replace NB := Lib.hid (And.intro NB.out.1 (hx.heap NB.out.2))
            clear hx
            go_wp2_with fail
            refine hK.out _ _ (HCS.out _ HK.out) (fun _ => ?_)
            clear hK K
            try simp only [List.getElem_toArray, List.getElem_cons_zero, List.getElem_cons_succ, Act.put, List.setIfInBounds_toArray, List.set_cons_zero, List.set_cons_succ]
            refine wpAnyH_take (i := 13) (v := ?v12) rfl (by kernel_rfl) (by kernel_rfl) (by kernel_rfl) (fun _ _ _ h => h) (Or.inl ⟨by kernel_rfl, ?hy12⟩) (HCS.out _ HK.out) ?rest12
            case hy12 => (intro wq _; first | (go_simp; done) | (go_simp; with_reducible rfl))
            try simp only [List.getElem_toArray, List.getElem_cons_zero, List.getElem_cons_succ, Act.put, List.setIfInBounds_toArray, List.set_cons_zero, List.set_cons_succ]
            refine wpAnyH_ready (rs := [15]) (by kernel_rfl) (by simp) ?_
            refine AllReadyH.cons rfl (fun K hK => ?_) ?_
            · have n0 := blk_cell NB.out.2 0 (Value.string ⟨#[]⟩) rfl
              have n1 := blk_cell NB.out.2 1 (Value.string ⟨#[]⟩) rfl
              have n2 := blk_cell NB.out.2 2 (Value.slice none 0 0) rfl
              have n3 := blk_cell NB.out.2 3 (Value.slice none 0 0) rfl
              have n4 := blk_cell NB.out.2 4 (Value.slice none 0 0) rfl
              have n5 := blk_cell NB.out.2 5 (Value.slice none 0 0) rfl
              have g0 := blk_free NB.out.2 0
              have g1 := blk_free NB.out.2 1
              have g2 := blk_free NB.out.2 2
              have g3 := blk_free NB.out.2 3
              have g4 := blk_free NB.out.2 4
              have g5 := blk_free NB.out.2 5
              go_simp
              have hs6 := set6e NB.out.2 (.string (bs p.name)) (.string (bs p.ver)) (.slice y2 p.needs.length z2) (.slice y3 p.conf.length z3) (.slice none 0 0) (.slice y5 p.units.length z5)
              have HS6 := Lib.hid hs6; clear hs6
              have HKS : Hid (Ext w1 _) := Lib.hid (((Keep.of_ext (S := fun j => j < w1.heap.size) HK.out).andThen (Keep.of_but HS6.out.2) (fun j hj _ => by have := NB.out.1; omega))).ext_lt
              refine hK.out _ _ (HCS.out _ HKS.out) (fun _ => ?_)
              clear hK K
              try simp only [List.getElem_toArray, List.getElem_cons_zero, List.getElem_cons_succ, Act.put, List.setIfInBounds_toArray, List.set_cons_zero, List.set_cons_succ]
              refine wpAnyH_done (by kernel_rfl) ?_ _
              refine NoPanic.normal ?_
              have hbut := HS6.out.2
              have hs6 := HS6.out.1
              have hm6 := Keep.of_but hbut
              have hext := HKS.out
              clear hbut n0 g0 n1 g1 n2 g2 n3 g3 n4 g4 n5 g5
              generalize ((((((wc5.setCell ⟨B, 0, none⟩ (.string (bs p.name))).setCell ⟨B, 1, none⟩ (.string (bs p.ver))).setCell ⟨B, 2, none⟩ (.slice y2 p.needs.length z2)).setCell ⟨B, 3, none⟩ (.slice y3 p.conf.length z3)).setCell ⟨B, 4, none⟩ (.slice none 0 0)).setCell ⟨B, 5, none⟩ (.slice y5 p.units.length z5)) = w6 at hs6 hm6 hext ⊢
              go_wp2_with fail
              go_meet
              exact ⟨B, y2, z2, y3, z3, y5, z5, rfl, Lib.hid ⟨NB.out.1, hs6⟩, Lib.hid ⟨HZ2.out, HZ3.out, HZ5.out, HR2.out.keepA hm6 HA2.out, HR3.out.keepA hm6 HA3.out, HR5.out.keepA hm6 HA5.out⟩, Lib.hid ⟨⟨HA2.out, HA3.out, HA5.out⟩, HF2.out, HF3.out, HF5.out⟩, Lib.hid hext⟩
            exact AllReadyH.nil
          exact AllReadyH.nil
        exact AllReadyH.nil
      refine AllReadyH.cons rfl (fun K hK => ?_) ?_
      · go_simp
        have hxa := Ext.alloc wc2 (.cells #[.string ⟨#[]⟩, .string ⟨#[]⟩, .slice none 0 0, .slice none 0 0, .slice none 0 0, .slice none 0 0] 37)
        have hbn := heap_alloc_new wc2 (.cells #[.string ⟨#[]⟩, .string ⟨#[]⟩, .slice none 0 0, .slice none 0 0, .slice none 0 0, .slice none 0 0] 37)
        have hle := HK.out.size
        have HA2 := Lib.hid (away_old HR2.out (Nat.le_refl _))
        replace HR2 := Lib.hid (HR2.out.ext hxa)
        replace HK := Lib.hid (HK.out.trans hxa)
        generalize wc2.alloc (.cells #[.string ⟨#[]⟩, .string ⟨#[]⟩, .slice none 0 0, .slice none 0 0, .slice none 0 0, .slice none 0 0] 37) = wb at hxa hbn HK HR2 ⊢
        obtain ⟨B, hB⟩ : ∃ x, x = wc2.heap.size := ⟨_, rfl⟩
        rw [← hB] at hbn hle HA2 ⊢
        have NB : Hid (w1.heap.size ≤ B ∧ wb.heap[B]? = some (.cells #[.string ⟨#[]⟩, .string ⟨#[]⟩, .slice none 0 0, .slice none 0 0, .slice none 0 0, .slice none 0 0] 37 (0, 0))) := Lib.hid ⟨hle, hbn⟩
        have HBW := Lib.hid hB
        have HXA := Lib.hid hxa
        clear hbn hle hB hxa
        refine hK.out _ _ (HCS.out _ HK.out) (fun _ => ?_)
        clear hK K
        try simp only [List.getElem_toArray, List.getElem_cons_zero, List.getElem_cons_succ, Act.put, List.setIfInBounds_toArray, List.set_cons_zero, List.set_cons_succ]
        refine wpAnyH_ready (rs := [9]) (by kernel_rfl) (by simp) ?_
        refine AllReadyH.cons rfl (fun K hK => ?_) ?_
        · go_simp
          go_at_call 41
          refine (clone_s ac p.conf.length cc (textV p.conf) _ (by rw [textV_len]; omega) (strs_run.1 ((HM1.out.ext HK.out).conf)) (ones_s _) (by omega)).mono ?_
          rintro e3 wc3 ⟨y3, z3, rfl, hz3, hr3, hfr, hx⟩
          have HA3 := Lib.hid (away_new (us := textV p.conf) hfr (Array.getElem?_eq_some_iff.1 NB.out.2).1)
          have HF3 : Hid (Fresh w1.heap.size y3) := Lib.hid (fun ad h => Nat.le_trans HK.out.size (hfr ad h)); clear hfr
          have HZ3 := Lib.hid hz3; clear hz3
          have HX3 := Lib.hid hx
          replace HK := Lib.hid (HK.out.trans hx)
          have HR3 := Lib.hid hr3; clear hr3
          replace HR2 := Lib.hid (HR2.out.ext hx)
          replace NB := Lib.hid (And.intro NB.out.1 (hx.heap NB.out.2))
          clear hx
          go_wp2_with fail
          refine hK.out _ _ (HCS.out _ HK.out) (fun _ => ?_)
          clear hK K
          try simp only [List.getElem_toArray, List.getElem_cons_zero, List.getElem_cons_succ, Act.put, List.setIfInBounds_toArray, List.set_cons_zero, List.set_cons_succ]
          refine wpAnyH_ready (rs := [12]) (by kernel_rfl) (by simp) ?_
          refine AllReadyH.cons rfl (fun K hK => ?_) ?_
          · go_simp
            go_at_call 41
            refine (clone_s au p.units.length cu (textV p.units) _ (by rw [textV_len]; omega) (strs_run.1 ((HM1.out.ext HK.out).units)) (ones_s _) (by omega)).mono ?_
            rintro e5 wc5 ⟨y5, z5, rfl, hz5, hr5, hfr, hx⟩
            have HA5 := Lib.hid (away_new (us := textV p.units) hfr (Array.getElem?_eq_some_iff.1 NB.out.2).1)
            have HF5 : Hid (Fresh w1.heap.size y5) := Lib.hid (fun ad h => Nat.le_trans HK.out.size (hfr ad h)); clear hfr
            have HZ5 := Lib.hid hz5; clear hz5
            have HX5 := Lib.hid hx
            replace HK := Lib.hid (HK.out.trans hx)
            have HR5 := Lib.hid hr5; clear hr5
            replace HR2 := Lib.hid (HR2.out.ext hx)
            replace HR3 := Lib.hid (HR3.out.ext hx)
            replace NB := Lib.hid (And.intro NB.out.1 (hx.heap NB.out.2))
            clear hx
            go_wp2_with fail
            refine hK.out _ _ (HCS.out _ HK.out) (fun _ => ?_)
            clear hK K
            try simp only [List.getElem_toArray, List.getElem_cons_zero, List.getElem_cons_succ, Act.put, List.setIfInBounds_toArray, List.set_cons_zero, List.set_cons_succ]
            refine wpAnyH_take (i := 13) (v := ?v13) rfl (by kernel_rfl) (by kernel_rfl) (by kernel_rfl) (fun _ _ _ h => h) (Or.inl ⟨by kernel_rfl, ?hy13⟩) (HCS.out _ HK.out) ?rest13
            case hy13 => (intro wq _; first | (go_simp; done) | (go_simp; with_reducible rfl))
            try simp only [List.getElem_toArray, List.getElem_cons_zero, List.getElem_cons_succ, Act.put, List.setIfInBounds_toArray, List.set_cons_zero, List.set_cons_succ]
            refine wpAnyH_ready (rs := [15]) (by kernel_rfl) (by simp) ?_
            refine AllReadyH.cons rfl (fun K hK => ?_) ?_
            · have n0 := blk_cell NB.out.2 0 (Value.string ⟨#[]⟩) rfl
              have n1 := blk_cell NB.out.2 1 (Value.string ⟨#[]⟩) rfl
              have n2 := blk_cell NB.out.2 2 (Value.slice none 0 0) rfl
              have n3 := blk_cell NB.out.2 3 (Value.slice none 0 0) rfl
              have n4 := blk_cell NB.out.2 4 (Value.slice none 0 0) rfl
              have n5 := blk_cell NB.out.2 5 (Value.slice none 0 0) rfl
              have g0 := blk_free NB.out.2 0
              have g1 := blk_free NB.out.2 1
              have g2 := blk_free NB.out.2 2
              have g3 := blk_free NB.out.2 3
              have g4 := blk_free NB.out.2 4
              have g5 := blk_free NB.out.2 5
              go_simp
              have hs6 := set6e NB.out.2 (.string (bs p.name)) (.string (bs p.ver)) (.slice y2 p.needs.length z2) (.slice y3 p.conf.length z3) (.slice none 0 0) (.slice y5 p.units.length z5)
              have HS6 := Lib.hid hs6; clear hs6
              have HKS : Hid (Ext w1 _) := Lib.hid (((Keep.of_ext (S := fun j => j < w1.heap.size) HK.out).andThen (Keep.of_but HS6.out.2) (fun j hj _ => by have := NB.out.1; omega))).ext_lt
              refine hK.out _ _ (HCS.out _ HKS.out) (fun _ => ?_)
              clear hK K
              try simp only [List.getElem_toArray, List.getElem_cons_zero, List.getElem_cons_succ, Act.put, List.setIfInBounds_toArray, List.set_cons_zero, List.set_cons_succ]
              refine wpAnyH_done (by kernel_rfl) ?_ _
              refine NoPanic.normal ?_
              have hbut := HS6.out.2
              have hs6 := HS6.out.1
              have hm6 := Keep.of_but hbut
              have hext := HKS.out
              clear hbut n0 g0 n1 g1 n2 g2 n3 g3 n4 g4 n5 g5
              generalize ((((((wc5.setCell ⟨B, 0, none⟩ (.string (bs p.name))).setCell ⟨B, 1, none⟩ (.string (bs p.ver))).setCell ⟨B, 2, none⟩ (.slice y2 p.needs.length z2)).setCell ⟨B, 3, none⟩ (.slice y3 p.conf.length z3)).setCell ⟨B, 4, none⟩ (.slice none 0 0)).setCell ⟨B, 5, none⟩ (.slice y5 p.units.length z5)) = w6 at hs6 hm6 hext ⊢
              go_wp2_with fail
              go_meet
              exact ⟨B, y2, z2, y3, z3, y5, z5, rfl, Lib.hid ⟨NB.out.1, hs6⟩, Lib.hid ⟨HZ2.out, HZ3.out, HZ5.out, HR2.out.keepA hm6 HA2.out, HR3.out.keepA hm6 HA3.out, HR5.out.keepA hm6 HA5.out⟩, Lib.hid ⟨⟨HA2.out, HA3.out, HA5.out⟩, HF2.out, HF3.out, HF5.out⟩, Lib.hid hext⟩
            exact AllReadyH.nil
          exact AllReadyH.nil
        exact AllReadyH.nil
      exact AllReadyH.nil
    refine AllReadyH.cons rfl (fun K hK => ?_) ?_
    · go_simp
      have hxa := Ext.alloc wd (.cells #[.string ⟨#[]⟩, .string ⟨#[]⟩, .slice none 0 0, .slice none 0 0, .slice none 0 0, .slice none 0 0] 37)
      have hbn := heap_alloc_new wd (.cells #[.string ⟨#[]⟩, .string ⟨#[]⟩, .slice none 0 0, .slice none 0 0, .slice none 0 0, .slice none 0 0] 37)
      have hle := HK.out.size
      replace HK := Lib.hid (HK.out.trans hxa)
      generalize wd.alloc (.cells #[.string ⟨#[]⟩, .string ⟨#[]⟩, .slice none 0 0, .slice none 0 0, .slice none 0 0, .slice none 0 0] 37) = wb at hxa hbn HK ⊢
      obtain ⟨B, hB⟩ : ∃ x, x = wd.heap.size := ⟨_, rfl⟩
      rw [← hB] at hbn hle ⊢
      have NB : Hid (w1.heap.size ≤ B ∧ wb.heap[B]? = some (.cells #[.string ⟨#[]⟩, .string ⟨#[]⟩, .slice none 0 0, .slice none 0 0, .slice none 0 0, .slice none 0 0] 37 (0, 0))) := Lib.hid ⟨hle, hbn⟩
      have HBW := Lib.hid hB
      have HXA := Lib.hid hxa
      clear hbn hle hB hxa
      refine hK.out _ _ (HCS.out _ HK.out) (fun _ => ?_)
      clear hK K
      try simp only [List.getElem_toArray, List.getElem_cons_zero, List.getElem_cons_succ, Act.put, List.setIfInBounds_toArray, List.set_cons_zero, List.set_cons_succ]
      refine wpAnyH_ready (rs := [6]) (by kernel_rfl) (by simp) ?_
      refine AllReadyH.cons rfl (fun K hK => ?_) ?_
      · go_simp
        go_at_call 40
        refine (clone_n an p.needs.length cn (p.needs.flatMap needV3) _ (flat_lenm (F := needV3) (fun _ => rfl) _) (needs_run.1 ((HM1.out.ext HK.out).needs)) (ones_n _) (by omega)).mono ?_
        rintro e2 wc2 ⟨y2, z2, rfl, hz2, hr2, hfr, hx⟩
        have HA2 := Lib.hid (away_new (us := p.needs.flatMap needV3) hfr (Array.getElem?_eq_some_iff.1 NB.out.2).1)
        have HF2 : Hid (Fresh w1.heap.size y2) := Lib.hid (fun ad h => Nat.le_trans HK.out.size (hfr ad h)); clear hfr
        have HZ2 := Lib.hid hz2; clear hz2
        have HX2 := Lib.hid hx
        replace HK := Lib.hid (HK.out.trans hx)
        have HR2 := Lib.hid hr2; clear hr2
        replace NB := Lib.hid (And.intro NB.out.1 (hx.heap NB.out.2))
        clear hx
        go_wp2_with fail
        refine hK.out _ _ (HCS.out _ HK.out) (fun _ => ?_)
        clear hK K
        try simp only [List.getElem_toArray, List.getElem_cons_zero, List.getElem_cons_succ, Act.put, List.setIfInBounds_toArray, List.set_cons_zero, List.set_cons_succ]
        refine wpAnyH_ready (rs := [9]) (by kernel_rfl) (by simp) ?_
        refine AllReadyH.cons rfl (fun K hK => ?_) ?_
        · go_simp
          go_at_call 41
          refine (clone_s ac p.conf.length cc (textV p.conf) _ (by rw [textV_len]; omega) (strs_run.1 ((HM1.out.ext HK.out).conf)) (ones_s _) (by omega)).mono ?_
          rintro e3 wc3 ⟨y3, z3, rfl, hz3, hr3, hfr, hx⟩
          have HA3 := Lib.hid (away_new (us := textV p.conf) hfr (Array.getElem?_eq_some_iff.1 NB.out.2).1)
          have HF3 : Hid (Fresh w1.heap.size y3) := Lib.hid (fun ad h => Nat.le_trans HK.out.size (hfr ad h)); clear hfr
          have HZ3 := Lib.hid hz3; clear hz3
          have HX3 := Lib.hid hx
          replace HK := Lib.hid (HK.out.trans hx)
          have HR3 := Lib.hid hr3; clear hr3
          replace HR2 := Lib.hid (HR2.out.ext hx)
          replace NB := Lib.hid (And.intro NB.out.1 (hx.heap NB.out.2))
          clear hx
          go_wp2_with fail
          refine hK.out _ _ (HCS.out _ HK.out) (fun _ => ?_)
          clear hK K
          try simp only [List.getElem_toArray, List.getElem_cons_zero, List.getElem_cons_succ, Act.put, List.setIfInBounds_toArray, List.set_cons_zero, List.set_cons_succ]
          refine wpAnyH_ready (rs := [12]) (by kernel_rfl) (by simp) ?_
          refine AllReadyH.cons rfl (fun K hK => ?_) ?_
          · go_simp
            go_at_call 41
            refine (clone_s au p.units.length cu (textV p.units) _ (by rw [textV_len]; omega) (strs_run.1 ((HM1.out.ext HK.out).units)) (ones_s _) (by omega)).mono ?_
            rintro e5 wc5 ⟨y5, z5, rfl, hz5, hr5, hfr, hx⟩
            have HA5 := Lib.hid (away_new (us := textV p.units) hfr (Array.getElem?_eq_some_iff.1 NB.out.2).1)
            have HF5 : Hid (Fresh w1.heap.size y5) := Lib.hid (fun ad h => Nat.le_trans HK.out.size (hfr ad h)); clear hfr
            have HZ5 := Lib.hid hz5; clear hz5
            have HX5 := Lib.hid hx
            replace HK := Lib.hid (HK.out.trans hx)
            have HR5 := Lib.hid hr5; clear hr5
            replace HR2 := Lib.hid (HR2.out.ext hx)
            replace HR3 := Lib.hid (HR3.out.ext hx)
            replace NB := Lib.hid (And.intro NB.out.1 (hx.heap NB.out.2))
            clear hx
            go_wp2_with fail
            refine hK.out _ _ (HCS.out _ HK.out) (fun _ => ?_)
            clear hK K
            try simp only [List.getElem_toArray, List.getElem_cons_zero, List.getElem_cons_succ, Act.put, List.setIfInBounds_toArray, List.set_cons_zero, List.set_cons_succ]
            refine wpAnyH_take (i := 13) (v := ?v14) rfl (by kernel_rfl) (by kernel_rfl) (by kernel_rfl) (fun _ _ _ h => h) (Or.inl ⟨by kernel_rfl, ?hy14⟩) (HCS.out _ HK.out) ?rest14
            case hy14 => (intro wq _; first | (go_simp; done) | (go_simp; with_reducible rfl))
            try simp only [List.getElem_toArray, List.getElem_cons_zero, List.getElem_cons_succ, Act.put, List.setIfInBounds_toArray, List.set_cons_zero, List.set_cons_succ]
            refine wpAnyH_ready (rs := [15]) (by kernel_rfl) (by simp) ?_
            refine AllReadyH.cons rfl (fun K hK => ?_) ?_
            · have n0 := blk_cell NB.out.2 0 (Value.string ⟨#[]⟩) rfl
              have n1 := blk_cell NB.out.2 1 (Value.string ⟨#[]⟩) rfl
              have n2 := blk_cell NB.out.2 2 (Value.slice none 0 0) rfl
              have n3 := blk_cell NB.out.2 3 (Value.slice none 0 0) rfl
              have n4 := blk_cell NB.out.2 4 (Value.slice none 0 0) rfl
              have n5 := blk_cell NB.out.2 5 (Value.slice none 0 0) rfl
              have g0 := blk_free NB.out.2 0
              have g1 := blk_free NB.out.2 1
              have g2 := blk_free NB.out.2 2
              have g3 := blk_free NB.out.2 3
              have g4 := blk_free NB.out.2 4
              have g5 := blk_free NB.out.2 5
              go_simp
              have hs6 := set6e NB.out.2 (.string (bs p.name)) (.string (bs p.ver)) (.slice y2 p.needs.length z2) (.slice y3 p.conf.length z3) (.slice none 0 0) (.slice y5 p.units.length z5)
              have HS6 := Lib.hid hs6; clear hs6
              have HKS : Hid (Ext w1 _) := Lib.hid (((Keep.of_ext (S := fun j => j < w1.heap.size) HK.out).andThen (Keep.of_but HS6.out.2) (fun j hj _ => by have := NB.out.1; omega))).ext_lt
              refine hK.out _ _ (HCS.out _ HKS.out) (fun _ => ?_)
              clear hK K
              try simp only [List.getElem_toArray, List.getElem_cons_zero, List.getElem_cons_succ, Act.put, List.setIfInBounds_toArray, List.set_cons_zero, List.set_cons_succ]
              refine wpAnyH_done (by kernel_rfl) ?_ _
              refine NoPanic.normal ?_
              have hbut := HS6.out.2
              have hs6 := HS6.out.1
              have hm6 := Keep.of_but hbut
              have hext := HKS.out
              clear hbut n0 g0 n1 g1 n2 g2 n3 g3 n4 g4 n5 g5
              generalize ((((((wc5.setCell ⟨B, 0, none⟩ (.string (bs p.name))).setCell ⟨B, 1, none⟩ (.string (bs p.ver))).setCell ⟨B, 2, none⟩ (.slice y2 p.needs.length z2)).setCell ⟨B, 3, none⟩ (.slice y3 p.conf.length z3)).setCell ⟨B, 4, none⟩ (.slice none 0 0)).setCell ⟨B, 5, none⟩ (.slice y5 p.units.length z5)) = w6 at hs6 hm6 hext ⊢
              go_wp2_with fail
              go_meet
              exact ⟨B, y2, z2, y3, z3, y5, z5, rfl, Lib.hid ⟨NB.out.1, hs6⟩, Lib.hid ⟨HZ2.out, HZ3.out, HZ5.out, HR2.out.keepA hm6 HA2.out, HR3.out.keepA hm6 HA3.out, HR5.out.keepA hm6 HA5.out⟩, Lib.hid ⟨⟨HA2.out, HA3.out, HA5.out⟩, HF2.out, HF3.out, HF5.out⟩, Lib.hid hext⟩
            exact AllReadyH.nil
          exact AllReadyH.nil
        exact AllReadyH.nil
      exact AllReadyH.nil
    exact AllReadyH.nil
  case rest =>
    obtain ⟨B, y2, z2, y3, z3, y5, z5, rfl, hnb, hrn, haf, hxc⟩ := hcut
    clear HCS HK
    have d4 : wc.cell? ⟨BX, 4, none⟩ = some (.slice af p.files.length cf) := blk_cell (hxc.out.heap HB1.out) 4 _ rfl
    have hBl : w1.heap.size ≤ B := hnb.out.1
    have hBc : B < wc.heap.size := (Array.getElem?_eq_some_iff.1 hnb.out.2).1
    have hs1 := hxc.out.size
    go_wp2_with fail
    clear d4
    go_loopw [23] (fun i wr => ∃ (k : Nat) (a : Option Addr) (c : Nat), i = .int .i64 k ∧ k ≤ p.files.length ∧ Hid (wr.heap[B]? = some (.cells #[.string (bs p.name), .string (bs p.ver), .slice y2 p.needs.length z2, .slice y3 p.conf.length z3, .slice a k c, .slice y5 p.units.length z5] 37 (0, 0))) ∧ Hid (wr.ownsRow wc.heap.size 71 3 (.slice a k c) k (((p.files.map ofF).take k).flatMap fileV3)) ∧ Hid (Keep (fun j => j < wc.heap.size ∧ j ≠ B) wc wr)) (fun i _ => p.files.length - (intOf i).toNat)
    case atStart => exact ⟨0, none, 0, rfl, Nat.zero_le _, Lib.hid hnb.out.2, Lib.hid (World.ownsRow_nil _ _ _ _), Lib.hid (Keep.refl _ _)⟩
    case round =>
      obtain ⟨k, a, c, rfl, hk, hB, hO, hK⟩ := hrel
      have hxr : Ext w1 wr := ((Keep.of_ext (S := fun j => j < w1.heap.size) hxc.out).andThen hK.out (fun j hj _ => ⟨by omega, by omega⟩)).ext_lt
      have HXR := Lib.hid hxr; clear hxr
      have hcr := hK.out.size
      by_cases hlt : k < p.files.length
      · obtain ⟨g, off, rfl, hgl, h1, h2, d, q, h3, hq, hby⟩ := (HM1.out.files.ext HXR.out).at hlt
        have hml := HLD.out _ (show p.files.getD k fz ∈ p.files by rw [List.getD_eq_getElem?_getD, List.getElem?_eq_getElem hlt]; simp)
        obtain ⟨m, hm⟩ : ∃ m, m = p.files.getD k fz := ⟨_, rfl⟩
        rw [← hm] at h1 h2 h3 hby hml
        obtain ⟨mp, mc, md⟩ := m
        simp only at h1 h2 h3 hby hml
        have HMM := Lib.hid hm; clear hm hq
        go_upto_region 5 with (fail)
        clear h1 h2 h3
        have hx2 := Ext.alloc wr (.cells #[.string (bs mp), .bool mc, .slice d md.length q] 76)
        have hf2 := heap_alloc_new wr (.cells #[.string (bs mp), .bool mc, .slice d md.length q] 76)
        generalize wr.alloc (.cells #[.string (bs mp), .bool mc, .slice d md.length q] 76) = w2 at hx2 hf2 ⊢
        obtain ⟨F, hF⟩ : ∃ x, x = wr.heap.size := ⟨_, rfl⟩
        rw [← hF] at hf2 ⊢
        have HFS := Lib.hid hF; clear hF
        have HB2 := Lib.hid (hx2.heap hB.out)
        have HF2 := Lib.hid hf2; clear hf2
        have HBY := Lib.hid (hby.ext hx2); clear hby
        have HO2 := Lib.hid (ownsRow_ext hO.out hx2)
        have HX2 := Lib.hid hx2; clear hx2
        have HKK := Lib.hid ((Ext.refl w2).drew)
        have hs2 : ∀ W, Ext w2 W → W.cell? ⟨B, 4, none⟩ = some (.slice a k c) ∧ W.cell? ⟨F, 0, none⟩ = some (.string (bs mp)) ∧ W.cell? ⟨F, 1, none⟩ = some (.bool mc) ∧ W.cell? ⟨F, 2, none⟩ = some (.slice d md.length q) := fun W x => ⟨blk_cell (x.heap HB2.out) 4 _ rfl, blk_cell (x.heap HF2.out) 0 _ rfl, blk_cell (x.heap HF2.out) 1 _ rfl, blk_cell (x.heap HF2.out) 2 _ rfl⟩
        have HS2 := Lib.hid hs2; clear hs2
        refine wp_region_noPanic ?_
        refine wp_region_K (S := (fun W => W.cell? ⟨B, 4, none⟩ = some (.slice a k c) ∧ W.cell? ⟨F, 0, none⟩ = some (.string (bs mp)) ∧ W.cell? ⟨F, 1, none⟩ = some (.bool mc) ∧ W.cell? ⟨F, 2, none⟩ = some (.slice d md.length q))) (I := [1, 3, 5, 7]) (by kernel_rfl) (HS2.out _ HKK.out) (fun hHeld => ?_)
        clear hHeld
        generalize w2.drew = wd at HKK ⊢
        refine wpAnyK_free (i := 0) (v := ?v300) rfl (by kernel_rfl) (by kernel_rfl) (by kernel_rfl) (fun _ _ _ h => h) (by kernel_rfl) ?hy300 (fun _ => (HS2.out _ HKK.out)) ?rest300
        case hy300 => (intro wq; first | (go_simp; done) | (go_simp; with_reducible rfl))
        try simp only [List.getElem_toArray, List.getElem_cons_zero, Act.put, List.setIfInBounds_toArray, List.set_cons_zero, List.set_cons_succ]
        refine wpAnyK_free (i := 2) (v := ?v302) rfl (by kernel_rfl) (by kernel_rfl) (by kernel_rfl) (fun _ _ _ h => h) (by kernel_rfl) ?hy302 (fun _ => (HS2.out _ HKK.out)) ?rest302
        case hy302 => (intro wq; first | (go_simp; done) | (go_simp; with_reducible rfl))
        try simp only [List.getElem_toArray, List.getElem_cons_zero, List.getElem_cons_succ, Act.put, List.setIfInBounds_toArray, List.set_cons_zero, List.set_cons_succ]
        refine wpAnyK_free (i := 4) (v := ?v304) rfl (by kernel_rfl) (by kernel_rfl) (by kernel_rfl) (fun _ _ _ h => h) (by kernel_rfl) ?hy304 (fun _ => (HS2.out _ HKK.out)) ?rest304
        case hy304 => (intro wq; first | (go_simp; done) | (go_simp; with_reducible rfl))
        try simp only [List.getElem_toArray, List.getElem_cons_zero, List.getElem_cons_succ, Act.put, List.setIfInBounds_toArray, List.set_cons_zero, List.set_cons_succ]
        refine wpAnyK_free (i := 6) (v := ?v306) rfl (by kernel_rfl) (by kernel_rfl) (by kernel_rfl) (fun _ _ _ h => h) (by kernel_rfl) ?hy306 (fun _ => (HS2.out _ HKK.out)) ?rest306
        case hy306 => (intro wq; first | (go_simp; done) | (go_simp; with_reducible rfl))
        try simp only [List.getElem_toArray, List.getElem_cons_zero, List.getElem_cons_succ, Act.put, List.setIfInBounds_toArray, List.set_cons_zero, List.set_cons_succ]
        refine wpAnyK_load (i := 1) (v := ?v401) rfl (by kernel_rfl) (by kernel_rfl) (by kernel_rfl) (fun _ _ _ h => h) (by kernel_rfl) (by kernel_rfl) ?hy401 (HS2.out _ HKK.out) ?rest401
        case hy401 => (intro wq hSw; (try dsimp only at hSw); first | (go_simp; done) | (go_simp; with_reducible rfl))
        try simp only [List.getElem_toArray, List.getElem_cons_zero, List.getElem_cons_succ, Act.put, List.setIfInBounds_toArray, List.set_cons_zero, List.set_cons_succ]
        refine wpAnyK_load (i := 3) (v := ?v503) rfl (by kernel_rfl) (by kernel_rfl) (by kernel_rfl) (fun _ _ _ h => h) (by kernel_rfl) (by kernel_rfl) ?hy503 (HS2.out _ HKK.out) ?rest503
        case hy503 => (intro wq hSw; (try dsimp only at hSw); first | (go_simp; done) | (go_simp; with_reducible rfl))
        try simp only [List.getElem_toArray, List.getElem_cons_zero, List.getElem_cons_succ, Act.put, List.setIfInBounds_toArray, List.set_cons_zero, List.set_cons_succ]
        refine wpAnyK_load (i := 5) (v := ?v605) rfl (by kernel_rfl) (by kernel_rfl) (by kernel_rfl) (fun _ _ _ h => h) (by kernel_rfl) (by kernel_rfl) ?hy605 (HS2.out _ HKK.out) ?rest605
        case hy605 => (intro wq hSw; (try dsimp only at hSw); first | (go_simp; done) | (go_simp; with_reducible rfl))
        try simp only [List.getElem_toArray, List.getElem_cons_zero, List.getElem_cons_succ, Act.put, List.setIfInBounds_toArray, List.set_cons_zero, List.set_cons_succ]
        refine wpAnyK_load (i := 7) (v := ?v707) rfl (by kernel_rfl) (by kernel_rfl) (by kernel_rfl) (fun _ _ _ h => h) (by kernel_rfl) (by kernel_rfl) ?hy707 (HS2.out _ HKK.out) ?rest707
        case hy707 => (intro wq hSw; (try dsimp only at hSw); first | (go_simp; done) | (go_simp; with_reducible rfl))
        try simp only [List.getElem_toArray, List.getElem_cons_zero, List.getElem_cons_succ, Act.put, List.setIfInBounds_toArray, List.set_cons_zero, List.set_cons_succ]
        refine wpAnyK_one (i := 8) (by kernel_rfl) rfl ?_
        intro K hK
        go_simp
        have hxa := Ext.alloc wd (.cells #[.slice d md.length q] 74)
        have hbn := heap_alloc_new wd (.cells #[.slice d md.length q] 74)
        generalize wd.alloc (.cells #[.slice d md.length q] 74) = we at hxa hbn ⊢
        replace HKK := Lib.hid (HKK.out.trans hxa)
        obtain ⟨V, hV⟩ : ∃ x, x = wd.heap.size := ⟨_, rfl⟩
        rw [← hV] at hbn ⊢
        have HV := Lib.hid hbn; clear hbn hV hxa
        refine hK.out _ _ (HS2.out _ HKK.out) ?_
        clear hK K
        try simp only [List.getElem_toArray, List.getElem_cons_zero, List.getElem_cons_succ, Act.put, List.setIfInBounds_toArray, List.set_cons_zero, List.set_cons_succ]
        refine wpAnyK_one (i := 9) (by kernel_rfl) rfl ?_
        intro K hK
        go_simp
        go_at_call 42
        refine (crc_of V 0 q d md we (blk_cell HV.out 0 _ rfl) (HBY.out.ext HKK.out) (by omega)).mono ?_
        rintro e w4 ⟨rfl, rfl⟩
        go_wp2_with fail
        refine hK.out _ _ (HS2.out _ HKK.out) ?_
        clear hK K
        try simp only [List.getElem_toArray, List.getElem_cons_zero, List.getElem_cons_succ, Act.put, List.setIfInBounds_toArray, List.set_cons_zero, List.set_cons_succ]
        refine wpAnyK_free (i := 10) (v := ?v810) rfl (by kernel_rfl) (by kernel_rfl) (by kernel_rfl) (fun _ _ _ h => h) (by kernel_rfl) ?hy810 (fun _ => (HS2.out _ HKK.out)) ?rest810
        case hy810 => (intro wq; first | (go_simp; done) | (go_simp; with_reducible rfl))
        try simp only [List.getElem_toArray, List.getElem_cons_zero, List.getElem_cons_succ, Act.put, List.setIfInBounds_toArray, List.set_cons_zero, List.set_cons_succ]
        refine wpAnyK_one (i := 11) (by kernel_rfl) rfl ?_
        intro K hK
        go_simp
        have hxa := Ext.alloc we (.cells #[.string (bs mp), .bool mc, .int .u32 ((crcL md).toNat : Int)] 71)
        have hbn := heap_alloc_new we (.cells #[.string (bs mp), .bool mc, .int .u32 ((crcL md).toNat : Int)] 71)
        generalize we.alloc (.cells #[.string (bs mp), .bool mc, .int .u32 ((crcL md).toNat : Int)] 71) = wf at hxa hbn ⊢
        replace HKK := Lib.hid (HKK.out.trans hxa)
        obtain ⟨G, hV⟩ : ∃ x, x = we.heap.size := ⟨_, rfl⟩
        rw [← hV] at hbn ⊢
        have HG := Lib.hid hbn; clear hbn hV hxa
        refine hK.out _ _ (HS2.out _ HKK.out) ?_
        clear hK K
        try simp only [List.getElem_toArray, List.getElem_cons_zero, List.getElem_cons_succ, Act.put, List.setIfInBounds_toArray, List.set_cons_zero, List.set_cons_succ]
        have hsf := HKK.out.size
        have hsx := HX2.out.size
        refine wpAnyK_one (i := 12) (by kernel_rfl) rfl ?_
        intro K hK
        refine step_append_big (by rfl) _ _ 35 71 (.agg #[.string ⟨#[]⟩, .bool false, .int .u32 0]) 3 24 (by rfl) Tryz.underlying35 info_filee rfl (by decide) wc.heap.size a k c _ (by simp [Act.eval]) (ownsRow_ext HO2.out HKK.out) G 1 1 [.string (bs mp), .bool mc, .int .u32 ((crcL md).toNat : Int)] _ _ (by simp [Act.eval]) (by rfl) HG.out (by simp [Value.oneCell']) (by omega) (by omega) (by decide) (by omega) (k + 1) rfl ?_
        intro g1 c1 w7 hown hk7 hb7 hat7
        have hB7 := (Keep.of_below hb7).heap (g := B) (by omega) (HKK.out.heap HB2.out)
        have hF7 := hk7.heap (g := F) (by intro e; have h := (World.ownsRow.lt hO.out F e.symm).2; have h0 := HFS.out; omega) (HKK.out.heap HF2.out)
        refine hK.out _ _ ⟨blk_cell hB7 4 _ rfl, blk_cell hF7 0 _ rfl, blk_cell hF7 1 _ rfl, blk_cell hF7 2 _ rfl⟩ ?_
        clear hK K
        try simp only [List.getElem_toArray, List.getElem_cons_zero, List.getElem_cons_succ, Act.put, List.setIfInBounds_toArray, List.set_cons_zero, List.set_cons_succ]
        have HS7 : Hid (w7.cell? ⟨B, 4, none⟩ = some (.slice a k c) ∧ w7.cell? ⟨F, 0, none⟩ = some (.string (bs mp)) ∧ w7.cell? ⟨F, 1, none⟩ = some (.bool mc) ∧ w7.cell? ⟨F, 2, none⟩ = some (.slice d md.length q)) := Lib.hid ⟨blk_cell hB7 4 _ rfl, blk_cell hF7 0 _ rfl, blk_cell hF7 1 _ rfl, blk_cell hF7 2 _ rfl⟩
        have d4 := blk_cell hB7 4 (Value.slice a k c) rfl
        have f4 := blk_free hB7 4
        have HB7 := Lib.hid hB7; clear hB7 hF7
        have HOW := Lib.hid hown; clear hown
        have HK7 := Lib.hid hk7; clear hk7
        have HBL := Lib.hid hb7; clear hb7 hat7
        refine wpAnyK_free (i := 13) (v := ?v913) rfl (by kernel_rfl) (by kernel_rfl) (by kernel_rfl) (fun _ _ _ h => h) (by kernel_rfl) ?hy913 (fun _ => HS7.out) ?rest913
        case hy913 => (intro wq; first | (go_simp; done) | (go_simp; with_reducible rfl))
        try simp only [List.getElem_toArray, List.getElem_cons_zero, List.getElem_cons_succ, Act.put, List.setIfInBounds_toArray, List.set_cons_zero, List.set_cons_succ]
        refine wpAnyK_last (i := 14) (by kernel_rfl) rfl (by kernel_rfl) ?_
        intro K hK
        go_simp
        refine hK.out _ _ ?_
        clear hK K
        try simp only [List.getElem_toArray, List.getElem_cons_zero, List.getElem_cons_succ, Act.put, List.setIfInBounds_toArray, List.set_cons_zero, List.set_cons_succ]
        refine wpAnyK_done (by kernel_rfl) ?_ _
        refine NoPanic.normal ?_
        clear d4 f4
        go_wp2_with fail
        have kx : Keep (fun j => j < wc.heap.size ∧ j ≠ B) wc (w7.setCell ⟨B, 4, none⟩ (.slice (some ⟨g1, 0, none⟩) (k + 1) c1)) := ((hK.out.trans (Keep.of_ext (HX2.out.trans HKK.out))).trans ((Keep.of_below HBL.out).mono (fun _ _ h => h.1))).setCell (fun j hj => hj.2) 4 _
        have kb : Keep (· ≠ B) w7 (w7.setCell ⟨B, 4, none⟩ (.slice (some ⟨g1, 0, none⟩) (k + 1) c1)) := (Keep.refl _ _).setCell (fun _ h => h) 4 _
        refine ⟨⟨k + 1, some ⟨g1, 0, none⟩, c1, by go_num, by omega, Lib.hid ?_, Lib.hid ?_, Lib.hid kx⟩, by simp [intOf]; omega⟩
        · have := setCell_row HB7.out (i := 4) (.slice (some ⟨g1, 0, none⟩) (k + 1) c1)
          simpa using this
        · have e : (((p.files.map ofF).take (k + 1)).flatMap fileV3) = ((p.files.map ofF).take k).flatMap fileV3 ++ [.string (bs mp), .bool mc, .int .u32 ((crcL md).toNat : Int)] := by
            rw [fileV_take hlt, ← HMM.out]
            simp [fileV3, ofF, le32_sumB]
          rw [e]
          exact ownsRow_keep HOW.out kb (fun g _ _ hb _ => by show g ≠ B; omega)
      · obtain rfl : k = p.files.length := by omega
        have hbr := hB.out
        have hrr := HXR.out.heap HR1.out
        have hRS : RS < w1.heap.size := (Array.getElem?_eq_some_iff.1 HR1.out).1
        have c0 := blk_cell hbr 0 (Value.string (bs p.name)) rfl
        have c1 := blk_cell hbr 1 (Value.string (bs p.ver)) rfl
        have c2 := blk_cell hbr 2 (Value.slice y2 p.needs.length z2) rfl
        have c3 := blk_cell hbr 3 (Value.slice y3 p.conf.length z3) rfl
        have c4 := blk_cell hbr 4 (Value.slice a p.files.length c) rfl
        have c5 := blk_cell hbr 5 (Value.slice y5 p.units.length z5) rfl
        have r0 := blk_cell hrr 0 (Value.string ⟨#[]⟩) rfl
        have g0 := blk_free hrr 0
        have r1 := blk_cell hrr 1 (Value.string ⟨#[]⟩) rfl
        have g1 := blk_free hrr 1
        have r2 := blk_cell hrr 2 (Value.slice none 0 0) rfl
        have g2 := blk_free hrr 2
        have r3 := blk_cell hrr 3 (Value.slice none 0 0) rfl
        have g3 := blk_free hrr 3
        have r4 := blk_cell hrr 4 (Value.slice none 0 0) rfl
        have g4 := blk_free hrr 4
        have r5 := blk_cell hrr 5 (Value.slice none 0 0) rfl
        have g5 := blk_free hrr 5
        obtain ⟨hs6, hbut⟩ := set6e hrr (.string (bs p.name)) (.string (bs p.ver)) (.slice y2 p.needs.length z2) (.slice y3 p.conf.length z3) (.slice a p.files.length c) (.slice y5 p.units.length z5)
        have HS6 := Lib.hid hs6; clear hs6
        have HBT := Lib.hid hbut; clear hbut hrr hbr
        go_wp2_with fail
        have q0 := blk_cell HS6.out 0 (Value.string (bs p.name)) rfl
        have q1 := blk_cell HS6.out 1 (Value.string (bs p.ver)) rfl
        have q2 := blk_cell HS6.out 2 (Value.slice y2 p.needs.length z2) rfl
        have q3 := blk_cell HS6.out 3 (Value.slice y3 p.conf.length z3) rfl
        have q4 := blk_cell HS6.out 4 (Value.slice a p.files.length c) rfl
        have q5 := blk_cell HS6.out 5 (Value.slice y5 p.units.length z5) rfl
        refine bodyPost_ret (v := .agg #[.string (bs p.name), .string (bs p.ver), .slice y2 p.needs.length z2, .slice y3 p.conf.length z3, .slice a p.files.length c, .slice y5 p.units.length z5]) (by simp [results, Tryz.results11, go_sem, q0, q1, q2, q3, q4, q5]) rfl ?_
        rw [HR.out]
        have hz := HZ.out
        have hO2 := hO.out
        rw [List.take_of_length_le (by simp)] at hO2
        obtain ⟨a', c', hv, hnc, hrun, hfr⟩ := run_of_row hO2
        cases hv
        obtain ⟨hz2, hz3, hz5, hr2, hr3, hr5⟩ := hrn.out
        obtain ⟨⟨ha2, ha3, ha5⟩, hf2, hf3, hf5⟩ := haf.out
        have kbt := Keep.of_but HBT.out
        have m2 := (hr2.keepB hK.out ha2 (fun g h1 h2 => ⟨h1, h2⟩)).keepB (B := RS) kbt (away_new hf2 hRS) (fun g _ h => h)
        have m3 := (hr3.keepB hK.out ha3 (fun g h1 h2 => ⟨h1, h2⟩)).keepB (B := RS) kbt (away_new hf3 hRS) (fun g _ h => h)
        have m5 := (hr5.keepB hK.out ha5 (fun g h1 h2 => ⟨h1, h2⟩)).keepB (B := RS) kbt (away_new hf5 hRS) (fun g _ h => h)
        have mf := hrun.keepB (B := RS) kbt (away_new hfr (by omega)) (fun g _ h => h)
        refine ⟨⟨y2, y3, a, y5, z2, z3, c, z5⟩, by simp [pkgV, ofP], ⟨needs_run.2 m2, strs_run.2 m3, filesE_run.2 mf, strs_run.2 m5⟩, ⟨hz2, hz3, by simpa [ofP] using hnc, hz5⟩, ⟨fun ad h => Nat.le_trans HX1.out.size (hf2 ad h), fun ad h => Nat.le_trans HX1.out.size (hf3 ad h), fun ad h => Nat.le_trans (Nat.le_trans HX1.out.size (by omega)) (hfr ad h), fun ad h => Nat.le_trans HX1.out.size (hf5 ad h)⟩, ?_⟩
        exact ((Keep.of_ext (S := fun j => j < w.heap.size) (HX1.out.trans HXR.out)).andThen kbt (fun j hj _ => by show j ≠ RS; omega)).ext_lt
theorem base_of (p : PkgD) (an ac af au : Option Addr) (cn cc cf cu : Nat) (w : World) (hM : PkgM w p ⟨an, ac, af, au, cn, cc, cf, cu⟩) (hl1 : p.needs.length ≤ 8) (hl2 : p.conf.length ≤ 8) (hl3 : p.files.length ≤ 12) (hl4 : p.units.length ≤ 4) (hld : ∀ f ∈ p.files, f.data.length ≤ 100000) :
    Calls Tryz.prog 11 #[.agg #[.string (bs p.name), .string (bs p.ver), .slice an p.needs.length cn, .slice ac p.conf.length cc, .slice af p.files.length cf, .slice au p.units.length cu]] w (OfR p w) := by
  refine (base_of0 p an ac af au cn cc cf cu w hM hl1 hl2 hl3 hl4 hld).mono ?_
  rintro e w' ⟨A, h1, h2, h3, _, h5⟩
  exact ⟨A, h1, h2, h3, h5⟩
end Go.Proofs.YtnclibfhbngkjaaGreatDoor
