/- farrierlaw12.alive: the document's example. -/
import Derived.Test.YtnclibfhbngkjaaGreatDoorDepEx
import Derived.Deep.CutRange
namespace Go.Proofs.YtnclibfhbngkjaaGreatDoor
open Go.RowKit
attribute [local go_sem ↓] Go.wp_at_zero Go.wp_at_succ
theorem pkgs_one {W : World} {V N0 : Nat} (hn : W.heap[N0]? = some (.cells #[.string ⟨#[98]⟩, .int .i64 1, .string ⟨#[50]⟩] 68 (0, 0))) (hv : W.heap[V]? = some (.cells #[.string ⟨#[97]⟩, .string ⟨#[49]⟩, .slice (some ⟨N0, 0, none⟩) 1 1, .slice none 0 0, .slice none 0 0, .slice none 0 0] 31 (0, 0))) :
    PkgsL W (some ⟨V, 0, none⟩) [(xA, ⟨some ⟨N0, 0, none⟩, none, none, none, 1, 0, 0, 0⟩)] := by
  refine Or.inr ⟨V, 0, rfl, (Array.getElem?_eq_some_iff.1 hv).1, fun i hi => ?_⟩
  have : i = 0 := by simpa using hi
  subst this
  refine ⟨⟨blk_cell hv 0 _ rfl, blk_cell hv 1 _ rfl, blk_cell hv 2 _ rfl, blk_cell hv 3 _ rfl, blk_cell hv 4 _ rfl, blk_cell hv 5 _ rfl⟩, ⟨?_, Or.inl rfl, Or.inl rfl, Or.inl rfl⟩, ⟨Nat.le_refl _, Nat.le_refl _, Nat.le_refl _, Nat.le_refl _⟩⟩
  refine Or.inr ⟨N0, 0, rfl, (Array.getElem?_eq_some_iff.1 hn).1, fun j hj => ?_⟩
  have : j = 0 := by simpa [xA] using hj
  subst this
  exact ⟨blk_cell hn 0 _ rfl, blk_cell hn 1 _ rfl, blk_cell hn 2 _ rfl⟩
theorem pkgs_two {W : World} {V N0 : Nat} (hn : W.heap[N0]? = some (.cells #[.string ⟨#[98]⟩, .int .i64 1, .string ⟨#[50]⟩] 68 (0, 0))) (hv : W.heap[V]? = some (.cells #[.string ⟨#[97]⟩, .string ⟨#[49]⟩, .slice (some ⟨N0, 0, none⟩) 1 1, .slice none 0 0, .slice none 0 0, .slice none 0 0, .string ⟨#[98]⟩, .string ⟨#[50]⟩, .slice none 0 0, .slice none 0 0, .slice none 0 0, .slice none 0 0] 31 (0, 0))) :
    PkgsL W (some ⟨V, 0, none⟩) [(xA, ⟨some ⟨N0, 0, none⟩, none, none, none, 1, 0, 0, 0⟩), (xB, ⟨none, none, none, none, 0, 0, 0, 0⟩)] := by
  refine Or.inr ⟨V, 0, rfl, (Array.getElem?_eq_some_iff.1 hv).1, fun i hi => ?_⟩
  have h2 : i = 0 ∨ i = 1 := by have : i < 2 := hi; omega
  rcases h2 with rfl | rfl
  · refine ⟨⟨blk_cell hv 0 _ rfl, blk_cell hv 1 _ rfl, blk_cell hv 2 _ rfl, blk_cell hv 3 _ rfl, blk_cell hv 4 _ rfl, blk_cell hv 5 _ rfl⟩, ⟨?_, Or.inl rfl, Or.inl rfl, Or.inl rfl⟩, ⟨Nat.le_refl _, Nat.le_refl _, Nat.le_refl _, Nat.le_refl _⟩⟩
    refine Or.inr ⟨N0, 0, rfl, (Array.getElem?_eq_some_iff.1 hn).1, fun j hj => ?_⟩
    have : j = 0 := by have : j < 1 := hj; omega
    subst this
    exact ⟨blk_cell hn 0 _ rfl, blk_cell hn 1 _ rfl, blk_cell hn 2 _ rfl⟩
  · exact ⟨⟨blk_cell hv 6 _ rfl, blk_cell hv 7 _ rfl, blk_cell hv 8 _ rfl, blk_cell hv 9 _ rfl, blk_cell hv 10 _ rfl, blk_cell hv 11 _ rfl⟩, ⟨Or.inl rfl, Or.inl rfl, Or.inl rfl, Or.inl rfl⟩, ⟨Nat.le_refl _, Nat.le_refl _, Nat.le_refl _, Nat.le_refl _⟩⟩
set_option maxRecDepth 100000 in
set_option maxHeartbeats 25600000 in
theorem alive12 (w : World) (hE : EnvN w) : Calls Tryz.prog 22 #[] w fun e w' => e = .returned (.bool true) ∧ Ext w w' := by
  obtain ⟨R, hR⟩ : ∃ R : Ending → World → Prop, R = fun e w' => e = .returned (.bool true) ∧ Ext w w' := ⟨_, rfl⟩
  rw [← hR]
  have HR := Lib.hid hR; clear hR
  obtain ⟨N0, hN0⟩ : ∃ x, x = w.heap.size := ⟨_, rfl⟩
  obtain ⟨P0, hP0⟩ : ∃ x, x = w.heap.size + 1 := ⟨_, rfl⟩
  have hx1 : Ext w ((w.alloc (.cells #[.string ⟨#[98]⟩, .int .i64 1, .string ⟨#[50]⟩] 68)).alloc (.cells #[.string ⟨#[97]⟩, .string ⟨#[49]⟩, .slice (some ⟨N0, 0, none⟩) 1 1, .slice none 0 0, .slice none 0 0, .slice none 0 0] 31)) := (Ext.alloc _ _).trans (Ext.alloc _ _)
  have hn1 := (Ext.alloc _ (.cells #[.string ⟨#[97]⟩, .string ⟨#[49]⟩, .slice (some ⟨N0, 0, none⟩) 1 1, .slice none 0 0, .slice none 0 0, .slice none 0 0] 31)).heap (heap_alloc_new w (.cells #[.string ⟨#[98]⟩, .int .i64 1, .string ⟨#[50]⟩] 68))
  have hp1 := heap_alloc_new (w.alloc (.cells #[.string ⟨#[98]⟩, .int .i64 1, .string ⟨#[50]⟩] 68)) (.cells #[.string ⟨#[97]⟩, .string ⟨#[49]⟩, .slice (some ⟨N0, 0, none⟩) 1 1, .slice none 0 0, .slice none 0 0, .slice none 0 0] 31)
  rw [World.size_alloc] at hp1
  rw [← hP0] at hp1
  rw [← hN0] at hn1
  go_enter Tryz.func22, Tryz.ntmps22
  go_upto_region 2 with (fail)
  rw [← hP0, ← hN0]
  generalize (w.alloc (.cells #[.string ⟨#[98]⟩, .int .i64 1, .string ⟨#[50]⟩] 68)).alloc (.cells #[.string ⟨#[97]⟩, .string ⟨#[49]⟩, .slice (some ⟨N0, 0, none⟩) 1 1, .slice none 0 0, .slice none 0 0, .slice none 0 0] 31) = w1 at hx1 hn1 hp1 ⊢
  clear hP0 hN0
  have HE := Lib.hid (hE.ext hx1); clear hE
  have HX1 := Lib.hid hx1; clear hx1
  have HN1 := Lib.hid hn1; clear hn1
  have HP1 := Lib.hid hp1; clear hp1
  have hcs : ∀ W, Ext w1 W → W.cell? ⟨P0, 0, none⟩ = some (.string ⟨#[97]⟩) ∧ W.cell? ⟨P0, 1, none⟩ = some (.string ⟨#[49]⟩) ∧ W.cell? ⟨P0, 2, none⟩ = some (.slice (some ⟨N0, 0, none⟩) 1 1) ∧ W.cell? ⟨P0, 3, none⟩ = some (.slice none 0 0) ∧ W.cell? ⟨P0, 4, none⟩ = some (.slice none 0 0) ∧ W.cell? ⟨P0, 5, none⟩ = some (.slice none 0 0) := fun W k => ⟨blk_cell (k.heap HP1.out) 0 _ rfl, blk_cell (k.heap HP1.out) 1 _ rfl, blk_cell (k.heap HP1.out) 2 _ rfl, blk_cell (k.heap HP1.out) 3 _ rfl, blk_cell (k.heap HP1.out) 4 _ rfl, blk_cell (k.heap HP1.out) 5 _ rfl⟩
  have HCS := Lib.hid hcs; clear hcs
  have hpk := fun W V (k : Ext w1 W) hv => pkgs_one (W := W) (V := V) (k.heap HN1.out) hv
  have HPK := Lib.hid hpk; clear hpk
  have HK := Lib.hid ((Ext.refl w1).drew)
  go_cut [2, 3] from 11 to 18 (fun a b wx => ∃ B8 B9, a = .pointer (some ⟨B8, 0, none⟩) ∧ b = .pointer (some ⟨B9, 0, none⟩) ∧ Hid (wx.heap[B8]? = some (.cells #[.map none] 42 (0, 0))) ∧ Hid (wx.heap[B9]? = some (.cells #[.int .i64 16, .string ⟨#[97]⟩, .string ⟨#[98]⟩] 63 (0, 0))) ∧ Hid (Ext w1 wx))
  case first =>
    refine wp_region_noPanic ?_
    refine wp_region_held_drew (S := (fun W => W.cell? ⟨P0, 0, none⟩ = some (.string ⟨#[97]⟩) ∧ W.cell? ⟨P0, 1, none⟩ = some (.string ⟨#[49]⟩) ∧ W.cell? ⟨P0, 2, none⟩ = some (.slice (some ⟨N0, 0, none⟩) 1 1) ∧ W.cell? ⟨P0, 3, none⟩ = some (.slice none 0 0) ∧ W.cell? ⟨P0, 4, none⟩ = some (.slice none 0 0) ∧ W.cell? ⟨P0, 5, none⟩ = some (.slice none 0 0))) (by kernel_rfl) (HCS.out _ HK.out) (fun hHeld => ?_)
    clear hHeld
    generalize w1.drew = wc at HK ⊢
    refine wpAnyH_take (i := 1) (v := ?_) rfl (by kernel_rfl) (by kernel_rfl) (by kernel_rfl) (fun _ _ _ h => h) (Or.inl ⟨by kernel_rfl, ?_⟩) (HCS.out _ HK.out) ?_
    rotate_left
    · (intro wq hSw; (try dsimp only at hSw); first | (go_simp; done) | (go_simp; with_reducible rfl))
    try simp only [List.getElem_toArray, List.getElem_cons_zero, List.getElem_cons_succ, Act.put, List.setIfInBounds_toArray, List.set_cons_zero, List.set_cons_succ]
    all_goals (
      first
        | refine wpAnyH_ready (rs := [0, 2, 8, 9]) (by decide +kernel) (by simp) ?_
      repeat' (first | exact AllReadyH.nil | (refine AllReadyH.cons rfl (fun K hK => ?_) ?_)))
    all_goals (
      go_simp
      first
        | (go_at_call 13
           refine (ex_new _).mono ?_
           rintro E wn ⟨⟨b0, A0, rfl, hm⟩, hx⟩
           try replace HN := Lib.hid (HN.out.ext hx)
           try replace HC := Lib.hid (HC.out.ext hx)
           try replace HV := Lib.hid (hx.heap HV.out)
           try replace H8 := Lib.hid (hx.heap H8.out)
           try replace H9 := Lib.hid (hx.heap H9.out)
           replace HK := Lib.hid (HK.out.trans hx)
           have HN := Lib.hid hm
           clear hm hx
           go_wp2_with fail
           refine hK.out _ _ (HCS.out _ HK.out) (fun _ => ?_)
           clear hK K
           obtain ⟨wc, rfl⟩ : ∃ x : World, x = wn := ⟨_, rfl⟩
           try simp only [List.getElem_toArray, List.getElem_cons_zero, List.getElem_cons_succ, Act.put, List.setIfInBounds_toArray, List.set_cons_zero, List.set_cons_succ])
        | (have hx := Ext.alloc wc (.cells #[.string ⟨#[97]⟩, .string ⟨#[49]⟩, .slice (some ⟨N0, 0, none⟩) 1 1, .slice none 0 0, .slice none 0 0, .slice none 0 0] 31)
           have hbn := heap_alloc_new wc (.cells #[.string ⟨#[97]⟩, .string ⟨#[49]⟩, .slice (some ⟨N0, 0, none⟩) 1 1, .slice none 0 0, .slice none 0 0, .slice none 0 0] 31)
           have hle := HK.out.size
           refine hK.out _ (wc.alloc (.cells #[.string ⟨#[97]⟩, .string ⟨#[49]⟩, .slice (some ⟨N0, 0, none⟩) 1 1, .slice none 0 0, .slice none 0 0, .slice none 0 0] 31)) (HCS.out _ (HK.out.trans hx)) (fun _ => ?_)
           clear hK K
           try replace HN := Lib.hid (HN.out.ext hx)
           try replace HC := Lib.hid (HC.out.ext hx)
           try replace HV := Lib.hid (hx.heap HV.out)
           try replace H8 := Lib.hid (hx.heap H8.out)
           try replace H9 := Lib.hid (hx.heap H9.out)
           replace HK := Lib.hid (HK.out.trans hx)
           obtain ⟨V, hB⟩ : ∃ x, x = wc.heap.size := ⟨_, rfl⟩
           rw [← hB] at hbn hle ⊢
           have HV := Lib.hid hbn
           have LHV := Lib.hid hle
           clear hbn hB hle hx
           generalize wc.alloc (.cells #[.string ⟨#[97]⟩, .string ⟨#[49]⟩, .slice (some ⟨N0, 0, none⟩) 1 1, .slice none 0 0, .slice none 0 0, .slice none 0 0] 31) = wc at *
           try simp only [List.getElem_toArray, List.getElem_cons_zero, List.getElem_cons_succ, Act.put, List.setIfInBounds_toArray, List.set_cons_zero, List.set_cons_succ]
           refine wpAnyH_take (i := 3) (v := ?_) rfl (by kernel_rfl) (by kernel_rfl) (by kernel_rfl) (fun _ _ _ h => h) (Or.inl ⟨by kernel_rfl, ?_⟩) (HCS.out _ HK.out) ?_
           rotate_left
           · (intro wq _; first | (go_simp; done) | (go_simp; with_reducible rfl))
           try simp only [List.getElem_toArray, List.getElem_cons_zero, List.getElem_cons_succ, Act.put, List.setIfInBounds_toArray, List.set_cons_zero, List.set_cons_succ])
        | (have hx := Ext.alloc wc (.cells #[.map none] 42)
           have hbn := heap_alloc_new wc (.cells #[.map none] 42)
           have hle := HK.out.size
           refine hK.out _ (wc.alloc (.cells #[.map none] 42)) (HCS.out _ (HK.out.trans hx)) (fun _ => ?_)
           clear hK K
           try replace HN := Lib.hid (HN.out.ext hx)
           try replace HC := Lib.hid (HC.out.ext hx)
           try replace HV := Lib.hid (hx.heap HV.out)
           try replace H8 := Lib.hid (hx.heap H8.out)
           try replace H9 := Lib.hid (hx.heap H9.out)
           replace HK := Lib.hid (HK.out.trans hx)
           obtain ⟨B8, hB⟩ : ∃ x, x = wc.heap.size := ⟨_, rfl⟩
           rw [← hB] at hbn hle ⊢
           have H8 := Lib.hid hbn
           have LH8 := Lib.hid hle
           clear hbn hB hle hx
           generalize wc.alloc (.cells #[.map none] 42) = wc at *
           try simp only [List.getElem_toArray, List.getElem_cons_zero, List.getElem_cons_succ, Act.put, List.setIfInBounds_toArray, List.set_cons_zero, List.set_cons_succ])
        | (have hx := Ext.alloc wc (.cells #[.int .i64 0, .string ⟨#[]⟩, .string ⟨#[]⟩] 63)
           have hbn := heap_alloc_new wc (.cells #[.int .i64 0, .string ⟨#[]⟩, .string ⟨#[]⟩] 63)
           have hle := HK.out.size
           refine hK.out _ (wc.alloc (.cells #[.int .i64 0, .string ⟨#[]⟩, .string ⟨#[]⟩] 63)) (HCS.out _ (HK.out.trans hx)) (fun _ => ?_)
           clear hK K
           try replace HN := Lib.hid (HN.out.ext hx)
           try replace HC := Lib.hid (HC.out.ext hx)
           try replace HV := Lib.hid (hx.heap HV.out)
           try replace H8 := Lib.hid (hx.heap H8.out)
           try replace H9 := Lib.hid (hx.heap H9.out)
           replace HK := Lib.hid (HK.out.trans hx)
           obtain ⟨B9, hB⟩ : ∃ x, x = wc.heap.size := ⟨_, rfl⟩
           rw [← hB] at hbn hle ⊢
           have H9 := Lib.hid hbn
           have LH9 := Lib.hid hle
           clear hbn hB hle hx
           generalize wc.alloc (.cells #[.int .i64 0, .string ⟨#[]⟩, .string ⟨#[]⟩] 63) = wc at *
           try simp only [List.getElem_toArray, List.getElem_cons_zero, List.getElem_cons_succ, Act.put, List.setIfInBounds_toArray, List.set_cons_zero, List.set_cons_succ]))
    all_goals (
      first
        | refine wpAnyH_ready (rs := [2, 8, 9]) (by decide +kernel) (by simp) ?_
        | refine wpAnyH_ready (rs := [0, 8, 9]) (by decide +kernel) (by simp) ?_
        | refine wpAnyH_ready (rs := [0, 2, 9]) (by decide +kernel) (by simp) ?_
        | refine wpAnyH_ready (rs := [0, 2, 8]) (by decide +kernel) (by simp) ?_
      repeat' (first | exact AllReadyH.nil | (refine AllReadyH.cons rfl (fun K hK => ?_) ?_)))
    all_goals (
      go_simp
      first
        | (go_at_call 13
           refine (ex_new _).mono ?_
           rintro E wn ⟨⟨b0, A0, rfl, hm⟩, hx⟩
           try replace HN := Lib.hid (HN.out.ext hx)
           try replace HC := Lib.hid (HC.out.ext hx)
           try replace HV := Lib.hid (hx.heap HV.out)
           try replace H8 := Lib.hid (hx.heap H8.out)
           try replace H9 := Lib.hid (hx.heap H9.out)
           replace HK := Lib.hid (HK.out.trans hx)
           have HN := Lib.hid hm
           clear hm hx
           go_wp2_with fail
           refine hK.out _ _ (HCS.out _ HK.out) (fun _ => ?_)
           clear hK K
           obtain ⟨wc, rfl⟩ : ∃ x : World, x = wn := ⟨_, rfl⟩
           try simp only [List.getElem_toArray, List.getElem_cons_zero, List.getElem_cons_succ, Act.put, List.setIfInBounds_toArray, List.set_cons_zero, List.set_cons_succ])
        | (have hx := Ext.alloc wc (.cells #[.string ⟨#[97]⟩, .string ⟨#[49]⟩, .slice (some ⟨N0, 0, none⟩) 1 1, .slice none 0 0, .slice none 0 0, .slice none 0 0] 31)
           have hbn := heap_alloc_new wc (.cells #[.string ⟨#[97]⟩, .string ⟨#[49]⟩, .slice (some ⟨N0, 0, none⟩) 1 1, .slice none 0 0, .slice none 0 0, .slice none 0 0] 31)
           have hle := HK.out.size
           refine hK.out _ (wc.alloc (.cells #[.string ⟨#[97]⟩, .string ⟨#[49]⟩, .slice (some ⟨N0, 0, none⟩) 1 1, .slice none 0 0, .slice none 0 0, .slice none 0 0] 31)) (HCS.out _ (HK.out.trans hx)) (fun _ => ?_)
           clear hK K
           try replace HN := Lib.hid (HN.out.ext hx)
           try replace HC := Lib.hid (HC.out.ext hx)
           try replace HV := Lib.hid (hx.heap HV.out)
           try replace H8 := Lib.hid (hx.heap H8.out)
           try replace H9 := Lib.hid (hx.heap H9.out)
           replace HK := Lib.hid (HK.out.trans hx)
           obtain ⟨V, hB⟩ : ∃ x, x = wc.heap.size := ⟨_, rfl⟩
           rw [← hB] at hbn hle ⊢
           have HV := Lib.hid hbn
           have LHV := Lib.hid hle
           clear hbn hB hle hx
           generalize wc.alloc (.cells #[.string ⟨#[97]⟩, .string ⟨#[49]⟩, .slice (some ⟨N0, 0, none⟩) 1 1, .slice none 0 0, .slice none 0 0, .slice none 0 0] 31) = wc at *
           try simp only [List.getElem_toArray, List.getElem_cons_zero, List.getElem_cons_succ, Act.put, List.setIfInBounds_toArray, List.set_cons_zero, List.set_cons_succ]
           refine wpAnyH_take (i := 3) (v := ?_) rfl (by kernel_rfl) (by kernel_rfl) (by kernel_rfl) (fun _ _ _ h => h) (Or.inl ⟨by kernel_rfl, ?_⟩) (HCS.out _ HK.out) ?_
           rotate_left
           · (intro wq _; first | (go_simp; done) | (go_simp; with_reducible rfl))
           try simp only [List.getElem_toArray, List.getElem_cons_zero, List.getElem_cons_succ, Act.put, List.setIfInBounds_toArray, List.set_cons_zero, List.set_cons_succ])
        | (have hx := Ext.alloc wc (.cells #[.map none] 42)
           have hbn := heap_alloc_new wc (.cells #[.map none] 42)
           have hle := HK.out.size
           refine hK.out _ (wc.alloc (.cells #[.map none] 42)) (HCS.out _ (HK.out.trans hx)) (fun _ => ?_)
           clear hK K
           try replace HN := Lib.hid (HN.out.ext hx)
           try replace HC := Lib.hid (HC.out.ext hx)
           try replace HV := Lib.hid (hx.heap HV.out)
           try replace H8 := Lib.hid (hx.heap H8.out)
           try replace H9 := Lib.hid (hx.heap H9.out)
           replace HK := Lib.hid (HK.out.trans hx)
           obtain ⟨B8, hB⟩ : ∃ x, x = wc.heap.size := ⟨_, rfl⟩
           rw [← hB] at hbn hle ⊢
           have H8 := Lib.hid hbn
           have LH8 := Lib.hid hle
           clear hbn hB hle hx
           generalize wc.alloc (.cells #[.map none] 42) = wc at *
           try simp only [List.getElem_toArray, List.getElem_cons_zero, List.getElem_cons_succ, Act.put, List.setIfInBounds_toArray, List.set_cons_zero, List.set_cons_succ])
        | (have hx := Ext.alloc wc (.cells #[.int .i64 0, .string ⟨#[]⟩, .string ⟨#[]⟩] 63)
           have hbn := heap_alloc_new wc (.cells #[.int .i64 0, .string ⟨#[]⟩, .string ⟨#[]⟩] 63)
           have hle := HK.out.size
           refine hK.out _ (wc.alloc (.cells #[.int .i64 0, .string ⟨#[]⟩, .string ⟨#[]⟩] 63)) (HCS.out _ (HK.out.trans hx)) (fun _ => ?_)
           clear hK K
           try replace HN := Lib.hid (HN.out.ext hx)
           try replace HC := Lib.hid (HC.out.ext hx)
           try replace HV := Lib.hid (hx.heap HV.out)
           try replace H8 := Lib.hid (hx.heap H8.out)
           try replace H9 := Lib.hid (hx.heap H9.out)
           replace HK := Lib.hid (HK.out.trans hx)
           obtain ⟨B9, hB⟩ : ∃ x, x = wc.heap.size := ⟨_, rfl⟩
           rw [← hB] at hbn hle ⊢
           have H9 := Lib.hid hbn
           have LH9 := Lib.hid hle
           clear hbn hB hle hx
           generalize wc.alloc (.cells #[.int .i64 0, .string ⟨#[]⟩, .string ⟨#[]⟩] 63) = wc at *
           try simp only [List.getElem_toArray, List.getElem_cons_zero, List.getElem_cons_succ, Act.put, List.setIfInBounds_toArray, List.set_cons_zero, List.set_cons_succ]))
    all_goals (
      first
        | refine wpAnyH_ready (rs := [4, 8, 9]) (by decide +kernel) (by simp) ?_
        | refine wpAnyH_ready (rs := [2, 9]) (by decide +kernel) (by simp) ?_
        | refine wpAnyH_ready (rs := [2, 8]) (by decide +kernel) (by simp) ?_
        | refine wpAnyH_ready (rs := [0, 9]) (by decide +kernel) (by simp) ?_
        | refine wpAnyH_ready (rs := [0, 8]) (by decide +kernel) (by simp) ?_
        | refine wpAnyH_ready (rs := [0, 2]) (by decide +kernel) (by simp) ?_
      repeat' (first | exact AllReadyH.nil | (refine AllReadyH.cons rfl (fun K hK => ?_) ?_)))
    all_goals (
      go_simp
      first
        | (go_at_call 13
           refine (ex_new _).mono ?_
           rintro E wn ⟨⟨b0, A0, rfl, hm⟩, hx⟩
           try replace HN := Lib.hid (HN.out.ext hx)
           try replace HC := Lib.hid (HC.out.ext hx)
           try replace HV := Lib.hid (hx.heap HV.out)
           try replace H8 := Lib.hid (hx.heap H8.out)
           try replace H9 := Lib.hid (hx.heap H9.out)
           replace HK := Lib.hid (HK.out.trans hx)
           have HN := Lib.hid hm
           clear hm hx
           go_wp2_with fail
           refine hK.out _ _ (HCS.out _ HK.out) (fun _ => ?_)
           clear hK K
           obtain ⟨wc, rfl⟩ : ∃ x : World, x = wn := ⟨_, rfl⟩
           try simp only [List.getElem_toArray, List.getElem_cons_zero, List.getElem_cons_succ, Act.put, List.setIfInBounds_toArray, List.set_cons_zero, List.set_cons_succ])
        | (have hx := Ext.alloc wc (.cells #[.string ⟨#[97]⟩, .string ⟨#[49]⟩, .slice (some ⟨N0, 0, none⟩) 1 1, .slice none 0 0, .slice none 0 0, .slice none 0 0] 31)
           have hbn := heap_alloc_new wc (.cells #[.string ⟨#[97]⟩, .string ⟨#[49]⟩, .slice (some ⟨N0, 0, none⟩) 1 1, .slice none 0 0, .slice none 0 0, .slice none 0 0] 31)
           have hle := HK.out.size
           refine hK.out _ (wc.alloc (.cells #[.string ⟨#[97]⟩, .string ⟨#[49]⟩, .slice (some ⟨N0, 0, none⟩) 1 1, .slice none 0 0, .slice none 0 0, .slice none 0 0] 31)) (HCS.out _ (HK.out.trans hx)) (fun _ => ?_)
           clear hK K
           try replace HN := Lib.hid (HN.out.ext hx)
           try replace HC := Lib.hid (HC.out.ext hx)
           try replace HV := Lib.hid (hx.heap HV.out)
           try replace H8 := Lib.hid (hx.heap H8.out)
           try replace H9 := Lib.hid (hx.heap H9.out)
           replace HK := Lib.hid (HK.out.trans hx)
           obtain ⟨V, hB⟩ : ∃ x, x = wc.heap.size := ⟨_, rfl⟩
           rw [← hB] at hbn hle ⊢
           have HV := Lib.hid hbn
           have LHV := Lib.hid hle
           clear hbn hB hle hx
           generalize wc.alloc (.cells #[.string ⟨#[97]⟩, .string ⟨#[49]⟩, .slice (some ⟨N0, 0, none⟩) 1 1, .slice none 0 0, .slice none 0 0, .slice none 0 0] 31) = wc at *
           try simp only [List.getElem_toArray, List.getElem_cons_zero, List.getElem_cons_succ, Act.put, List.setIfInBounds_toArray, List.set_cons_zero, List.set_cons_succ]
           refine wpAnyH_take (i := 3) (v := ?_) rfl (by kernel_rfl) (by kernel_rfl) (by kernel_rfl) (fun _ _ _ h => h) (Or.inl ⟨by kernel_rfl, ?_⟩) (HCS.out _ HK.out) ?_
           rotate_left
           · (intro wq _; first | (go_simp; done) | (go_simp; with_reducible rfl))
           try simp only [List.getElem_toArray, List.getElem_cons_zero, List.getElem_cons_succ, Act.put, List.setIfInBounds_toArray, List.set_cons_zero, List.set_cons_succ])
        | (go_at_call 24
           refine (ex_after1 (.agg #[.map (some b0)]) 0 (some ⟨V, 0, none⟩) ⟨some ⟨N0, 0, none⟩, none, none, none, 1, 0, 0, 0⟩ wc (HE.out.ext HK.out) (Or.inr ⟨b0, A0, rfl, HN.out⟩) (HPK.out _ V HK.out HV.out) (by omega)).mono ?_
           rintro E wn ⟨rfl, hx⟩
           unfold failV
           try replace HN := Lib.hid (HN.out.ext hx)
           try replace HC := Lib.hid (HC.out.ext hx)
           try replace HV := Lib.hid (hx.heap HV.out)
           try replace H8 := Lib.hid (hx.heap H8.out)
           try replace H9 := Lib.hid (hx.heap H9.out)
           replace HK := Lib.hid (HK.out.trans hx)
           clear hx
           go_wp2_with fail
           refine hK.out _ _ (HCS.out _ HK.out) (fun _ => ?_)
           clear hK K
           obtain ⟨wc, rfl⟩ : ∃ x : World, x = wn := ⟨_, rfl⟩
           try simp only [List.getElem_toArray, List.getElem_cons_zero, List.getElem_cons_succ, Act.put, List.setIfInBounds_toArray, List.set_cons_zero, List.set_cons_succ]
           refine wpAnyH_take (i := 5) (v := ?_) rfl (by kernel_rfl) (by kernel_rfl) (by kernel_rfl) (fun _ _ _ h => h) (Or.inl ⟨by kernel_rfl, ?_⟩) (HCS.out _ HK.out) ?_
           rotate_left
           · (intro wq _; first | (go_simp; done) | (go_simp; with_reducible rfl))
           try simp only [List.getElem_toArray, List.getElem_cons_zero, List.getElem_cons_succ, Act.put, List.setIfInBounds_toArray, List.set_cons_zero, List.set_cons_succ]
           refine wpAnyH_take (i := 6) (v := ?_) rfl (by kernel_rfl) (by kernel_rfl) (by kernel_rfl) (fun _ _ _ h => h) (Or.inl ⟨by kernel_rfl, ?_⟩) (HCS.out _ HK.out) ?_
           rotate_left
           · (intro wq _; first | (go_simp; done) | (go_simp; with_reducible rfl))
           try simp only [List.getElem_toArray, List.getElem_cons_zero, List.getElem_cons_succ, Act.put, List.setIfInBounds_toArray, List.set_cons_zero, List.set_cons_succ]
           refine wpAnyH_take (i := 7) (v := ?_) rfl (by kernel_rfl) (by kernel_rfl) (by kernel_rfl) (fun _ _ _ h => h) (Or.inl ⟨by kernel_rfl, ?_⟩) (HCS.out _ HK.out) ?_
           rotate_left
           · (intro wq _; first | (go_simp; done) | (go_simp; with_reducible rfl))
           try simp only [List.getElem_toArray, List.getElem_cons_zero, List.getElem_cons_succ, Act.put, List.setIfInBounds_toArray, List.set_cons_zero, List.set_cons_succ])
        | (have hx := Ext.alloc wc (.cells #[.map none] 42)
           have hbn := heap_alloc_new wc (.cells #[.map none] 42)
           have hle := HK.out.size
           refine hK.out _ (wc.alloc (.cells #[.map none] 42)) (HCS.out _ (HK.out.trans hx)) (fun _ => ?_)
           clear hK K
           try replace HN := Lib.hid (HN.out.ext hx)
           try replace HC := Lib.hid (HC.out.ext hx)
           try replace HV := Lib.hid (hx.heap HV.out)
           try replace H8 := Lib.hid (hx.heap H8.out)
           try replace H9 := Lib.hid (hx.heap H9.out)
           replace HK := Lib.hid (HK.out.trans hx)
           obtain ⟨B8, hB⟩ : ∃ x, x = wc.heap.size := ⟨_, rfl⟩
           rw [← hB] at hbn hle ⊢
           have H8 := Lib.hid hbn
           have LH8 := Lib.hid hle
           clear hbn hB hle hx
           generalize wc.alloc (.cells #[.map none] 42) = wc at *
           try simp only [List.getElem_toArray, List.getElem_cons_zero, List.getElem_cons_succ, Act.put, List.setIfInBounds_toArray, List.set_cons_zero, List.set_cons_succ])
        | (have hx := Ext.alloc wc (.cells #[.int .i64 0, .string ⟨#[]⟩, .string ⟨#[]⟩] 63)
           have hbn := heap_alloc_new wc (.cells #[.int .i64 0, .string ⟨#[]⟩, .string ⟨#[]⟩] 63)
           have hle := HK.out.size
           refine hK.out _ (wc.alloc (.cells #[.int .i64 0, .string ⟨#[]⟩, .string ⟨#[]⟩] 63)) (HCS.out _ (HK.out.trans hx)) (fun _ => ?_)
           clear hK K
           try replace HN := Lib.hid (HN.out.ext hx)
           try replace HC := Lib.hid (HC.out.ext hx)
           try replace HV := Lib.hid (hx.heap HV.out)
           try replace H8 := Lib.hid (hx.heap H8.out)
           try replace H9 := Lib.hid (hx.heap H9.out)
           replace HK := Lib.hid (HK.out.trans hx)
           obtain ⟨B9, hB⟩ : ∃ x, x = wc.heap.size := ⟨_, rfl⟩
           rw [← hB] at hbn hle ⊢
           have H9 := Lib.hid hbn
           have LH9 := Lib.hid hle
           clear hbn hB hle hx
           generalize wc.alloc (.cells #[.int .i64 0, .string ⟨#[]⟩, .string ⟨#[]⟩] 63) = wc at *
           try simp only [List.getElem_toArray, List.getElem_cons_zero, List.getElem_cons_succ, Act.put, List.setIfInBounds_toArray, List.set_cons_zero, List.set_cons_succ]))
    all_goals (
      first
        | refine wpAnyH_ready (rs := [8, 9]) (by decide +kernel) (by simp) ?_
        | refine wpAnyH_ready (rs := [4, 9]) (by decide +kernel) (by simp) ?_
        | refine wpAnyH_ready (rs := [4, 8]) (by decide +kernel) (by simp) ?_
        | refine wpAnyH_ready (rs := [2]) (by decide +kernel) (by simp) ?_
        | refine wpAnyH_ready (rs := [0]) (by decide +kernel) (by simp) ?_
      repeat' (first | exact AllReadyH.nil | (refine AllReadyH.cons rfl (fun K hK => ?_) ?_)))
    all_goals (
      go_simp
      first
        | (go_at_call 13
           refine (ex_new _).mono ?_
           rintro E wn ⟨⟨b0, A0, rfl, hm⟩, hx⟩
           try replace HN := Lib.hid (HN.out.ext hx)
           try replace HC := Lib.hid (HC.out.ext hx)
           try replace HV := Lib.hid (hx.heap HV.out)
           try replace H8 := Lib.hid (hx.heap H8.out)
           try replace H9 := Lib.hid (hx.heap H9.out)
           replace HK := Lib.hid (HK.out.trans hx)
           have HN := Lib.hid hm
           clear hm hx
           go_wp2_with fail
           refine hK.out _ _ (HCS.out _ HK.out) (fun _ => ?_)
           clear hK K
           obtain ⟨wc, rfl⟩ : ∃ x : World, x = wn := ⟨_, rfl⟩
           try simp only [List.getElem_toArray, List.getElem_cons_zero, List.getElem_cons_succ, Act.put, List.setIfInBounds_toArray, List.set_cons_zero, List.set_cons_succ])
        | (have hx := Ext.alloc wc (.cells #[.string ⟨#[97]⟩, .string ⟨#[49]⟩, .slice (some ⟨N0, 0, none⟩) 1 1, .slice none 0 0, .slice none 0 0, .slice none 0 0] 31)
           have hbn := heap_alloc_new wc (.cells #[.string ⟨#[97]⟩, .string ⟨#[49]⟩, .slice (some ⟨N0, 0, none⟩) 1 1, .slice none 0 0, .slice none 0 0, .slice none 0 0] 31)
           have hle := HK.out.size
           refine hK.out _ (wc.alloc (.cells #[.string ⟨#[97]⟩, .string ⟨#[49]⟩, .slice (some ⟨N0, 0, none⟩) 1 1, .slice none 0 0, .slice none 0 0, .slice none 0 0] 31)) (HCS.out _ (HK.out.trans hx)) (fun _ => ?_)
           clear hK K
           try replace HN := Lib.hid (HN.out.ext hx)
           try replace HC := Lib.hid (HC.out.ext hx)
           try replace HV := Lib.hid (hx.heap HV.out)
           try replace H8 := Lib.hid (hx.heap H8.out)
           try replace H9 := Lib.hid (hx.heap H9.out)
           replace HK := Lib.hid (HK.out.trans hx)
           obtain ⟨V, hB⟩ : ∃ x, x = wc.heap.size := ⟨_, rfl⟩
           rw [← hB] at hbn hle ⊢
           have HV := Lib.hid hbn
           have LHV := Lib.hid hle
           clear hbn hB hle hx
           generalize wc.alloc (.cells #[.string ⟨#[97]⟩, .string ⟨#[49]⟩, .slice (some ⟨N0, 0, none⟩) 1 1, .slice none 0 0, .slice none 0 0, .slice none 0 0] 31) = wc at *
           try simp only [List.getElem_toArray, List.getElem_cons_zero, List.getElem_cons_succ, Act.put, List.setIfInBounds_toArray, List.set_cons_zero, List.set_cons_succ]
           refine wpAnyH_take (i := 3) (v := ?_) rfl (by kernel_rfl) (by kernel_rfl) (by kernel_rfl) (fun _ _ _ h => h) (Or.inl ⟨by kernel_rfl, ?_⟩) (HCS.out _ HK.out) ?_
           rotate_left
           · (intro wq _; first | (go_simp; done) | (go_simp; with_reducible rfl))
           try simp only [List.getElem_toArray, List.getElem_cons_zero, List.getElem_cons_succ, Act.put, List.setIfInBounds_toArray, List.set_cons_zero, List.set_cons_succ])
        | (go_at_call 24
           refine (ex_after1 (.agg #[.map (some b0)]) 0 (some ⟨V, 0, none⟩) ⟨some ⟨N0, 0, none⟩, none, none, none, 1, 0, 0, 0⟩ wc (HE.out.ext HK.out) (Or.inr ⟨b0, A0, rfl, HN.out⟩) (HPK.out _ V HK.out HV.out) (by omega)).mono ?_
           rintro E wn ⟨rfl, hx⟩
           unfold failV
           try replace HN := Lib.hid (HN.out.ext hx)
           try replace HC := Lib.hid (HC.out.ext hx)
           try replace HV := Lib.hid (hx.heap HV.out)
           try replace H8 := Lib.hid (hx.heap H8.out)
           try replace H9 := Lib.hid (hx.heap H9.out)
           replace HK := Lib.hid (HK.out.trans hx)
           clear hx
           go_wp2_with fail
           refine hK.out _ _ (HCS.out _ HK.out) (fun _ => ?_)
           clear hK K
           obtain ⟨wc, rfl⟩ : ∃ x : World, x = wn := ⟨_, rfl⟩
           try simp only [List.getElem_toArray, List.getElem_cons_zero, List.getElem_cons_succ, Act.put, List.setIfInBounds_toArray, List.set_cons_zero, List.set_cons_succ]
           refine wpAnyH_take (i := 5) (v := ?_) rfl (by kernel_rfl) (by kernel_rfl) (by kernel_rfl) (fun _ _ _ h => h) (Or.inl ⟨by kernel_rfl, ?_⟩) (HCS.out _ HK.out) ?_
           rotate_left
           · (intro wq _; first | (go_simp; done) | (go_simp; with_reducible rfl))
           try simp only [List.getElem_toArray, List.getElem_cons_zero, List.getElem_cons_succ, Act.put, List.setIfInBounds_toArray, List.set_cons_zero, List.set_cons_succ]
           refine wpAnyH_take (i := 6) (v := ?_) rfl (by kernel_rfl) (by kernel_rfl) (by kernel_rfl) (fun _ _ _ h => h) (Or.inl ⟨by kernel_rfl, ?_⟩) (HCS.out _ HK.out) ?_
           rotate_left
           · (intro wq _; first | (go_simp; done) | (go_simp; with_reducible rfl))
           try simp only [List.getElem_toArray, List.getElem_cons_zero, List.getElem_cons_succ, Act.put, List.setIfInBounds_toArray, List.set_cons_zero, List.set_cons_succ]
           refine wpAnyH_take (i := 7) (v := ?_) rfl (by kernel_rfl) (by kernel_rfl) (by kernel_rfl) (fun _ _ _ h => h) (Or.inl ⟨by kernel_rfl, ?_⟩) (HCS.out _ HK.out) ?_
           rotate_left
           · (intro wq _; first | (go_simp; done) | (go_simp; with_reducible rfl))
           try simp only [List.getElem_toArray, List.getElem_cons_zero, List.getElem_cons_succ, Act.put, List.setIfInBounds_toArray, List.set_cons_zero, List.set_cons_succ])
        | (have hx := Ext.alloc wc (.cells #[.map none] 42)
           have hbn := heap_alloc_new wc (.cells #[.map none] 42)
           have hle := HK.out.size
           refine hK.out _ (wc.alloc (.cells #[.map none] 42)) (HCS.out _ (HK.out.trans hx)) (fun _ => ?_)
           clear hK K
           try replace HN := Lib.hid (HN.out.ext hx)
           try replace HC := Lib.hid (HC.out.ext hx)
           try replace HV := Lib.hid (hx.heap HV.out)
           try replace H8 := Lib.hid (hx.heap H8.out)
           try replace H9 := Lib.hid (hx.heap H9.out)
           replace HK := Lib.hid (HK.out.trans hx)
           obtain ⟨B8, hB⟩ : ∃ x, x = wc.heap.size := ⟨_, rfl⟩
           rw [← hB] at hbn hle ⊢
           have H8 := Lib.hid hbn
           have LH8 := Lib.hid hle
           clear hbn hB hle hx
           generalize wc.alloc (.cells #[.map none] 42) = wc at *
           try simp only [List.getElem_toArray, List.getElem_cons_zero, List.getElem_cons_succ, Act.put, List.setIfInBounds_toArray, List.set_cons_zero, List.set_cons_succ])
        | (have hx := Ext.alloc wc (.cells #[.int .i64 0, .string ⟨#[]⟩, .string ⟨#[]⟩] 63)
           have hbn := heap_alloc_new wc (.cells #[.int .i64 0, .string ⟨#[]⟩, .string ⟨#[]⟩] 63)
           have hle := HK.out.size
           refine hK.out _ (wc.alloc (.cells #[.int .i64 0, .string ⟨#[]⟩, .string ⟨#[]⟩] 63)) (HCS.out _ (HK.out.trans hx)) (fun _ => ?_)
           clear hK K
           try replace HN := Lib.hid (HN.out.ext hx)
           try replace HC := Lib.hid (HC.out.ext hx)
           try replace HV := Lib.hid (hx.heap HV.out)
           try replace H8 := Lib.hid (hx.heap H8.out)
           try replace H9 := Lib.hid (hx.heap H9.out)
           replace HK := Lib.hid (HK.out.trans hx)
           obtain ⟨B9, hB⟩ : ∃ x, x = wc.heap.size := ⟨_, rfl⟩
           rw [← hB] at hbn hle ⊢
           have H9 := Lib.hid hbn
           have LH9 := Lib.hid hle
           clear hbn hB hle hx
           generalize wc.alloc (.cells #[.int .i64 0, .string ⟨#[]⟩, .string ⟨#[]⟩] 63) = wc at *
           try simp only [List.getElem_toArray, List.getElem_cons_zero, List.getElem_cons_succ, Act.put, List.setIfInBounds_toArray, List.set_cons_zero, List.set_cons_succ]))
    all_goals (
      first
        | refine wpAnyH_ready (rs := [9]) (by decide +kernel) (by simp) ?_
        | refine wpAnyH_ready (rs := [8]) (by decide +kernel) (by simp) ?_
        | refine wpAnyH_ready (rs := [4]) (by decide +kernel) (by simp) ?_
      repeat' (first | exact AllReadyH.nil | (refine AllReadyH.cons rfl (fun K hK => ?_) ?_)))
    all_goals (
      go_simp
      first
        | (go_at_call 24
           refine (ex_after1 (.agg #[.map (some b0)]) 0 (some ⟨V, 0, none⟩) ⟨some ⟨N0, 0, none⟩, none, none, none, 1, 0, 0, 0⟩ wc (HE.out.ext HK.out) (Or.inr ⟨b0, A0, rfl, HN.out⟩) (HPK.out _ V HK.out HV.out) (by omega)).mono ?_
           rintro E wn ⟨rfl, hx⟩
           unfold failV
           try replace HN := Lib.hid (HN.out.ext hx)
           try replace HC := Lib.hid (HC.out.ext hx)
           try replace HV := Lib.hid (hx.heap HV.out)
           try replace H8 := Lib.hid (hx.heap H8.out)
           try replace H9 := Lib.hid (hx.heap H9.out)
           replace HK := Lib.hid (HK.out.trans hx)
           clear hx
           go_wp2_with fail
           refine hK.out _ _ (HCS.out _ HK.out) (fun _ => ?_)
           clear hK K
           obtain ⟨wc, rfl⟩ : ∃ x : World, x = wn := ⟨_, rfl⟩
           try simp only [List.getElem_toArray, List.getElem_cons_zero, List.getElem_cons_succ, Act.put, List.setIfInBounds_toArray, List.set_cons_zero, List.set_cons_succ]
           refine wpAnyH_take (i := 5) (v := ?_) rfl (by kernel_rfl) (by kernel_rfl) (by kernel_rfl) (fun _ _ _ h => h) (Or.inl ⟨by kernel_rfl, ?_⟩) (HCS.out _ HK.out) ?_
           rotate_left
           · (intro wq _; first | (go_simp; done) | (go_simp; with_reducible rfl))
           try simp only [List.getElem_toArray, List.getElem_cons_zero, List.getElem_cons_succ, Act.put, List.setIfInBounds_toArray, List.set_cons_zero, List.set_cons_succ]
           refine wpAnyH_take (i := 6) (v := ?_) rfl (by kernel_rfl) (by kernel_rfl) (by kernel_rfl) (fun _ _ _ h => h) (Or.inl ⟨by kernel_rfl, ?_⟩) (HCS.out _ HK.out) ?_
           rotate_left
           · (intro wq _; first | (go_simp; done) | (go_simp; with_reducible rfl))
           try simp only [List.getElem_toArray, List.getElem_cons_zero, List.getElem_cons_succ, Act.put, List.setIfInBounds_toArray, List.set_cons_zero, List.set_cons_succ]
           refine wpAnyH_take (i := 7) (v := ?_) rfl (by kernel_rfl) (by kernel_rfl) (by kernel_rfl) (fun _ _ _ h => h) (Or.inl ⟨by kernel_rfl, ?_⟩) (HCS.out _ HK.out) ?_
           rotate_left
           · (intro wq _; first | (go_simp; done) | (go_simp; with_reducible rfl))
           try simp only [List.getElem_toArray, List.getElem_cons_zero, List.getElem_cons_succ, Act.put, List.setIfInBounds_toArray, List.set_cons_zero, List.set_cons_succ])
        | (have hx := Ext.alloc wc (.cells #[.map none] 42)
           have hbn := heap_alloc_new wc (.cells #[.map none] 42)
           have hle := HK.out.size
           refine hK.out _ (wc.alloc (.cells #[.map none] 42)) (HCS.out _ (HK.out.trans hx)) (fun _ => ?_)
           clear hK K
           try replace HN := Lib.hid (HN.out.ext hx)
           try replace HC := Lib.hid (HC.out.ext hx)
           try replace HV := Lib.hid (hx.heap HV.out)
           try replace H8 := Lib.hid (hx.heap H8.out)
           try replace H9 := Lib.hid (hx.heap H9.out)
           replace HK := Lib.hid (HK.out.trans hx)
           obtain ⟨B8, hB⟩ : ∃ x, x = wc.heap.size := ⟨_, rfl⟩
           rw [← hB] at hbn hle ⊢
           have H8 := Lib.hid hbn
           have LH8 := Lib.hid hle
           clear hbn hB hle hx
           generalize wc.alloc (.cells #[.map none] 42) = wc at *
           try simp only [List.getElem_toArray, List.getElem_cons_zero, List.getElem_cons_succ, Act.put, List.setIfInBounds_toArray, List.set_cons_zero, List.set_cons_succ])
        | (have hx := Ext.alloc wc (.cells #[.int .i64 0, .string ⟨#[]⟩, .string ⟨#[]⟩] 63)
           have hbn := heap_alloc_new wc (.cells #[.int .i64 0, .string ⟨#[]⟩, .string ⟨#[]⟩] 63)
           have hle := HK.out.size
           refine hK.out _ (wc.alloc (.cells #[.int .i64 0, .string ⟨#[]⟩, .string ⟨#[]⟩] 63)) (HCS.out _ (HK.out.trans hx)) (fun _ => ?_)
           clear hK K
           try replace HN := Lib.hid (HN.out.ext hx)
           try replace HC := Lib.hid (HC.out.ext hx)
           try replace HV := Lib.hid (hx.heap HV.out)
           try replace H8 := Lib.hid (hx.heap H8.out)
           try replace H9 := Lib.hid (hx.heap H9.out)
           replace HK := Lib.hid (HK.out.trans hx)
           obtain ⟨B9, hB⟩ : ∃ x, x = wc.heap.size := ⟨_, rfl⟩
           rw [← hB] at hbn hle ⊢
           have H9 := Lib.hid hbn
           have LH9 := Lib.hid hle
           clear hbn hB hle hx
           generalize wc.alloc (.cells #[.int .i64 0, .string ⟨#[]⟩, .string ⟨#[]⟩] 63) = wc at *
           try simp only [List.getElem_toArray, List.getElem_cons_zero, List.getElem_cons_succ, Act.put, List.setIfInBounds_toArray, List.set_cons_zero, List.set_cons_succ]))
    all_goals (
      refine wpAnyH_ready (rs := [10]) (by kernel_rfl) (by simp) ?_
      refine AllReadyH.cons rfl (fun K hK => ?_) AllReadyH.nil
      have n0 := blk_cell H8.out 0 (Value.map none) rfl
      have g0 := blk_free H8.out 0
      have hne : B9 ≠ B8 := by intro e; have h := H9.out; rw [e, H8.out] at h; cases h
      go_simp
      have hk8 : Keep (· ≠ B8) wc (wc.setCell ⟨B8, 0, none⟩ (.map none)) := (Keep.refl _ _).setCell (fun _ h => h) 0 _
      have h8n : (wc.setCell ⟨B8, 0, none⟩ (.map none)).heap[B8]? = some (.cells #[.map none] 42 (0, 0)) := by have h := setCell_row H8.out (i := 0) (.map none); simpa using h
      have h9n := hk8.heap (g := B9) hne H9.out
      have hkn : Ext w1 (wc.setCell ⟨B8, 0, none⟩ (.map none)) := ((Keep.of_ext (S := fun j => j < w1.heap.size) HK.out).andThen hk8 (fun j hj _ => by have := LH8.out; show j ≠ B8; omega)).ext_lt
      clear n0 g0 hk8
      generalize (wc.setCell ⟨B8, 0, none⟩ (.map none)) = ws at h8n h9n hkn ⊢
      replace H8 := Lib.hid h8n; clear h8n
      replace H9 := Lib.hid h9n; clear h9n
      replace HK := Lib.hid hkn; clear hkn
      refine hK.out _ _ (HCS.out _ HK.out) (fun _ => ?_)
      clear hK K
      obtain ⟨wc, rfl⟩ : ∃ x : World, x = ws := ⟨_, rfl⟩
      try simp only [List.getElem_toArray, List.getElem_cons_zero, List.getElem_cons_succ, Act.put, List.setIfInBounds_toArray, List.set_cons_zero, List.set_cons_succ])
    all_goals (
      refine wpAnyH_ready (rs := [11]) (by kernel_rfl) (by simp) ?_
      refine AllReadyH.cons rfl (fun K hK => ?_) AllReadyH.nil
      have n0 := blk_cell H9.out 0 (Value.int .i64 0) rfl
      have n1 := blk_cell H9.out 1 (Value.string ⟨#[]⟩) rfl
      have n2 := blk_cell H9.out 2 (Value.string ⟨#[]⟩) rfl
      have g0 := blk_free H9.out 0
      have g1 := blk_free H9.out 1
      have g2 := blk_free H9.out 2
      go_simp
      obtain ⟨hs6, hbut⟩ := set3f H9.out (.int .i64 16) (.string ⟨#[97]⟩) (.string ⟨#[98]⟩)
      have h8n := (Keep.of_but hbut).heap (g := B8) (fun e => hne e.symm) H8.out
      have hkn : Ext w1 (((wc.setCell ⟨B9, 0, none⟩ (.int .i64 16)).setCell ⟨B9, 1, none⟩ (.string ⟨#[97]⟩)).setCell ⟨B9, 2, none⟩ (.string ⟨#[98]⟩)) := ((Keep.of_ext (S := fun j => j < w1.heap.size) HK.out).andThen (Keep.of_but hbut) (fun j hj _ => by have := LH9.out; show j ≠ B9; omega)).ext_lt
      clear n0 g0 n1 g1 n2 g2 hbut hne
      generalize (((wc.setCell ⟨B9, 0, none⟩ (.int .i64 16)).setCell ⟨B9, 1, none⟩ (.string ⟨#[97]⟩)).setCell ⟨B9, 2, none⟩ (.string ⟨#[98]⟩)) = wt at hs6 h8n hkn ⊢
      replace H8 := Lib.hid h8n; clear h8n
      replace H9 := Lib.hid hs6; clear hs6
      replace HK := Lib.hid hkn; clear hkn
      refine hK.out _ _ (HCS.out _ HK.out) (fun _ => ?_)
      clear hK K
      try simp only [List.getElem_toArray, List.getElem_cons_zero, List.getElem_cons_succ, Act.put, List.setIfInBounds_toArray, List.set_cons_zero, List.set_cons_succ])
    all_goals (
      refine wpAnyH_done (by kernel_rfl) ?_ _
      refine NoPanic.normal ?_
      go_wp2_with fail
      go_meet
      exact ⟨B8, B9, rfl, rfl, H8, H9, HK⟩)
  case rest =>
    obtain ⟨B2, B3, rfl, rfl, hb2, hb3, hx⟩ := hcut
    obtain ⟨w2, rfl⟩ : ∃ w2 : World, w2 = wc := ⟨_, rfl⟩
    have HK1 := Lib.hid hx.out; clear hx HK
    have hcs2 : ∀ W, Ext w2 W → W.cell? ⟨P0, 0, none⟩ = some (.string ⟨#[97]⟩) ∧ W.cell? ⟨P0, 1, none⟩ = some (.string ⟨#[49]⟩) ∧ W.cell? ⟨P0, 2, none⟩ = some (.slice (some ⟨N0, 0, none⟩) 1 1) ∧ W.cell? ⟨P0, 3, none⟩ = some (.slice none 0 0) ∧ W.cell? ⟨P0, 4, none⟩ = some (.slice none 0 0) ∧ W.cell? ⟨P0, 5, none⟩ = some (.slice none 0 0) := fun W k => HCS.out W (HK1.out.trans k)
    have HCS2 := Lib.hid hcs2; clear hcs2 HCS
    have hpk := fun W V (k : Ext w2 W) hv => pkgs_two (W := W) (V := V) ((HK1.out.trans k).heap HN1.out) hv
    have HPK2 := Lib.hid hpk; clear hpk HPK
    have HK := Lib.hid ((Ext.refl w2).drew)
    go_upto_region 3 with (fail)
    go_cut [4, 5] from 19 to 27 (fun a b wx => ∃ B8 B9 c2 M2, a = .pointer (some ⟨B8, 0, none⟩) ∧ b = .pointer (some ⟨B9, 0, none⟩) ∧ Hid (wx.heap[B8]? = some (.cells #[.map (some c2)] 42 (0, 0))) ∧ Hid (wx.heap[B9]? = some (.cells #[.int .i64 0, .string ⟨#[]⟩, .string ⟨#[]⟩] 63 (0, 0))) ∧ Hid (EntsM wx c2 (0 + 2) fAB M2) ∧ Hid (Ext w2 wx))
    case first =>
      refine wp_region_noPanic ?_
      refine wp_region_held_drew (S := (fun W => W.cell? ⟨P0, 0, none⟩ = some (.string ⟨#[97]⟩) ∧ W.cell? ⟨P0, 1, none⟩ = some (.string ⟨#[49]⟩) ∧ W.cell? ⟨P0, 2, none⟩ = some (.slice (some ⟨N0, 0, none⟩) 1 1) ∧ W.cell? ⟨P0, 3, none⟩ = some (.slice none 0 0) ∧ W.cell? ⟨P0, 4, none⟩ = some (.slice none 0 0) ∧ W.cell? ⟨P0, 5, none⟩ = some (.slice none 0 0))) (by kernel_rfl) (HCS2.out _ HK.out) (fun hHeld => ?_)
      clear hHeld
      generalize w2.drew = wc at HK ⊢
      refine wpAnyH_take (i := 1) (v := ?_) rfl (by kernel_rfl) (by kernel_rfl) (by kernel_rfl) (fun _ _ _ h => h) (Or.inl ⟨by kernel_rfl, ?_⟩) (HCS2.out _ HK.out) ?_
      rotate_left
      · (intro wq hSw; (try dsimp only at hSw); first | (go_simp; done) | (go_simp; with_reducible rfl))
      try simp only [List.getElem_toArray, List.getElem_cons_zero, List.getElem_cons_succ, Act.put, List.setIfInBounds_toArray, List.set_cons_zero, List.set_cons_succ]
      refine wpAnyH_take (i := 2) (v := ?_) rfl (by kernel_rfl) (by kernel_rfl) (by kernel_rfl) (fun _ _ _ h => h) (Or.inl ⟨by kernel_rfl, ?_⟩) (HCS2.out _ HK.out) ?_
      rotate_left
      · (intro wq _; first | (go_simp; done) | (go_simp; with_reducible rfl))
      try simp only [List.getElem_toArray, List.getElem_cons_zero, List.getElem_cons_succ, Act.put, List.setIfInBounds_toArray, List.set_cons_zero, List.set_cons_succ]
      all_goals (
        first
          | refine wpAnyH_ready (rs := [0, 3, 9, 10]) (by decide +kernel) (by simp) ?_
        repeat' (first | exact AllReadyH.nil | (refine AllReadyH.cons rfl (fun K hK => ?_) ?_)))
      all_goals (
        go_simp
        first
          | (go_at_call 13
             refine (ex_new _).mono ?_
             rintro E wn ⟨⟨b0, A0, rfl, hm⟩, hx⟩
             try replace HN := Lib.hid (HN.out.ext hx)
             try replace HC := Lib.hid (HC.out.ext hx)
             try replace HV := Lib.hid (hx.heap HV.out)
             try replace H8 := Lib.hid (hx.heap H8.out)
             try replace H9 := Lib.hid (hx.heap H9.out)
             replace HK := Lib.hid (HK.out.trans hx)
             have HN := Lib.hid hm
             clear hm hx
             go_wp2_with fail
             refine hK.out _ _ (HCS2.out _ HK.out) (fun _ => ?_)
             clear hK K
             obtain ⟨wc, rfl⟩ : ∃ x : World, x = wn := ⟨_, rfl⟩
             try simp only [List.getElem_toArray, List.getElem_cons_zero, List.getElem_cons_succ, Act.put, List.setIfInBounds_toArray, List.set_cons_zero, List.set_cons_succ])
          | (have hx := Ext.alloc wc (.cells #[.string ⟨#[97]⟩, .string ⟨#[49]⟩, .slice (some ⟨N0, 0, none⟩) 1 1, .slice none 0 0, .slice none 0 0, .slice none 0 0, .string ⟨#[98]⟩, .string ⟨#[50]⟩, .slice none 0 0, .slice none 0 0, .slice none 0 0, .slice none 0 0] 31)
             have hbn := heap_alloc_new wc (.cells #[.string ⟨#[97]⟩, .string ⟨#[49]⟩, .slice (some ⟨N0, 0, none⟩) 1 1, .slice none 0 0, .slice none 0 0, .slice none 0 0, .string ⟨#[98]⟩, .string ⟨#[50]⟩, .slice none 0 0, .slice none 0 0, .slice none 0 0, .slice none 0 0] 31)
             have hle := HK.out.size
             refine hK.out _ (wc.alloc (.cells #[.string ⟨#[97]⟩, .string ⟨#[49]⟩, .slice (some ⟨N0, 0, none⟩) 1 1, .slice none 0 0, .slice none 0 0, .slice none 0 0, .string ⟨#[98]⟩, .string ⟨#[50]⟩, .slice none 0 0, .slice none 0 0, .slice none 0 0, .slice none 0 0] 31)) (HCS2.out _ (HK.out.trans hx)) (fun _ => ?_)
             clear hK K
             try replace HN := Lib.hid (HN.out.ext hx)
             try replace HC := Lib.hid (HC.out.ext hx)
             try replace HV := Lib.hid (hx.heap HV.out)
             try replace H8 := Lib.hid (hx.heap H8.out)
             try replace H9 := Lib.hid (hx.heap H9.out)
             replace HK := Lib.hid (HK.out.trans hx)
             obtain ⟨V, hB⟩ : ∃ x, x = wc.heap.size := ⟨_, rfl⟩
             rw [← hB] at hbn hle ⊢
             have HV := Lib.hid hbn
             have LHV := Lib.hid hle
             clear hbn hB hle hx
             generalize wc.alloc (.cells #[.string ⟨#[97]⟩, .string ⟨#[49]⟩, .slice (some ⟨N0, 0, none⟩) 1 1, .slice none 0 0, .slice none 0 0, .slice none 0 0, .string ⟨#[98]⟩, .string ⟨#[50]⟩, .slice none 0 0, .slice none 0 0, .slice none 0 0, .slice none 0 0] 31) = wc at *
             try simp only [List.getElem_toArray, List.getElem_cons_zero, List.getElem_cons_succ, Act.put, List.setIfInBounds_toArray, List.set_cons_zero, List.set_cons_succ]
             refine wpAnyH_take (i := 4) (v := ?_) rfl (by kernel_rfl) (by kernel_rfl) (by kernel_rfl) (fun _ _ _ h => h) (Or.inl ⟨by kernel_rfl, ?_⟩) (HCS2.out _ HK.out) ?_
             rotate_left
             · (intro wq _; first | (go_simp; done) | (go_simp; with_reducible rfl))
             try simp only [List.getElem_toArray, List.getElem_cons_zero, List.getElem_cons_succ, Act.put, List.setIfInBounds_toArray, List.set_cons_zero, List.set_cons_succ])
          | (have hx := Ext.alloc wc (.cells #[.map none] 42)
             have hbn := heap_alloc_new wc (.cells #[.map none] 42)
             have hle := HK.out.size
             refine hK.out _ (wc.alloc (.cells #[.map none] 42)) (HCS2.out _ (HK.out.trans hx)) (fun _ => ?_)
             clear hK K
             try replace HN := Lib.hid (HN.out.ext hx)
             try replace HC := Lib.hid (HC.out.ext hx)
             try replace HV := Lib.hid (hx.heap HV.out)
             try replace H8 := Lib.hid (hx.heap H8.out)
             try replace H9 := Lib.hid (hx.heap H9.out)
             replace HK := Lib.hid (HK.out.trans hx)
             obtain ⟨B8, hB⟩ : ∃ x, x = wc.heap.size := ⟨_, rfl⟩
             rw [← hB] at hbn hle ⊢
             have H8 := Lib.hid hbn
             have LH8 := Lib.hid hle
             clear hbn hB hle hx
             generalize wc.alloc (.cells #[.map none] 42) = wc at *
             try simp only [List.getElem_toArray, List.getElem_cons_zero, List.getElem_cons_succ, Act.put, List.setIfInBounds_toArray, List.set_cons_zero, List.set_cons_succ])
          | (have hx := Ext.alloc wc (.cells #[.int .i64 0, .string ⟨#[]⟩, .string ⟨#[]⟩] 63)
             have hbn := heap_alloc_new wc (.cells #[.int .i64 0, .string ⟨#[]⟩, .string ⟨#[]⟩] 63)
             have hle := HK.out.size
             refine hK.out _ (wc.alloc (.cells #[.int .i64 0, .string ⟨#[]⟩, .string ⟨#[]⟩] 63)) (HCS2.out _ (HK.out.trans hx)) (fun _ => ?_)
             clear hK K
             try replace HN := Lib.hid (HN.out.ext hx)
             try replace HC := Lib.hid (HC.out.ext hx)
             try replace HV := Lib.hid (hx.heap HV.out)
             try replace H8 := Lib.hid (hx.heap H8.out)
             try replace H9 := Lib.hid (hx.heap H9.out)
             replace HK := Lib.hid (HK.out.trans hx)
             obtain ⟨B9, hB⟩ : ∃ x, x = wc.heap.size := ⟨_, rfl⟩
             rw [← hB] at hbn hle ⊢
             have H9 := Lib.hid hbn
             have LH9 := Lib.hid hle
             clear hbn hB hle hx
             generalize wc.alloc (.cells #[.int .i64 0, .string ⟨#[]⟩, .string ⟨#[]⟩] 63) = wc at *
             try simp only [List.getElem_toArray, List.getElem_cons_zero, List.getElem_cons_succ, Act.put, List.setIfInBounds_toArray, List.set_cons_zero, List.set_cons_succ]))
      all_goals (
        first
          | refine wpAnyH_ready (rs := [3, 9, 10]) (by decide +kernel) (by simp) ?_
          | refine wpAnyH_ready (rs := [0, 9, 10]) (by decide +kernel) (by simp) ?_
          | refine wpAnyH_ready (rs := [0, 3, 10]) (by decide +kernel) (by simp) ?_
          | refine wpAnyH_ready (rs := [0, 3, 9]) (by decide +kernel) (by simp) ?_
        repeat' (first | exact AllReadyH.nil | (refine AllReadyH.cons rfl (fun K hK => ?_) ?_)))
      all_goals (
        go_simp
        first
          | (go_at_call 13
             refine (ex_new _).mono ?_
             rintro E wn ⟨⟨b0, A0, rfl, hm⟩, hx⟩
             try replace HN := Lib.hid (HN.out.ext hx)
             try replace HC := Lib.hid (HC.out.ext hx)
             try replace HV := Lib.hid (hx.heap HV.out)
             try replace H8 := Lib.hid (hx.heap H8.out)
             try replace H9 := Lib.hid (hx.heap H9.out)
             replace HK := Lib.hid (HK.out.trans hx)
             have HN := Lib.hid hm
             clear hm hx
             go_wp2_with fail
             refine hK.out _ _ (HCS2.out _ HK.out) (fun _ => ?_)
             clear hK K
             obtain ⟨wc, rfl⟩ : ∃ x : World, x = wn := ⟨_, rfl⟩
             try simp only [List.getElem_toArray, List.getElem_cons_zero, List.getElem_cons_succ, Act.put, List.setIfInBounds_toArray, List.set_cons_zero, List.set_cons_succ])
          | (have hx := Ext.alloc wc (.cells #[.string ⟨#[97]⟩, .string ⟨#[49]⟩, .slice (some ⟨N0, 0, none⟩) 1 1, .slice none 0 0, .slice none 0 0, .slice none 0 0, .string ⟨#[98]⟩, .string ⟨#[50]⟩, .slice none 0 0, .slice none 0 0, .slice none 0 0, .slice none 0 0] 31)
             have hbn := heap_alloc_new wc (.cells #[.string ⟨#[97]⟩, .string ⟨#[49]⟩, .slice (some ⟨N0, 0, none⟩) 1 1, .slice none 0 0, .slice none 0 0, .slice none 0 0, .string ⟨#[98]⟩, .string ⟨#[50]⟩, .slice none 0 0, .slice none 0 0, .slice none 0 0, .slice none 0 0] 31)
             have hle := HK.out.size
             refine hK.out _ (wc.alloc (.cells #[.string ⟨#[97]⟩, .string ⟨#[49]⟩, .slice (some ⟨N0, 0, none⟩) 1 1, .slice none 0 0, .slice none 0 0, .slice none 0 0, .string ⟨#[98]⟩, .string ⟨#[50]⟩, .slice none 0 0, .slice none 0 0, .slice none 0 0, .slice none 0 0] 31)) (HCS2.out _ (HK.out.trans hx)) (fun _ => ?_)
             clear hK K
             try replace HN := Lib.hid (HN.out.ext hx)
             try replace HC := Lib.hid (HC.out.ext hx)
             try replace HV := Lib.hid (hx.heap HV.out)
             try replace H8 := Lib.hid (hx.heap H8.out)
             try replace H9 := Lib.hid (hx.heap H9.out)
             replace HK := Lib.hid (HK.out.trans hx)
             obtain ⟨V, hB⟩ : ∃ x, x = wc.heap.size := ⟨_, rfl⟩
             rw [← hB] at hbn hle ⊢
             have HV := Lib.hid hbn
             have LHV := Lib.hid hle
             clear hbn hB hle hx
             generalize wc.alloc (.cells #[.string ⟨#[97]⟩, .string ⟨#[49]⟩, .slice (some ⟨N0, 0, none⟩) 1 1, .slice none 0 0, .slice none 0 0, .slice none 0 0, .string ⟨#[98]⟩, .string ⟨#[50]⟩, .slice none 0 0, .slice none 0 0, .slice none 0 0, .slice none 0 0] 31) = wc at *
             try simp only [List.getElem_toArray, List.getElem_cons_zero, List.getElem_cons_succ, Act.put, List.setIfInBounds_toArray, List.set_cons_zero, List.set_cons_succ]
             refine wpAnyH_take (i := 4) (v := ?_) rfl (by kernel_rfl) (by kernel_rfl) (by kernel_rfl) (fun _ _ _ h => h) (Or.inl ⟨by kernel_rfl, ?_⟩) (HCS2.out _ HK.out) ?_
             rotate_left
             · (intro wq _; first | (go_simp; done) | (go_simp; with_reducible rfl))
             try simp only [List.getElem_toArray, List.getElem_cons_zero, List.getElem_cons_succ, Act.put, List.setIfInBounds_toArray, List.set_cons_zero, List.set_cons_succ])
          | (have hx := Ext.alloc wc (.cells #[.map none] 42)
             have hbn := heap_alloc_new wc (.cells #[.map none] 42)
             have hle := HK.out.size
             refine hK.out _ (wc.alloc (.cells #[.map none] 42)) (HCS2.out _ (HK.out.trans hx)) (fun _ => ?_)
             clear hK K
             try replace HN := Lib.hid (HN.out.ext hx)
             try replace HC := Lib.hid (HC.out.ext hx)
             try replace HV := Lib.hid (hx.heap HV.out)
             try replace H8 := Lib.hid (hx.heap H8.out)
             try replace H9 := Lib.hid (hx.heap H9.out)
             replace HK := Lib.hid (HK.out.trans hx)
             obtain ⟨B8, hB⟩ : ∃ x, x = wc.heap.size := ⟨_, rfl⟩
             rw [← hB] at hbn hle ⊢
             have H8 := Lib.hid hbn
             have LH8 := Lib.hid hle
             clear hbn hB hle hx
             generalize wc.alloc (.cells #[.map none] 42) = wc at *
             try simp only [List.getElem_toArray, List.getElem_cons_zero, List.getElem_cons_succ, Act.put, List.setIfInBounds_toArray, List.set_cons_zero, List.set_cons_succ])
          | (have hx := Ext.alloc wc (.cells #[.int .i64 0, .string ⟨#[]⟩, .string ⟨#[]⟩] 63)
             have hbn := heap_alloc_new wc (.cells #[.int .i64 0, .string ⟨#[]⟩, .string ⟨#[]⟩] 63)
             have hle := HK.out.size
             refine hK.out _ (wc.alloc (.cells #[.int .i64 0, .string ⟨#[]⟩, .string ⟨#[]⟩] 63)) (HCS2.out _ (HK.out.trans hx)) (fun _ => ?_)
             clear hK K
             try replace HN := Lib.hid (HN.out.ext hx)
             try replace HC := Lib.hid (HC.out.ext hx)
             try replace HV := Lib.hid (hx.heap HV.out)
             try replace H8 := Lib.hid (hx.heap H8.out)
             try replace H9 := Lib.hid (hx.heap H9.out)
             replace HK := Lib.hid (HK.out.trans hx)
             obtain ⟨B9, hB⟩ : ∃ x, x = wc.heap.size := ⟨_, rfl⟩
             rw [← hB] at hbn hle ⊢
             have H9 := Lib.hid hbn
             have LH9 := Lib.hid hle
             clear hbn hB hle hx
             generalize wc.alloc (.cells #[.int .i64 0, .string ⟨#[]⟩, .string ⟨#[]⟩] 63) = wc at *
             try simp only [List.getElem_toArray, List.getElem_cons_zero, List.getElem_cons_succ, Act.put, List.setIfInBounds_toArray, List.set_cons_zero, List.set_cons_succ]))
      all_goals (
        first
          | refine wpAnyH_ready (rs := [5, 9, 10]) (by decide +kernel) (by simp) ?_
          | refine wpAnyH_ready (rs := [3, 10]) (by decide +kernel) (by simp) ?_
          | refine wpAnyH_ready (rs := [3, 9]) (by decide +kernel) (by simp) ?_
          | refine wpAnyH_ready (rs := [0, 10]) (by decide +kernel) (by simp) ?_
          | refine wpAnyH_ready (rs := [0, 9]) (by decide +kernel) (by simp) ?_
          | refine wpAnyH_ready (rs := [0, 3]) (by decide +kernel) (by simp) ?_
        repeat' (first | exact AllReadyH.nil | (refine AllReadyH.cons rfl (fun K hK => ?_) ?_)))
      all_goals (
        go_simp
        first
          | (go_at_call 13
             refine (ex_new _).mono ?_
             rintro E wn ⟨⟨b0, A0, rfl, hm⟩, hx⟩
             try replace HN := Lib.hid (HN.out.ext hx)
             try replace HC := Lib.hid (HC.out.ext hx)
             try replace HV := Lib.hid (hx.heap HV.out)
             try replace H8 := Lib.hid (hx.heap H8.out)
             try replace H9 := Lib.hid (hx.heap H9.out)
             replace HK := Lib.hid (HK.out.trans hx)
             have HN := Lib.hid hm
             clear hm hx
             go_wp2_with fail
             refine hK.out _ _ (HCS2.out _ HK.out) (fun _ => ?_)
             clear hK K
             obtain ⟨wc, rfl⟩ : ∃ x : World, x = wn := ⟨_, rfl⟩
             try simp only [List.getElem_toArray, List.getElem_cons_zero, List.getElem_cons_succ, Act.put, List.setIfInBounds_toArray, List.set_cons_zero, List.set_cons_succ])
          | (have hx := Ext.alloc wc (.cells #[.string ⟨#[97]⟩, .string ⟨#[49]⟩, .slice (some ⟨N0, 0, none⟩) 1 1, .slice none 0 0, .slice none 0 0, .slice none 0 0, .string ⟨#[98]⟩, .string ⟨#[50]⟩, .slice none 0 0, .slice none 0 0, .slice none 0 0, .slice none 0 0] 31)
             have hbn := heap_alloc_new wc (.cells #[.string ⟨#[97]⟩, .string ⟨#[49]⟩, .slice (some ⟨N0, 0, none⟩) 1 1, .slice none 0 0, .slice none 0 0, .slice none 0 0, .string ⟨#[98]⟩, .string ⟨#[50]⟩, .slice none 0 0, .slice none 0 0, .slice none 0 0, .slice none 0 0] 31)
             have hle := HK.out.size
             refine hK.out _ (wc.alloc (.cells #[.string ⟨#[97]⟩, .string ⟨#[49]⟩, .slice (some ⟨N0, 0, none⟩) 1 1, .slice none 0 0, .slice none 0 0, .slice none 0 0, .string ⟨#[98]⟩, .string ⟨#[50]⟩, .slice none 0 0, .slice none 0 0, .slice none 0 0, .slice none 0 0] 31)) (HCS2.out _ (HK.out.trans hx)) (fun _ => ?_)
             clear hK K
             try replace HN := Lib.hid (HN.out.ext hx)
             try replace HC := Lib.hid (HC.out.ext hx)
             try replace HV := Lib.hid (hx.heap HV.out)
             try replace H8 := Lib.hid (hx.heap H8.out)
             try replace H9 := Lib.hid (hx.heap H9.out)
             replace HK := Lib.hid (HK.out.trans hx)
             obtain ⟨V, hB⟩ : ∃ x, x = wc.heap.size := ⟨_, rfl⟩
             rw [← hB] at hbn hle ⊢
             have HV := Lib.hid hbn
             have LHV := Lib.hid hle
             clear hbn hB hle hx
             generalize wc.alloc (.cells #[.string ⟨#[97]⟩, .string ⟨#[49]⟩, .slice (some ⟨N0, 0, none⟩) 1 1, .slice none 0 0, .slice none 0 0, .slice none 0 0, .string ⟨#[98]⟩, .string ⟨#[50]⟩, .slice none 0 0, .slice none 0 0, .slice none 0 0, .slice none 0 0] 31) = wc at *
             try simp only [List.getElem_toArray, List.getElem_cons_zero, List.getElem_cons_succ, Act.put, List.setIfInBounds_toArray, List.set_cons_zero, List.set_cons_succ]
             refine wpAnyH_take (i := 4) (v := ?_) rfl (by kernel_rfl) (by kernel_rfl) (by kernel_rfl) (fun _ _ _ h => h) (Or.inl ⟨by kernel_rfl, ?_⟩) (HCS2.out _ HK.out) ?_
             rotate_left
             · (intro wq _; first | (go_simp; done) | (go_simp; with_reducible rfl))
             try simp only [List.getElem_toArray, List.getElem_cons_zero, List.getElem_cons_succ, Act.put, List.setIfInBounds_toArray, List.set_cons_zero, List.set_cons_succ])
          | (go_at_call 24
             refine (ex_after2 (.agg #[.map (some b0)]) 0 (some ⟨V, 0, none⟩) 2 ⟨some ⟨N0, 0, none⟩, none, none, none, 1, 0, 0, 0⟩ ⟨none, none, none, none, 0, 0, 0, 0⟩ wc (HE.out.ext (HK1.out.trans HK.out)) (Or.inr ⟨b0, A0, rfl, HN.out⟩) (HPK2.out _ V HK.out HV.out) (by omega)).mono ?_
             rintro E wn ⟨⟨c2, M2, rfl, hm⟩, hx⟩
             try replace HN := Lib.hid (HN.out.ext hx)
             try replace HC := Lib.hid (HC.out.ext hx)
             try replace HV := Lib.hid (hx.heap HV.out)
             try replace H8 := Lib.hid (hx.heap H8.out)
             try replace H9 := Lib.hid (hx.heap H9.out)
             replace HK := Lib.hid (HK.out.trans hx)
             have HC := Lib.hid hm
             clear hm
             clear hx
             go_wp2_with fail
             refine hK.out _ _ (HCS2.out _ HK.out) (fun _ => ?_)
             clear hK K
             obtain ⟨wc, rfl⟩ : ∃ x : World, x = wn := ⟨_, rfl⟩
             try simp only [List.getElem_toArray, List.getElem_cons_zero, List.getElem_cons_succ, Act.put, List.setIfInBounds_toArray, List.set_cons_zero, List.set_cons_succ]
             refine wpAnyH_take (i := 6) (v := ?_) rfl (by kernel_rfl) (by kernel_rfl) (by kernel_rfl) (fun _ _ _ h => h) (Or.inl ⟨by kernel_rfl, ?_⟩) (HCS2.out _ HK.out) ?_
             rotate_left
             · (intro wq _; first | (go_simp; done) | (go_simp; with_reducible rfl))
             try simp only [List.getElem_toArray, List.getElem_cons_zero, List.getElem_cons_succ, Act.put, List.setIfInBounds_toArray, List.set_cons_zero, List.set_cons_succ]
             refine wpAnyH_take (i := 7) (v := ?_) rfl (by kernel_rfl) (by kernel_rfl) (by kernel_rfl) (fun _ _ _ h => h) (Or.inl ⟨by kernel_rfl, ?_⟩) (HCS2.out _ HK.out) ?_
             rotate_left
             · (intro wq _; first | (go_simp; done) | (go_simp; with_reducible rfl))
             try simp only [List.getElem_toArray, List.getElem_cons_zero, List.getElem_cons_succ, Act.put, List.setIfInBounds_toArray, List.set_cons_zero, List.set_cons_succ]
             refine wpAnyH_take (i := 8) (v := ?_) rfl (by kernel_rfl) (by kernel_rfl) (by kernel_rfl) (fun _ _ _ h => h) (Or.inl ⟨by kernel_rfl, ?_⟩) (HCS2.out _ HK.out) ?_
             rotate_left
             · (intro wq _; first | (go_simp; done) | (go_simp; with_reducible rfl))
             try simp only [List.getElem_toArray, List.getElem_cons_zero, List.getElem_cons_succ, Act.put, List.setIfInBounds_toArray, List.set_cons_zero, List.set_cons_succ])
          | (have hx := Ext.alloc wc (.cells #[.map none] 42)
             have hbn := heap_alloc_new wc (.cells #[.map none] 42)
             have hle := HK.out.size
             refine hK.out _ (wc.alloc (.cells #[.map none] 42)) (HCS2.out _ (HK.out.trans hx)) (fun _ => ?_)
             clear hK K
             try replace HN := Lib.hid (HN.out.ext hx)
             try replace HC := Lib.hid (HC.out.ext hx)
             try replace HV := Lib.hid (hx.heap HV.out)
             try replace H8 := Lib.hid (hx.heap H8.out)
             try replace H9 := Lib.hid (hx.heap H9.out)
             replace HK := Lib.hid (HK.out.trans hx)
             obtain ⟨B8, hB⟩ : ∃ x, x = wc.heap.size := ⟨_, rfl⟩
             rw [← hB] at hbn hle ⊢
             have H8 := Lib.hid hbn
             have LH8 := Lib.hid hle
             clear hbn hB hle hx
             generalize wc.alloc (.cells #[.map none] 42) = wc at *
             try simp only [List.getElem_toArray, List.getElem_cons_zero, List.getElem_cons_succ, Act.put, List.setIfInBounds_toArray, List.set_cons_zero, List.set_cons_succ])
          | (have hx := Ext.alloc wc (.cells #[.int .i64 0, .string ⟨#[]⟩, .string ⟨#[]⟩] 63)
             have hbn := heap_alloc_new wc (.cells #[.int .i64 0, .string ⟨#[]⟩, .string ⟨#[]⟩] 63)
             have hle := HK.out.size
             refine hK.out _ (wc.alloc (.cells #[.int .i64 0, .string ⟨#[]⟩, .string ⟨#[]⟩] 63)) (HCS2.out _ (HK.out.trans hx)) (fun _ => ?_)
             clear hK K
             try replace HN := Lib.hid (HN.out.ext hx)
             try replace HC := Lib.hid (HC.out.ext hx)
             try replace HV := Lib.hid (hx.heap HV.out)
             try replace H8 := Lib.hid (hx.heap H8.out)
             try replace H9 := Lib.hid (hx.heap H9.out)
             replace HK := Lib.hid (HK.out.trans hx)
             obtain ⟨B9, hB⟩ : ∃ x, x = wc.heap.size := ⟨_, rfl⟩
             rw [← hB] at hbn hle ⊢
             have H9 := Lib.hid hbn
             have LH9 := Lib.hid hle
             clear hbn hB hle hx
             generalize wc.alloc (.cells #[.int .i64 0, .string ⟨#[]⟩, .string ⟨#[]⟩] 63) = wc at *
             try simp only [List.getElem_toArray, List.getElem_cons_zero, List.getElem_cons_succ, Act.put, List.setIfInBounds_toArray, List.set_cons_zero, List.set_cons_succ]))
      all_goals (
        first
          | refine wpAnyH_ready (rs := [9, 10]) (by decide +kernel) (by simp) ?_
          | refine wpAnyH_ready (rs := [5, 10]) (by decide +kernel) (by simp) ?_
          | refine wpAnyH_ready (rs := [5, 9]) (by decide +kernel) (by simp) ?_
          | refine wpAnyH_ready (rs := [3]) (by decide +kernel) (by simp) ?_
          | refine wpAnyH_ready (rs := [0]) (by decide +kernel) (by simp) ?_
        repeat' (first | exact AllReadyH.nil | (refine AllReadyH.cons rfl (fun K hK => ?_) ?_)))
      all_goals (
        go_simp
        first
          | (go_at_call 13
             refine (ex_new _).mono ?_
             rintro E wn ⟨⟨b0, A0, rfl, hm⟩, hx⟩
             try replace HN := Lib.hid (HN.out.ext hx)
             try replace HC := Lib.hid (HC.out.ext hx)
             try replace HV := Lib.hid (hx.heap HV.out)
             try replace H8 := Lib.hid (hx.heap H8.out)
             try replace H9 := Lib.hid (hx.heap H9.out)
             replace HK := Lib.hid (HK.out.trans hx)
             have HN := Lib.hid hm
             clear hm hx
             go_wp2_with fail
             refine hK.out _ _ (HCS2.out _ HK.out) (fun _ => ?_)
             clear hK K
             obtain ⟨wc, rfl⟩ : ∃ x : World, x = wn := ⟨_, rfl⟩
             try simp only [List.getElem_toArray, List.getElem_cons_zero, List.getElem_cons_succ, Act.put, List.setIfInBounds_toArray, List.set_cons_zero, List.set_cons_succ])
          | (have hx := Ext.alloc wc (.cells #[.string ⟨#[97]⟩, .string ⟨#[49]⟩, .slice (some ⟨N0, 0, none⟩) 1 1, .slice none 0 0, .slice none 0 0, .slice none 0 0, .string ⟨#[98]⟩, .string ⟨#[50]⟩, .slice none 0 0, .slice none 0 0, .slice none 0 0, .slice none 0 0] 31)
             have hbn := heap_alloc_new wc (.cells #[.string ⟨#[97]⟩, .string ⟨#[49]⟩, .slice (some ⟨N0, 0, none⟩) 1 1, .slice none 0 0, .slice none 0 0, .slice none 0 0, .string ⟨#[98]⟩, .string ⟨#[50]⟩, .slice none 0 0, .slice none 0 0, .slice none 0 0, .slice none 0 0] 31)
             have hle := HK.out.size
             refine hK.out _ (wc.alloc (.cells #[.string ⟨#[97]⟩, .string ⟨#[49]⟩, .slice (some ⟨N0, 0, none⟩) 1 1, .slice none 0 0, .slice none 0 0, .slice none 0 0, .string ⟨#[98]⟩, .string ⟨#[50]⟩, .slice none 0 0, .slice none 0 0, .slice none 0 0, .slice none 0 0] 31)) (HCS2.out _ (HK.out.trans hx)) (fun _ => ?_)
             clear hK K
             try replace HN := Lib.hid (HN.out.ext hx)
             try replace HC := Lib.hid (HC.out.ext hx)
             try replace HV := Lib.hid (hx.heap HV.out)
             try replace H8 := Lib.hid (hx.heap H8.out)
             try replace H9 := Lib.hid (hx.heap H9.out)
             replace HK := Lib.hid (HK.out.trans hx)
             obtain ⟨V, hB⟩ : ∃ x, x = wc.heap.size := ⟨_, rfl⟩
             rw [← hB] at hbn hle ⊢
             have HV := Lib.hid hbn
             have LHV := Lib.hid hle
             clear hbn hB hle hx
             generalize wc.alloc (.cells #[.string ⟨#[97]⟩, .string ⟨#[49]⟩, .slice (some ⟨N0, 0, none⟩) 1 1, .slice none 0 0, .slice none 0 0, .slice none 0 0, .string ⟨#[98]⟩, .string ⟨#[50]⟩, .slice none 0 0, .slice none 0 0, .slice none 0 0, .slice none 0 0] 31) = wc at *
             try simp only [List.getElem_toArray, List.getElem_cons_zero, List.getElem_cons_succ, Act.put, List.setIfInBounds_toArray, List.set_cons_zero, List.set_cons_succ]
             refine wpAnyH_take (i := 4) (v := ?_) rfl (by kernel_rfl) (by kernel_rfl) (by kernel_rfl) (fun _ _ _ h => h) (Or.inl ⟨by kernel_rfl, ?_⟩) (HCS2.out _ HK.out) ?_
             rotate_left
             · (intro wq _; first | (go_simp; done) | (go_simp; with_reducible rfl))
             try simp only [List.getElem_toArray, List.getElem_cons_zero, List.getElem_cons_succ, Act.put, List.setIfInBounds_toArray, List.set_cons_zero, List.set_cons_succ])
          | (go_at_call 24
             refine (ex_after2 (.agg #[.map (some b0)]) 0 (some ⟨V, 0, none⟩) 2 ⟨some ⟨N0, 0, none⟩, none, none, none, 1, 0, 0, 0⟩ ⟨none, none, none, none, 0, 0, 0, 0⟩ wc (HE.out.ext (HK1.out.trans HK.out)) (Or.inr ⟨b0, A0, rfl, HN.out⟩) (HPK2.out _ V HK.out HV.out) (by omega)).mono ?_
             rintro E wn ⟨⟨c2, M2, rfl, hm⟩, hx⟩
             try replace HN := Lib.hid (HN.out.ext hx)
             try replace HC := Lib.hid (HC.out.ext hx)
             try replace HV := Lib.hid (hx.heap HV.out)
             try replace H8 := Lib.hid (hx.heap H8.out)
             try replace H9 := Lib.hid (hx.heap H9.out)
             replace HK := Lib.hid (HK.out.trans hx)
             have HC := Lib.hid hm
             clear hm
             clear hx
             go_wp2_with fail
             refine hK.out _ _ (HCS2.out _ HK.out) (fun _ => ?_)
             clear hK K
             obtain ⟨wc, rfl⟩ : ∃ x : World, x = wn := ⟨_, rfl⟩
             try simp only [List.getElem_toArray, List.getElem_cons_zero, List.getElem_cons_succ, Act.put, List.setIfInBounds_toArray, List.set_cons_zero, List.set_cons_succ]
             refine wpAnyH_take (i := 6) (v := ?_) rfl (by kernel_rfl) (by kernel_rfl) (by kernel_rfl) (fun _ _ _ h => h) (Or.inl ⟨by kernel_rfl, ?_⟩) (HCS2.out _ HK.out) ?_
             rotate_left
             · (intro wq _; first | (go_simp; done) | (go_simp; with_reducible rfl))
             try simp only [List.getElem_toArray, List.getElem_cons_zero, List.getElem_cons_succ, Act.put, List.setIfInBounds_toArray, List.set_cons_zero, List.set_cons_succ]
             refine wpAnyH_take (i := 7) (v := ?_) rfl (by kernel_rfl) (by kernel_rfl) (by kernel_rfl) (fun _ _ _ h => h) (Or.inl ⟨by kernel_rfl, ?_⟩) (HCS2.out _ HK.out) ?_
             rotate_left
             · (intro wq _; first | (go_simp; done) | (go_simp; with_reducible rfl))
             try simp only [List.getElem_toArray, List.getElem_cons_zero, List.getElem_cons_succ, Act.put, List.setIfInBounds_toArray, List.set_cons_zero, List.set_cons_succ]
             refine wpAnyH_take (i := 8) (v := ?_) rfl (by kernel_rfl) (by kernel_rfl) (by kernel_rfl) (fun _ _ _ h => h) (Or.inl ⟨by kernel_rfl, ?_⟩) (HCS2.out _ HK.out) ?_
             rotate_left
             · (intro wq _; first | (go_simp; done) | (go_simp; with_reducible rfl))
             try simp only [List.getElem_toArray, List.getElem_cons_zero, List.getElem_cons_succ, Act.put, List.setIfInBounds_toArray, List.set_cons_zero, List.set_cons_succ])
          | (have hx := Ext.alloc wc (.cells #[.map none] 42)
             have hbn := heap_alloc_new wc (.cells #[.map none] 42)
             have hle := HK.out.size
             refine hK.out _ (wc.alloc (.cells #[.map none] 42)) (HCS2.out _ (HK.out.trans hx)) (fun _ => ?_)
             clear hK K
             try replace HN := Lib.hid (HN.out.ext hx)
             try replace HC := Lib.hid (HC.out.ext hx)
             try replace HV := Lib.hid (hx.heap HV.out)
             try replace H8 := Lib.hid (hx.heap H8.out)
             try replace H9 := Lib.hid (hx.heap H9.out)
             replace HK := Lib.hid (HK.out.trans hx)
             obtain ⟨B8, hB⟩ : ∃ x, x = wc.heap.size := ⟨_, rfl⟩
             rw [← hB] at hbn hle ⊢
             have H8 := Lib.hid hbn
             have LH8 := Lib.hid hle
             clear hbn hB hle hx
             generalize wc.alloc (.cells #[.map none] 42) = wc at *
             try simp only [List.getElem_toArray, List.getElem_cons_zero, List.getElem_cons_succ, Act.put, List.setIfInBounds_toArray, List.set_cons_zero, List.set_cons_succ])
          | (have hx := Ext.alloc wc (.cells #[.int .i64 0, .string ⟨#[]⟩, .string ⟨#[]⟩] 63)
             have hbn := heap_alloc_new wc (.cells #[.int .i64 0, .string ⟨#[]⟩, .string ⟨#[]⟩] 63)
             have hle := HK.out.size
             refine hK.out _ (wc.alloc (.cells #[.int .i64 0, .string ⟨#[]⟩, .string ⟨#[]⟩] 63)) (HCS2.out _ (HK.out.trans hx)) (fun _ => ?_)
             clear hK K
             try replace HN := Lib.hid (HN.out.ext hx)
             try replace HC := Lib.hid (HC.out.ext hx)
             try replace HV := Lib.hid (hx.heap HV.out)
             try replace H8 := Lib.hid (hx.heap H8.out)
             try replace H9 := Lib.hid (hx.heap H9.out)
             replace HK := Lib.hid (HK.out.trans hx)
             obtain ⟨B9, hB⟩ : ∃ x, x = wc.heap.size := ⟨_, rfl⟩
             rw [← hB] at hbn hle ⊢
             have H9 := Lib.hid hbn
             have LH9 := Lib.hid hle
             clear hbn hB hle hx
             generalize wc.alloc (.cells #[.int .i64 0, .string ⟨#[]⟩, .string ⟨#[]⟩] 63) = wc at *
             try simp only [List.getElem_toArray, List.getElem_cons_zero, List.getElem_cons_succ, Act.put, List.setIfInBounds_toArray, List.set_cons_zero, List.set_cons_succ]))
      all_goals (
        first
          | refine wpAnyH_ready (rs := [10]) (by decide +kernel) (by simp) ?_
          | refine wpAnyH_ready (rs := [9]) (by decide +kernel) (by simp) ?_
          | refine wpAnyH_ready (rs := [5]) (by decide +kernel) (by simp) ?_
        repeat' (first | exact AllReadyH.nil | (refine AllReadyH.cons rfl (fun K hK => ?_) ?_)))
      all_goals (
        go_simp
        first
          | (go_at_call 24
             refine (ex_after2 (.agg #[.map (some b0)]) 0 (some ⟨V, 0, none⟩) 2 ⟨some ⟨N0, 0, none⟩, none, none, none, 1, 0, 0, 0⟩ ⟨none, none, none, none, 0, 0, 0, 0⟩ wc (HE.out.ext (HK1.out.trans HK.out)) (Or.inr ⟨b0, A0, rfl, HN.out⟩) (HPK2.out _ V HK.out HV.out) (by omega)).mono ?_
             rintro E wn ⟨⟨c2, M2, rfl, hm⟩, hx⟩
             try replace HN := Lib.hid (HN.out.ext hx)
             try replace HC := Lib.hid (HC.out.ext hx)
             try replace HV := Lib.hid (hx.heap HV.out)
             try replace H8 := Lib.hid (hx.heap H8.out)
             try replace H9 := Lib.hid (hx.heap H9.out)
             replace HK := Lib.hid (HK.out.trans hx)
             have HC := Lib.hid hm
             clear hm
             clear hx
             go_wp2_with fail
             refine hK.out _ _ (HCS2.out _ HK.out) (fun _ => ?_)
             clear hK K
             obtain ⟨wc, rfl⟩ : ∃ x : World, x = wn := ⟨_, rfl⟩
             try simp only [List.getElem_toArray, List.getElem_cons_zero, List.getElem_cons_succ, Act.put, List.setIfInBounds_toArray, List.set_cons_zero, List.set_cons_succ]
             refine wpAnyH_take (i := 6) (v := ?_) rfl (by kernel_rfl) (by kernel_rfl) (by kernel_rfl) (fun _ _ _ h => h) (Or.inl ⟨by kernel_rfl, ?_⟩) (HCS2.out _ HK.out) ?_
             rotate_left
             · (intro wq _; first | (go_simp; done) | (go_simp; with_reducible rfl))
             try simp only [List.getElem_toArray, List.getElem_cons_zero, List.getElem_cons_succ, Act.put, List.setIfInBounds_toArray, List.set_cons_zero, List.set_cons_succ]
             refine wpAnyH_take (i := 7) (v := ?_) rfl (by kernel_rfl) (by kernel_rfl) (by kernel_rfl) (fun _ _ _ h => h) (Or.inl ⟨by kernel_rfl, ?_⟩) (HCS2.out _ HK.out) ?_
             rotate_left
             · (intro wq _; first | (go_simp; done) | (go_simp; with_reducible rfl))
             try simp only [List.getElem_toArray, List.getElem_cons_zero, List.getElem_cons_succ, Act.put, List.setIfInBounds_toArray, List.set_cons_zero, List.set_cons_succ]
             refine wpAnyH_take (i := 8) (v := ?_) rfl (by kernel_rfl) (by kernel_rfl) (by kernel_rfl) (fun _ _ _ h => h) (Or.inl ⟨by kernel_rfl, ?_⟩) (HCS2.out _ HK.out) ?_
             rotate_left
             · (intro wq _; first | (go_simp; done) | (go_simp; with_reducible rfl))
             try simp only [List.getElem_toArray, List.getElem_cons_zero, List.getElem_cons_succ, Act.put, List.setIfInBounds_toArray, List.set_cons_zero, List.set_cons_succ])
          | (have hx := Ext.alloc wc (.cells #[.map none] 42)
             have hbn := heap_alloc_new wc (.cells #[.map none] 42)
             have hle := HK.out.size
             refine hK.out _ (wc.alloc (.cells #[.map none] 42)) (HCS2.out _ (HK.out.trans hx)) (fun _ => ?_)
             clear hK K
             try replace HN := Lib.hid (HN.out.ext hx)
             try replace HC := Lib.hid (HC.out.ext hx)
             try replace HV := Lib.hid (hx.heap HV.out)
             try replace H8 := Lib.hid (hx.heap H8.out)
             try replace H9 := Lib.hid (hx.heap H9.out)
             replace HK := Lib.hid (HK.out.trans hx)
             obtain ⟨B8, hB⟩ : ∃ x, x = wc.heap.size := ⟨_, rfl⟩
             rw [← hB] at hbn hle ⊢
             have H8 := Lib.hid hbn
             have LH8 := Lib.hid hle
             clear hbn hB hle hx
             generalize wc.alloc (.cells #[.map none] 42) = wc at *
             try simp only [List.getElem_toArray, List.getElem_cons_zero, List.getElem_cons_succ, Act.put, List.setIfInBounds_toArray, List.set_cons_zero, List.set_cons_succ])
          | (have hx := Ext.alloc wc (.cells #[.int .i64 0, .string ⟨#[]⟩, .string ⟨#[]⟩] 63)
             have hbn := heap_alloc_new wc (.cells #[.int .i64 0, .string ⟨#[]⟩, .string ⟨#[]⟩] 63)
             have hle := HK.out.size
             refine hK.out _ (wc.alloc (.cells #[.int .i64 0, .string ⟨#[]⟩, .string ⟨#[]⟩] 63)) (HCS2.out _ (HK.out.trans hx)) (fun _ => ?_)
             clear hK K
             try replace HN := Lib.hid (HN.out.ext hx)
             try replace HC := Lib.hid (HC.out.ext hx)
             try replace HV := Lib.hid (hx.heap HV.out)
             try replace H8 := Lib.hid (hx.heap H8.out)
             try replace H9 := Lib.hid (hx.heap H9.out)
             replace HK := Lib.hid (HK.out.trans hx)
             obtain ⟨B9, hB⟩ : ∃ x, x = wc.heap.size := ⟨_, rfl⟩
             rw [← hB] at hbn hle ⊢
             have H9 := Lib.hid hbn
             have LH9 := Lib.hid hle
             clear hbn hB hle hx
             generalize wc.alloc (.cells #[.int .i64 0, .string ⟨#[]⟩, .string ⟨#[]⟩] 63) = wc at *
             try simp only [List.getElem_toArray, List.getElem_cons_zero, List.getElem_cons_succ, Act.put, List.setIfInBounds_toArray, List.set_cons_zero, List.set_cons_succ]))
      all_goals (
        refine wpAnyH_ready (rs := [11]) (by kernel_rfl) (by simp) ?_
        refine AllReadyH.cons rfl (fun K hK => ?_) AllReadyH.nil
        have n0 := blk_cell H8.out 0 (Value.map none) rfl
        have g0 := blk_free H8.out 0
        have hne : B9 ≠ B8 := by intro e; have h := H9.out; rw [e, H8.out] at h; cases h
        go_simp
        have hk8 : Keep (· ≠ B8) wc (wc.setCell ⟨B8, 0, none⟩ (.map (some c2))) := (Keep.refl _ _).setCell (fun _ h => h) 0 _
        have h8n : (wc.setCell ⟨B8, 0, none⟩ (.map (some c2))).heap[B8]? = some (.cells #[.map (some c2)] 42 (0, 0)) := by have h := setCell_row H8.out (i := 0) (.map (some c2)); simpa using h
        have h9n := hk8.heap (g := B9) hne H9.out
        have hkn : Ext w2 (wc.setCell ⟨B8, 0, none⟩ (.map (some c2))) := ((Keep.of_ext (S := fun j => j < w2.heap.size) HK.out).andThen hk8 (fun j hj _ => by have := LH8.out; show j ≠ B8; omega)).ext_lt
        have hcn := HC.out.keep hk8 H8.out
        clear n0 g0 hk8
        generalize (wc.setCell ⟨B8, 0, none⟩ (.map (some c2))) = ws at h8n h9n hkn hcn ⊢
        replace H8 := Lib.hid h8n; clear h8n
        replace H9 := Lib.hid h9n; clear h9n
        replace HK := Lib.hid hkn; clear hkn
        replace HC := Lib.hid hcn; clear hcn
        refine hK.out _ _ (HCS2.out _ HK.out) (fun _ => ?_)
        clear hK K
        obtain ⟨wc, rfl⟩ : ∃ x : World, x = ws := ⟨_, rfl⟩
        try simp only [List.getElem_toArray, List.getElem_cons_zero, List.getElem_cons_succ, Act.put, List.setIfInBounds_toArray, List.set_cons_zero, List.set_cons_succ])
      all_goals (
        refine wpAnyH_ready (rs := [12]) (by kernel_rfl) (by simp) ?_
        refine AllReadyH.cons rfl (fun K hK => ?_) AllReadyH.nil
        have n0 := blk_cell H9.out 0 (Value.int .i64 0) rfl
        have n1 := blk_cell H9.out 1 (Value.string ⟨#[]⟩) rfl
        have n2 := blk_cell H9.out 2 (Value.string ⟨#[]⟩) rfl
        have g0 := blk_free H9.out 0
        have g1 := blk_free H9.out 1
        have g2 := blk_free H9.out 2
        go_simp
        obtain ⟨hs6, hbut⟩ := set3f H9.out (.int .i64 0) (.string ⟨#[]⟩) (.string ⟨#[]⟩)
        have h8n := (Keep.of_but hbut).heap (g := B8) (fun e => hne e.symm) H8.out
        have hkn : Ext w2 (((wc.setCell ⟨B9, 0, none⟩ (.int .i64 0)).setCell ⟨B9, 1, none⟩ (.string ⟨#[]⟩)).setCell ⟨B9, 2, none⟩ (.string ⟨#[]⟩)) := ((Keep.of_ext (S := fun j => j < w2.heap.size) HK.out).andThen (Keep.of_but hbut) (fun j hj _ => by have := LH9.out; show j ≠ B9; omega)).ext_lt
        have hcn : EntsM (((wc.setCell ⟨B9, 0, none⟩ (.int .i64 0)).setCell ⟨B9, 1, none⟩ (.string ⟨#[]⟩)).setCell ⟨B9, 2, none⟩ (.string ⟨#[]⟩)) c2 (0 + 2) fAB M2 := by rw [setCell_id (i := 0) (v := .int .i64 0) H9.out rfl, setCell_id (i := 1) (v := .string ⟨#[]⟩) H9.out rfl, setCell_id (i := 2) (v := .string ⟨#[]⟩) H9.out rfl]; exact HC.out
        clear n0 g0 n1 g1 n2 g2 hbut hne
        generalize (((wc.setCell ⟨B9, 0, none⟩ (.int .i64 0)).setCell ⟨B9, 1, none⟩ (.string ⟨#[]⟩)).setCell ⟨B9, 2, none⟩ (.string ⟨#[]⟩)) = wt at hs6 h8n hkn hcn ⊢
        replace H8 := Lib.hid h8n; clear h8n
        replace H9 := Lib.hid hs6; clear hs6
        replace HK := Lib.hid hkn; clear hkn
        replace HC := Lib.hid hcn; clear hcn
        refine hK.out _ _ (HCS2.out _ HK.out) (fun _ => ?_)
        clear hK K
        try simp only [List.getElem_toArray, List.getElem_cons_zero, List.getElem_cons_succ, Act.put, List.setIfInBounds_toArray, List.set_cons_zero, List.set_cons_succ])
      all_goals (
        refine wpAnyH_done (by kernel_rfl) ?_ _
        refine NoPanic.normal ?_
        go_wp2_with fail
        go_meet
        exact ⟨B8, B9, c2, M2, rfl, rfl, H8, H9, HC, HK⟩)
    case rest =>
      obtain ⟨B4, B5, c2, M2, rfl, rfl, hb4, hb5, hc, hx⟩ := hcut
      obtain ⟨w3, rfl⟩ : ∃ w3 : World, w3 = wc := ⟨_, rfl⟩
      have HK2 := Lib.hid hx.out; clear hx HK
      have d4 := blk_cell hb4.out 0 (Value.map (some c2)) rfl
      have hst := fun W (h : W = w3.alloc (.cells #[.string ⟨#[98]⟩] 9)) => ex_after3 c2 2 M2 (some ⟨w3.heap.size, 0, none⟩) 1 W (by rw [h]; exact HE.out.ext (HK1.out.trans (HK2.out.trans (Ext.alloc _ _)))) (by rw [h]; exact hc.out.ext (Ext.alloc _ _)) (by
        rw [h]
        refine Or.inr ⟨w3.heap.size, 0, rfl, by simp, fun i hi => ?_⟩
        have : i = 0 := by simpa using hi
        subst this
        exact cell_new w3 _ _ 0 _ rfl) (by omega)
      have HST := Lib.hid hst; clear hst
      go_upto_region 5 with (first
        | (go_at_call 24; refine (HST.out _ rfl).mono ?_; rintro E w4 ⟨rfl, hx4⟩; unfold failV; have HX4 := Lib.hid ((Ext.alloc w3 _).trans hx4); clear hx4))
      clear d4 HST
      have hx5 : Ext w4 ((w4.alloc (.cells #[.map none] 42)).alloc (.cells #[.int .i64 16, .string ⟨#[97]⟩, .string ⟨#[98]⟩] 63)) := (Ext.alloc _ _).trans (Ext.alloc _ _)
      have hf5 := heap_alloc_new (w4.alloc (.cells #[.map none] 42)) (.cells #[.int .i64 16, .string ⟨#[97]⟩, .string ⟨#[98]⟩] 63)
      rw [World.size_alloc] at hf5
      generalize (w4.alloc (.cells #[.map none] 42)).alloc (.cells #[.int .i64 16, .string ⟨#[97]⟩, .string ⟨#[98]⟩] 63) = w5 at hx5 hf5 ⊢
      have HX5 := Lib.hid (HX4.out.trans hx5); clear hx5
      have hb2' := (HK2.out.trans HX5.out).heap hb2.out
      have hb3' := (HK2.out.trans HX5.out).heap hb3.out
      have hb4' := HX5.out.heap hb4.out
      have hb5' := HX5.out.heap hb5.out
      have r2 := blk_cell hb2' 0 (Value.map none) rfl
      have r30 := blk_cell hb3' 0 (Value.int .i64 16) rfl
      have r31 := blk_cell hb3' 1 (Value.string ⟨#[97]⟩) rfl
      have r32 := blk_cell hb3' 2 (Value.string ⟨#[98]⟩) rfl
      have HB4 := Lib.hid hb4'; have HB5 := Lib.hid hb5'; have HF5 := Lib.hid hf5
      have HC5 := Lib.hid (hc.out.ext HX5.out)
      clear hb2' hb3' hb4' hb5' hf5 hb2 hb3 hb4 hb5 hc
      go_wp2_with (first
        | (go_at_call 20; refine (no_names _).mono ?_; rintro E w6 ⟨rfl, hx6⟩; have r50 := blk_cell (hx6.heap HB5.out) 0 (Value.int .i64 0) rfl; have r51 := blk_cell (hx6.heap HB5.out) 1 (Value.string ⟨#[]⟩) rfl; have r52 := blk_cell (hx6.heap HB5.out) 2 (Value.string ⟨#[]⟩) rfl; have r4 := blk_cell (hx6.heap HB4.out) 0 (Value.map (some c2)) rfl; have HX6 := Lib.hid hx6; clear hx6)
        | (go_at_call 20; refine (ex_names c2 (0 + 2) M2 _ (HC5.out.ext HX6.out) (by omega)).mono ?_; rintro E w7 ⟨⟨na, nc, rfl⟩, hx7⟩; have r7 := blk_cell ((HX6.out.trans hx7).heap HF5.out) 0 (Value.int .i64 16) rfl; have r8 := blk_cell ((HX6.out.trans hx7).heap HB4.out) 0 (Value.map (some c2)) rfl; have HX7 := Lib.hid hx7; clear hx7)
        | (go_at_call 62; refine (ex_check c2 (0 + 2) M2 _ (HE.out.ext (HK1.out.trans (HK2.out.trans (HX5.out.trans (HX6.out.trans HX7.out))))) (HC5.out.ext (HX6.out.trans HX7.out)) (by omega)).mono ?_; rintro E w8 ⟨rfl, hx8⟩; have HX8 := Lib.hid hx8; clear hx8))
      rw [HR.out]
      exact ⟨rfl, HX1.out.trans (HK1.out.trans (HK2.out.trans (HX5.out.trans (HX6.out.trans (HX7.out.trans HX8.out)))))⟩
end Go.Proofs.YtnclibfhbngkjaaGreatDoor
