/- base.Same: whether two bases have the same packages. -/
import Derived.Test.YtnclibfhbngkjaaGreatDoorBasePack
namespace Go.Proofs.YtnclibfhbngkjaaGreatDoor
open Go.RowKit
attribute [local go_sem ↓] Go.wp_at_zero Go.wp_at_succ
theorem packs_small {f : BaseF} {ss : List By} (hg : GoodF f) (h : NamesF f ss) : ∀ l ∈ packsF f ss, l.length ≤ 100000 := by
  intro l hl
  obtain ⟨n, hn, rfl⟩ := List.mem_map.1 hl
  obtain ⟨e, he⟩ := Option.isSome_iff_exists.1 ((h.2.2 n).1 hn)
  have hge := hg n e he
  have := (packE_len hge.2.1 hge.2.2).1
  rw [he]
  simp only [Option.getD_some]
  omega
set_option maxRecDepth 100000 in
set_option maxHeartbeats 6400000 in
theorem base_same (u v : Value) (M N : Nat) (f g : BaseF) (w : World) (hu : BaseM w u M f) (hv : BaseM w v N g) (hf : GoodF f) (hg : GoodF g) (hM : M ≤ 100000) (hN : N ≤ 100000) :
    Calls Tryz.prog 16 #[u, v] w fun e w' => (∃ q, e = .returned (.bool q) ∧ (q = true ↔ f = g)) ∧ Ext w w' := by
  obtain ⟨R, hR⟩ : ∃ R : Ending → World → Prop, R = fun e w' => (∃ q, e = .returned (.bool q) ∧ (q = true ↔ f = g)) ∧ Ext w w' := ⟨_, rfl⟩
  rw [← hR]
  have HR := Lib.hid hR; clear hR
  obtain ⟨pm, A0, rfl, _⟩ := hu.parts
  obtain ⟨qm, A1, rfl, _⟩ := hv.parts
  have hx1 : Ext w ((w.alloc (.cells #[.map pm] 42)).alloc (.cells #[.map qm] 42)) := (Ext.alloc _ _).trans (Ext.alloc _ _)
  have hb1 := (Ext.alloc _ (.cells #[.map qm] 42)).heap (heap_alloc_new w (.cells #[.map pm] 42))
  have hc1 := heap_alloc_new (w.alloc (.cells #[.map pm] 42)) (.cells #[.map qm] 42)
  rw [World.size_alloc] at hc1
  go_enter Tryz.func16, Tryz.ntmps16
  go_upto_region 1 with (fail)
  generalize (w.alloc (.cells #[.map pm] 42)).alloc (.cells #[.map qm] 42) = w1 at hx1 hb1 hc1 ⊢
  obtain ⟨BX, hBX⟩ : ∃ x, x = w.heap.size := ⟨_, rfl⟩
  obtain ⟨BY, hBY⟩ : ∃ x, x = w.heap.size + 1 := ⟨_, rfl⟩
  rw [← hBY] at hc1
  rw [← hBX] at hb1
  rw [← hBY, ← hBX]
  clear hBX hBY
  have HU := Lib.hid (hu.ext hx1); clear hu
  have HV := Lib.hid (hv.ext hx1); clear hv
  have HG1 := Lib.hid hf; clear hf
  have HG2 := Lib.hid hg; clear hg
  have HX1 := Lib.hid hx1; clear hx1
  have hcs : ∀ W, Ext w1 W → W.cell? ⟨BX, 0, none⟩ = some (.map pm) ∧ W.cell? ⟨BY, 0, none⟩ = some (.map qm) := fun W k => ⟨blk_cell (k.heap hb1) 0 _ rfl, blk_cell (k.heap hc1) 0 _ rfl⟩
  have HCS := Lib.hid hcs; clear hcs hb1 hc1
  have HK := Lib.hid ((Ext.refl w1).drew)
  refine wp_region_noPanic ?_
  refine wp_region_held_drew (S := (fun W => W.cell? ⟨BX, 0, none⟩ = some (.map pm) ∧ W.cell? ⟨BY, 0, none⟩ = some (.map qm))) (by kernel_rfl) (HCS.out _ HK.out) (fun hHeld => ?_)
  clear hHeld
  generalize w1.drew = wc at HK ⊢
  refine wpAnyH_take (i := 0) (v := ?_) rfl (by kernel_rfl) (by kernel_rfl) (by kernel_rfl) (fun _ _ _ h => h) (Or.inl ⟨by kernel_rfl, ?_⟩) (HCS.out _ HK.out) ?_
  rotate_left
  · (intro wq hSw; (try dsimp only at hSw); first | (go_simp; done) | (go_simp; with_reducible rfl))
  try simp only [List.getElem_toArray, List.getElem_cons_zero, Act.put, List.setIfInBounds_toArray, List.set_cons_zero, List.set_cons_succ]
  refine wpAnyH_take (i := 2) (v := ?_) rfl (by kernel_rfl) (by kernel_rfl) (by kernel_rfl) (fun _ _ _ h => h) (Or.inl ⟨by kernel_rfl, ?_⟩) (HCS.out _ HK.out) ?_
  rotate_left
  · (intro wq hSw; (try dsimp only at hSw); first | (go_simp; done) | (go_simp; with_reducible rfl))
  try simp only [List.getElem_toArray, List.getElem_cons_zero, List.getElem_cons_succ, Act.put, List.setIfInBounds_toArray, List.set_cons_zero, List.set_cons_succ]
  all_goals (
    first
      | refine wpAnyH_ready (rs := [1]) (by decide +kernel) (by simp) ?_
    repeat' (first | exact AllReadyH.nil | (refine AllReadyH.cons rfl (fun K hK => ?_) ?_)))
  all_goals (
    go_simp
    first
      | (go_at_call 15
         refine (base_pack (.agg #[.map pm]) M f wc (HU.out.ext HK.out) HG1.out (by omega)).mono ?_
         rintro E wn ⟨a1, c1, s1, rfl, hns, hps, hls, hx⟩
         replace HK := Lib.hid (HK.out.trans hx)
         have HP1 := Lib.hid hps
         have HN1 := Lib.hid hns
         have HLS1 := Lib.hid hls
         clear hps hns hls hx
         go_wp2_with fail
         refine hK.out _ _ (HCS.out _ HK.out) (fun _ => ?_)
         clear hK K
         obtain ⟨wc, rfl⟩ : ∃ x : World, x = wn := ⟨_, rfl⟩
         try simp only [List.getElem_toArray, List.getElem_cons_zero, List.getElem_cons_succ, Act.put, List.setIfInBounds_toArray, List.set_cons_zero, List.set_cons_succ]))
  all_goals (
    first
      | refine wpAnyH_ready (rs := [3]) (by decide +kernel) (by simp) ?_
    repeat' (first | exact AllReadyH.nil | (refine AllReadyH.cons rfl (fun K hK => ?_) ?_)))
  all_goals (
    go_simp
    first
      | (go_at_call 15
         refine (base_pack (.agg #[.map qm]) N g wc (HV.out.ext HK.out) HG2.out (by omega)).mono ?_
         rintro E wn ⟨a2, c2, s2, rfl, hns, hps, hls, hx⟩
         replace HP1 := Lib.hid (HP1.out.ext hx)
         replace HK := Lib.hid (HK.out.trans hx)
         have HP2 := Lib.hid hps
         have HN2 := Lib.hid hns
         have HLS2 := Lib.hid hls
         clear hps hns hls hx
         go_wp2_with fail
         refine hK.out _ _ (HCS.out _ HK.out) (fun _ => ?_)
         clear hK K
         obtain ⟨wc, rfl⟩ : ∃ x : World, x = wn := ⟨_, rfl⟩
         try simp only [List.getElem_toArray, List.getElem_cons_zero, List.getElem_cons_succ, Act.put, List.setIfInBounds_toArray, List.set_cons_zero, List.set_cons_succ]
         refine wpAnyH_take (i := 4) (v := ?_) rfl (by kernel_rfl) (by kernel_rfl) (by kernel_rfl) (fun _ _ _ h => h) (Or.inl ⟨by kernel_rfl, ?_⟩) (HCS.out _ HK.out) ?_
         rotate_left
         · (intro wq _; first | (go_simp; done) | (go_simp; with_reducible rfl))
         try simp only [List.getElem_toArray, List.getElem_cons_zero, List.getElem_cons_succ, Act.put, List.setIfInBounds_toArray, List.set_cons_zero, List.set_cons_succ]
         refine wpAnyH_take (i := 5) (v := ?_) rfl (by kernel_rfl) (by kernel_rfl) (by kernel_rfl) (fun _ _ _ h => h) (Or.inl ⟨by kernel_rfl, ?_⟩) (HCS.out _ HK.out) ?_
         rotate_left
         · (intro wq _; first | (go_simp; done) | (go_simp; with_reducible rfl))
         try simp only [List.getElem_toArray, List.getElem_cons_zero, List.getElem_cons_succ, Act.put, List.setIfInBounds_toArray, List.set_cons_zero, List.set_cons_succ]))
  all_goals (
    refine wpAnyH_done (by kernel_rfl) ?_ _
    refine NoPanic.normal ?_
    go_wp2_with (go_at_call 55; have hre := rows_equal a1 a2 c1 c2 _ _ wc HP1.out HP2.out (packs_small HG1.out HN1.out) (packs_small HG2.out HN2.out) (by rw [packsF_len]; have := HLS1.out; omega) (by rw [packsF_len]; have := HLS2.out; omega); rw [packsF_len, packsF_len] at hre; refine hre.mono ?_; rintro E we ⟨rfl, hx⟩; have HXE := Lib.hid hx; clear hx hre)
    rw [HR.out]
    refine ⟨⟨_, rfl, ?_⟩, HX1.out.trans (HK.out.trans HXE.out)⟩
    rw [decide_eq_true_eq]
    exact packs_iff HG1.out HG2.out HN1.out HN2.out)
end Go.Proofs.YtnclibfhbngkjaaGreatDoor
