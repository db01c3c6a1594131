/- The walk of farrierlaw12.DepSplits. -/
import Derived.Test.YtnclibfhbngkjaaGreatDoorDepRuns
import Derived.Test.YtnclibfhbngkjaaGreatDoorM1
import Derived.Test.YtnclibfhbngkjaaGreatDoorDepAlive
import Derived.Deep.CutRange
namespace Go.Proofs.YtnclibfhbngkjaaGreatDoor
open Go.RowKit
attribute [local go_sem ↓] Go.wp_at_zero Go.wp_at_succ
set_option maxRecDepth 100000 in
set_option maxHeartbeats 25600000 in
/-- Two changes that may be done one behind the other, and that have no package in common, have the same end as both at once. -/
theorem dep_splits (a : Option Addr) (c : Nat) (L : List (ChD × ChA)) (xa xb : ChD × ChA) (w : World) (hE : EnvN w) (hL : ChL w a L) (hl : L.length ≤ 2932031007317) (hA : ChM w xa) (hB : ChM w xb) :
    Calls Tryz.prog 7 #[.slice a L.length c, .agg #[.slice xa.2.ca xa.1.come.length xa.2.cc, .slice xa.2.ga xa.1.go.length xa.2.gc], .agg #[.slice xb.2.ca xb.1.come.length xb.2.cc, .slice xb.2.ga xb.1.go.length xb.2.gc]] w fun e w' => e = .returned (.bool true) ∧ Ext w w' := by
  obtain ⟨R, hR⟩ : ∃ R : Ending → World → Prop, R = fun e w' => e = .returned (.bool true) ∧ Ext w w' := ⟨_, rfl⟩
  rw [← hR]
  have HR := Lib.hid hR; clear hR
  have HL := Lib.hid hL; clear hL
  have HE := Lib.hid hE; clear hE
  have HA := Lib.hid hA; clear hA
  have HB0 := Lib.hid hB; clear hB
  obtain ⟨n, hn⟩ : ∃ n, n = L.length := ⟨_, rfl⟩
  rw [← hn] at hl ⊢
  have HN := Lib.hid hn; clear hn
  obtain ⟨⟨comeA, goA⟩, ⟨ca, cca, ga, cga⟩⟩ := xa
  obtain ⟨⟨comeB, goB⟩, ⟨cb, ccb, gb, cgb⟩⟩ := xb
  simp only
  obtain ⟨na, hna⟩ : ∃ n, n = comeA.length := ⟨_, rfl⟩
  obtain ⟨ma, hma⟩ : ∃ n, n = goA.length := ⟨_, rfl⟩
  obtain ⟨nb, hnb⟩ : ∃ n, n = comeB.length := ⟨_, rfl⟩
  obtain ⟨mb, hmb⟩ : ∃ n, n = goB.length := ⟨_, rfl⟩
  rw [← hna, ← hma, ← hnb, ← hmb]
  have HLN := Lib.hid (And.intro hna (And.intro hma (And.intro hnb hmb))); clear hna hma hnb hmb
  go_enter Tryz.func7, Tryz.ntmps7
  go_upto_region 1 with (fail)
  have hx_w1 : Ext w ((w.alloc (.cells #[.slice ca na cca, .slice ga ma cga] 61)).alloc (.cells #[.slice cb nb ccb, .slice gb mb cgb] 61)) := ((Ext.alloc _ _).trans (Ext.alloc _ _))
  have hf_PA := (Ext.alloc (w.alloc (.cells #[.slice ca na cca, .slice ga ma cga] 61)) (.cells #[.slice cb nb ccb, .slice gb mb cgb] 61)).heap (heap_alloc_new w (.cells #[.slice ca na cca, .slice ga ma cga] 61))
  have hf_PB := heap_alloc_new (w.alloc (.cells #[.slice ca na cca, .slice ga ma cga] 61)) (.cells #[.slice cb nb ccb, .slice gb mb cgb] 61)
  simp only [World.size_alloc] at hf_PB
  generalize (w.alloc (.cells #[.slice ca na cca, .slice ga ma cga] 61)).alloc (.cells #[.slice cb nb ccb, .slice gb mb cgb] 61) = w1 at hx_w1 hf_PA hf_PB ⊢
  obtain ⟨PA, h_PA⟩ : ∃ x, x = w.heap.size := ⟨_, rfl⟩
  obtain ⟨PB, h_PB⟩ : ∃ x, x = w.heap.size + 1 := ⟨_, rfl⟩
  rw [← h_PB] at hf_PB
  rw [← h_PA] at hf_PA
  try rw [← h_PB, ← h_PA]
  have hs_PA : w.heap.size ≤ PA := by omega
  have hs_PB : w.heap.size ≤ PB := by omega
  clear h_PA h_PB
  have HFA := Lib.hid hf_PA; clear hf_PA
  have HFB := Lib.hid hf_PB; clear hf_PB
  have HX1 := Lib.hid hx_w1; clear hx_w1 hs_PA hs_PB
  go_upto_region 3 with (go_at_call 22; refine (alive12 _ (HE.out.ext HX1.out)).mono ?_; rintro E w2 ⟨rfl, hx2⟩; have HX2 := Lib.hid hx2; clear hx2)
  have hsm := fun a2 c2 W (k : ChL W a2 (L ++ [(⟨comeA, goA⟩, ⟨ca, cca, ga, cga⟩), (⟨comeB, goB⟩, ⟨cb, ccb, gb, cgb⟩)])) => dep_small a2 c2 _ W k (by rw [List.length_append, ← HN.out]; simp only [List.length_cons, List.length_nil]; omega)
  unfold SmallsR at hsm
  simp only [List.length_append, List.length_cons, List.length_nil] at hsm
  rw [← HN.out] at hsm
  obtain ⟨LL, hLL⟩ : ∃ LL, LL = L ++ [(⟨comeA, goA⟩, ⟨ca, cca, ga, cga⟩), (⟨comeB, goB⟩, ⟨cb, ccb, gb, cgb⟩)] := ⟨_, rfl⟩
  rw [← hLL] at hsm
  have HLL := Lib.hid hLL; clear hLL
  obtain ⟨sm, hsml⟩ : ∃ sm, sm = smallAll LL := ⟨_, rfl⟩
  rw [← hsml] at hsm
  obtain ⟨sv, hsv⟩ : ∃ sv : Int, sv = if sm then 1 else 0 := ⟨_, rfl⟩
  rw [← hsv] at hsm
  have HSV := Lib.hid hsv; clear hsv
  have HSML := Lib.hid hsml; clear hsml
  have HSM := Lib.hid hsm; clear hsm
  have hcs : ∀ W, Ext w2 W → (W.cell? ⟨PA, 0, none⟩ = some (.slice ca na cca) ∧ W.cell? ⟨PA, 1, none⟩ = some (.slice ga ma cga) ∧ W.cell? ⟨PB, 0, none⟩ = some (.slice cb nb ccb) ∧ W.cell? ⟨PB, 1, none⟩ = some (.slice gb mb cgb)) := fun W k => ⟨blk_cell ((HX2.out.trans k).heap HFA.out) 0 _ rfl, blk_cell ((HX2.out.trans k).heap HFA.out) 1 _ rfl, blk_cell ((HX2.out.trans k).heap HFB.out) 0 _ rfl, blk_cell ((HX2.out.trans k).heap HFB.out) 1 _ rfl⟩
  have HCS := Lib.hid hcs; clear hcs
  have HXW := Lib.hid (HX1.out.trans HX2.out)
  have HRU := Lib.hid (ch_run (HL.out.ext HXW.out)).1
  have hbase := Nat.le_refl w2.heap.size
  obtain ⟨S2, hS2⟩ : ∃ x, x = w2.heap.size := ⟨_, rfl⟩
  have HS2 := Lib.hid hS2; clear hS2 hbase
  have HK := Lib.hid ((Ext.refl w2).drew)
  go_cut [38] from 30 to 38 (fun v wx => v = .bool (sv == 0) ∧ Hid (Ext w2 wx))
  case first =>
    refine wp_region_noPanic ?_
    refine wp_region_held_drew (S := (fun W => W.cell? ⟨PA, 0, none⟩ = some (.slice ca na cca) ∧ W.cell? ⟨PA, 1, none⟩ = some (.slice ga ma cga) ∧ W.cell? ⟨PB, 0, none⟩ = some (.slice cb nb ccb) ∧ W.cell? ⟨PB, 1, none⟩ = some (.slice gb mb cgb))) (by kernel_rfl) (HCS.out _ HK.out) (fun hHeld => ?_)
    clear hHeld
    generalize w2.drew = wc at HK ⊢
    refine wpAnyH_take (i := 1) (v := ?_) rfl (by kernel_rfl) (by kernel_rfl) (by kernel_rfl) (fun _ _ _ h => h) (Or.inl ⟨by kernel_rfl, ?_⟩) (HCS.out _ HK.out) ?_
    rotate_left
    · (intro wq _; first | (go_simp; done) | (go_simp; with_reducible rfl))
    try simp only [List.getElem_toArray, List.getElem_cons_zero, List.getElem_cons_succ, Act.put, List.setIfInBounds_toArray, List.set_cons_zero, List.set_cons_succ]
    refine wpAnyH_take (i := 3) (v := ?_) rfl (by kernel_rfl) (by kernel_rfl) (by kernel_rfl) (fun _ _ _ h => h) (Or.inl ⟨by kernel_rfl, ?_⟩) (HCS.out _ HK.out) ?_
    rotate_left
    · (intro wq hSw; (try dsimp only at hSw); first | (go_simp; done) | (go_simp; with_reducible rfl))
    try simp only [List.getElem_toArray, List.getElem_cons_zero, List.getElem_cons_succ, Act.put, List.setIfInBounds_toArray, List.set_cons_zero, List.set_cons_succ]
    refine wpAnyH_take (i := 4) (v := ?_) rfl (by kernel_rfl) (by kernel_rfl) (by kernel_rfl) (fun _ _ _ h => h) (Or.inl ⟨by kernel_rfl, ?_⟩) (HCS.out _ HK.out) ?_
    rotate_left
    · (intro wq hSw; (try dsimp only at hSw); first | (go_simp; done) | (go_simp; with_reducible rfl))
    try simp only [List.getElem_toArray, List.getElem_cons_zero, List.getElem_cons_succ, Act.put, List.setIfInBounds_toArray, List.set_cons_zero, List.set_cons_succ]
    all_goals (
      first
        | refine wpAnyH_ready (rs := [0, 5]) (by decide +kernel) (by simp) ?_
      repeat' (first | exact AllReadyH.nil | (refine AllReadyH.cons rfl (fun K hK => ?_) ?_)))
    all_goals (
      first
        | (go_simp
           first
             | (have hx := Ext.alloc wc (.cells #[] 61)
                have hbn := heap_alloc_new wc (.cells #[] 61)
                have hle := HK.out.size
                refine hK.out _ (wc.alloc (.cells #[] 61)) (HCS.out _ (HK.out.trans hx)) (fun _ => ?_)
                clear hK K
                try replace HG0 := Lib.hid (hx.heap HG0.out)
                try replace HG := Lib.hid (hx.heap HG.out)
                try replace HO := Lib.hid (ownsRow_ext HO.out hx)
                replace HK := Lib.hid (HK.out.trans hx)
                obtain ⟨G0, hB⟩ : ∃ x, x = wc.heap.size := ⟨_, rfl⟩
                rw [← hB] at hbn hle ⊢
                have HG0 := Lib.hid hbn
                have LHG0 := Lib.hid hle
                clear hbn hB hle hx
                generalize wc.alloc (.cells #[] 61) = wc at *
                try simp only [List.getElem_toArray, List.getElem_cons_zero, List.getElem_cons_succ, Act.put, List.setIfInBounds_toArray, List.set_cons_zero, List.set_cons_succ])
             | (have hx := Ext.alloc wc (.cells #[.slice ca na cca, .slice ga ma cga, .slice cb nb ccb, .slice gb mb cgb] 61)
                have hbn := heap_alloc_new wc (.cells #[.slice ca na cca, .slice ga ma cga, .slice cb nb ccb, .slice gb mb cgb] 61)
                have hle := HK.out.size
                refine hK.out _ (wc.alloc (.cells #[.slice ca na cca, .slice ga ma cga, .slice cb nb ccb, .slice gb mb cgb] 61)) (HCS.out _ (HK.out.trans hx)) (fun _ => ?_)
                clear hK K
                try replace HG0 := Lib.hid (hx.heap HG0.out)
                try replace HG := Lib.hid (hx.heap HG.out)
                try replace HO := Lib.hid (ownsRow_ext HO.out hx)
                replace HK := Lib.hid (HK.out.trans hx)
                obtain ⟨G, hB⟩ : ∃ x, x = wc.heap.size := ⟨_, rfl⟩
                rw [← hB] at hbn hle ⊢
                have HG := Lib.hid hbn
                have LHG := Lib.hid hle
                clear hbn hB hle hx
                generalize wc.alloc (.cells #[.slice ca na cca, .slice ga ma cga, .slice cb nb ccb, .slice gb mb cgb] 61) = wc at *
                try simp only [List.getElem_toArray, List.getElem_cons_zero, List.getElem_cons_succ, Act.put, List.setIfInBounds_toArray, List.set_cons_zero, List.set_cons_succ])))
    all_goals (
      first
        | refine wpAnyH_ready (rs := [2, 5]) (by decide +kernel) (by simp) ?_
        | refine wpAnyH_ready (rs := [0]) (by decide +kernel) (by simp) ?_
      repeat' (first | exact AllReadyH.nil | (refine AllReadyH.cons rfl (fun K hK => ?_) ?_)))
    all_goals (
      first
        | (refine step_append_any (by rfl) _ _ 57 61 (.agg #[.slice none 0 0, .slice none 0 0]) 2 48 (by rfl) Tryz.underlying57 info_chg rfl (by decide) w2.heap.size (some ⟨G0, 0, none⟩) 0 0 [] (by simp [Act.eval]) (row_zero HG0.out LHG0.out) a n c (L.flatMap chV) (by simp [Act.eval]) (by rw [flat_lenm (m := 2) (fun _ => rfl), HN.out]) (by rcases HRU.out with h | ⟨g, off, ha, hg, hc⟩; exact Or.inl h; exact Or.inr ⟨g, off, ha, Nat.lt_of_lt_of_le hg HK.out.size, fun j u hj => HK.out.cell (hc j u hj)⟩) (chV_one L) (by omega) (by decide) HK.out.size n (by omega) ?_
           intro ad1 cap1 wn hown hkp hbl
           try have hgn : wn.heap[G]? = some (.cells #[.slice ca na cca, .slice ga ma cga, .slice cb nb ccb, .slice gb mb cgb] 61 (0, 0)) := hkp.heap (by intro e; have e := Option.some.inj e; subst e; have h := HG.out; rw [HG0.out] at h; cases h) HG.out
           try replace HG := Lib.hid hgn
           replace HK := Lib.hid (Ext.of_below' HK.out hbl)
           have HO := Lib.hid hown
           try clear hgn
           clear hown hkp hbl HG0 LHG0
           refine hK.out _ _ (HCS.out _ HK.out) (fun _ => ?_)
           clear hK K
           rename_i wo
           try clear wo
           obtain ⟨wc, rfl⟩ : ∃ x : World, x = wn := ⟨_, rfl⟩
           try simp only [List.getElem_toArray, List.getElem_cons_zero, List.getElem_cons_succ, Act.put, List.setIfInBounds_toArray, List.set_cons_zero, List.set_cons_succ])
        | (go_simp
           first
             | (have hx := Ext.alloc wc (.cells #[] 61)
                have hbn := heap_alloc_new wc (.cells #[] 61)
                have hle := HK.out.size
                refine hK.out _ (wc.alloc (.cells #[] 61)) (HCS.out _ (HK.out.trans hx)) (fun _ => ?_)
                clear hK K
                try replace HG0 := Lib.hid (hx.heap HG0.out)
                try replace HG := Lib.hid (hx.heap HG.out)
                try replace HO := Lib.hid (ownsRow_ext HO.out hx)
                replace HK := Lib.hid (HK.out.trans hx)
                obtain ⟨G0, hB⟩ : ∃ x, x = wc.heap.size := ⟨_, rfl⟩
                rw [← hB] at hbn hle ⊢
                have HG0 := Lib.hid hbn
                have LHG0 := Lib.hid hle
                clear hbn hB hle hx
                generalize wc.alloc (.cells #[] 61) = wc at *
                try simp only [List.getElem_toArray, List.getElem_cons_zero, List.getElem_cons_succ, Act.put, List.setIfInBounds_toArray, List.set_cons_zero, List.set_cons_succ])
             | (have hx := Ext.alloc wc (.cells #[.slice ca na cca, .slice ga ma cga, .slice cb nb ccb, .slice gb mb cgb] 61)
                have hbn := heap_alloc_new wc (.cells #[.slice ca na cca, .slice ga ma cga, .slice cb nb ccb, .slice gb mb cgb] 61)
                have hle := HK.out.size
                refine hK.out _ (wc.alloc (.cells #[.slice ca na cca, .slice ga ma cga, .slice cb nb ccb, .slice gb mb cgb] 61)) (HCS.out _ (HK.out.trans hx)) (fun _ => ?_)
                clear hK K
                try replace HG0 := Lib.hid (hx.heap HG0.out)
                try replace HG := Lib.hid (hx.heap HG.out)
                try replace HO := Lib.hid (ownsRow_ext HO.out hx)
                replace HK := Lib.hid (HK.out.trans hx)
                obtain ⟨G, hB⟩ : ∃ x, x = wc.heap.size := ⟨_, rfl⟩
                rw [← hB] at hbn hle ⊢
                have HG := Lib.hid hbn
                have LHG := Lib.hid hle
                clear hbn hB hle hx
                generalize wc.alloc (.cells #[.slice ca na cca, .slice ga ma cga, .slice cb nb ccb, .slice gb mb cgb] 61) = wc at *
                try simp only [List.getElem_toArray, List.getElem_cons_zero, List.getElem_cons_succ, Act.put, List.setIfInBounds_toArray, List.set_cons_zero, List.set_cons_succ])))
    all_goals (
      first
        | refine wpAnyH_ready (rs := [5]) (by decide +kernel) (by simp) ?_
        | refine wpAnyH_ready (rs := [2]) (by decide +kernel) (by simp) ?_
      repeat' (first | exact AllReadyH.nil | (refine AllReadyH.cons rfl (fun K hK => ?_) ?_)))
    all_goals (
      first
        | (refine step_append_any (by rfl) _ _ 57 61 (.agg #[.slice none 0 0, .slice none 0 0]) 2 48 (by rfl) Tryz.underlying57 info_chg rfl (by decide) w2.heap.size (some ⟨G0, 0, none⟩) 0 0 [] (by simp [Act.eval]) (row_zero HG0.out LHG0.out) a n c (L.flatMap chV) (by simp [Act.eval]) (by rw [flat_lenm (m := 2) (fun _ => rfl), HN.out]) (by rcases HRU.out with h | ⟨g, off, ha, hg, hc⟩; exact Or.inl h; exact Or.inr ⟨g, off, ha, Nat.lt_of_lt_of_le hg HK.out.size, fun j u hj => HK.out.cell (hc j u hj)⟩) (chV_one L) (by omega) (by decide) HK.out.size n (by omega) ?_
           intro ad1 cap1 wn hown hkp hbl
           try have hgn : wn.heap[G]? = some (.cells #[.slice ca na cca, .slice ga ma cga, .slice cb nb ccb, .slice gb mb cgb] 61 (0, 0)) := hkp.heap (by intro e; have e := Option.some.inj e; subst e; have h := HG.out; rw [HG0.out] at h; cases h) HG.out
           try replace HG := Lib.hid hgn
           replace HK := Lib.hid (Ext.of_below' HK.out hbl)
           have HO := Lib.hid hown
           try clear hgn
           clear hown hkp hbl HG0 LHG0
           refine hK.out _ _ (HCS.out _ HK.out) (fun _ => ?_)
           clear hK K
           rename_i wo
           try clear wo
           obtain ⟨wc, rfl⟩ : ∃ x : World, x = wn := ⟨_, rfl⟩
           try simp only [List.getElem_toArray, List.getElem_cons_zero, List.getElem_cons_succ, Act.put, List.setIfInBounds_toArray, List.set_cons_zero, List.set_cons_succ])
        | (go_simp
           first
             | (have hx := Ext.alloc wc (.cells #[.slice ca na cca, .slice ga ma cga, .slice cb nb ccb, .slice gb mb cgb] 61)
                have hbn := heap_alloc_new wc (.cells #[.slice ca na cca, .slice ga ma cga, .slice cb nb ccb, .slice gb mb cgb] 61)
                have hle := HK.out.size
                refine hK.out _ (wc.alloc (.cells #[.slice ca na cca, .slice ga ma cga, .slice cb nb ccb, .slice gb mb cgb] 61)) (HCS.out _ (HK.out.trans hx)) (fun _ => ?_)
                clear hK K
                try replace HG0 := Lib.hid (hx.heap HG0.out)
                try replace HG := Lib.hid (hx.heap HG.out)
                try replace HO := Lib.hid (ownsRow_ext HO.out hx)
                replace HK := Lib.hid (HK.out.trans hx)
                obtain ⟨G, hB⟩ : ∃ x, x = wc.heap.size := ⟨_, rfl⟩
                rw [← hB] at hbn hle ⊢
                have HG := Lib.hid hbn
                have LHG := Lib.hid hle
                clear hbn hB hle hx
                generalize wc.alloc (.cells #[.slice ca na cca, .slice ga ma cga, .slice cb nb ccb, .slice gb mb cgb] 61) = wc at *
                try simp only [List.getElem_toArray, List.getElem_cons_zero, List.getElem_cons_succ, Act.put, List.setIfInBounds_toArray, List.set_cons_zero, List.set_cons_succ])))
    all_goals (
      first
        | refine wpAnyH_ready (rs := [6]) (by decide +kernel) (by simp) ?_
      repeat' (first | exact AllReadyH.nil | (refine AllReadyH.cons rfl (fun K hK => ?_) ?_)))
    all_goals (
      first
        | (refine step_append_any (by rfl) _ _ 57 61 (.agg #[.slice none 0 0, .slice none 0 0]) 2 48 (by rfl) Tryz.underlying57 info_chg rfl (by decide) w2.heap.size ad1 n cap1 (L.flatMap chV) (by simp [Act.eval]) HO.out (some ⟨G, 0, none⟩) 2 2 [.slice ca na cca, .slice ga ma cga, .slice cb nb ccb, .slice gb mb cgb] (by simp [Act.eval]) (by rfl) (run_blk HG.out) (by intro u hu; simp only [List.mem_cons, List.not_mem_nil, or_false] at hu; rcases hu with rfl | rfl | rfl | rfl <;> rfl) (by omega) (by decide) HK.out.size (n + 2) rfl ?_
           intro ad2 cap2 wn hown hkp hbl
           replace HK := Lib.hid (Ext.of_below' HK.out hbl)
           have hch : ChL wn ad2 LL := by
             obtain ⟨a', c', hv, _, hrun, _⟩ := run_of_row hown
             cases hv
             rw [HLL.out]
             refine run_ch (by simpa [List.flatMap_append, chV, HLN.out.1, HLN.out.2.1, HLN.out.2.2.1, HLN.out.2.2.2] using hrun) (fun x hx => ?_)
             have hxx := HXW.out.trans HK.out
             rcases List.mem_append.1 hx with hx | hx
             · exact (ch_run (HL.out.ext hxx)).2 x hx
             · simp only [List.mem_cons, List.not_mem_nil, or_false] at hx
               rcases hx with rfl | rfl
               · exact HA.out.ext hxx
               · exact HB0.out.ext hxx
           have HCH := Lib.hid hch
           clear hown hkp hbl hch
           refine hK.out _ _ (HCS.out _ HK.out) (fun _ => ?_)
           clear hK K
           obtain ⟨wc, rfl⟩ : ∃ x : World, x = wn := ⟨_, rfl⟩
           try simp only [List.getElem_toArray, List.getElem_cons_zero, List.getElem_cons_succ, Act.put, List.setIfInBounds_toArray, List.set_cons_zero, List.set_cons_succ]))
    all_goals (
      refine wpAnyH_ready (rs := [7]) (by kernel_rfl) (by simp) ?_
      refine AllReadyH.cons rfl (fun K hK => ?_) AllReadyH.nil
      go_simp
      go_at_call 23
      refine (HSM.out ad2 cap2 wc HCH.out).mono ?_
      rintro E wn ⟨rfl, hx⟩
      replace HK := Lib.hid (HK.out.trans hx)
      clear hx
      go_wp2_with fail
      refine hK.out _ _ (HCS.out _ HK.out) (fun _ => ?_)
      clear hK K
      obtain ⟨wc, rfl⟩ : ∃ x : World, x = wn := ⟨_, rfl⟩
      try simp only [List.getElem_toArray, List.getElem_cons_zero, List.getElem_cons_succ, Act.put, List.setIfInBounds_toArray, List.set_cons_zero, List.set_cons_succ]
      refine wpAnyH_take (i := 8) (v := ?_) rfl (by kernel_rfl) (by kernel_rfl) (by kernel_rfl) (fun _ _ _ h => h) (Or.inl ⟨by kernel_rfl, ?_⟩) (HCS.out _ HK.out) ?_
      rotate_left
      · (intro wq _; first | (go_simp; done) | (go_simp; with_reducible rfl))
      try simp only [List.getElem_toArray, List.getElem_cons_zero, List.getElem_cons_succ, Act.put, List.setIfInBounds_toArray, List.set_cons_zero, List.set_cons_succ])
    all_goals (
      refine wpAnyH_done (by kernel_rfl) ?_ _
      refine NoPanic.normal ?_
      go_wp2_with fail
      go_meet
      exact ⟨rfl, HK⟩)
  case rest =>
    obtain ⟨rfl, hx⟩ := hcut
    obtain ⟨w3', rfl⟩ : ∃ w3' : World, w3' = wc := ⟨_, rfl⟩
    have HX23 := Lib.hid hx.out
    have HXC := Lib.hid (HXW.out.trans hx.out)
    clear hx HK HRU HS2 HSM
    cases sm with
    | false =>
      have hd : (sv == 0) = true := by rw [HSV.out]; rfl
      go_wp2_with fail
      rw [HR.out]
      exact ⟨rfl, HXC.out⟩
    | true =>
      have hd : (sv == 0) = false := by rw [HSV.out]; rfl
      have hsa : smallAll LL = true := HSML.out.symm
      rw [HLL.out] at hsa
      have hcA : SmallC (⟨comeA, goA⟩, ⟨ca, cca, ga, cga⟩) := by
        have := smallAll_get hsa (x := (⟨comeA, goA⟩, ⟨ca, cca, ga, cga⟩)) (by simp)
        exact ⟨this.1, this.2.1, this.2.2⟩
      have hcB : SmallC (⟨comeB, goB⟩, ⟨cb, ccb, gb, cgb⟩) := by
        have := smallAll_get hsa (x := (⟨comeB, goB⟩, ⟨cb, ccb, gb, cgb⟩)) (by simp)
        exact ⟨this.1, this.2.1, this.2.2⟩
      obtain ⟨hs1, hs2⟩ := smallAll_left hsa
      have HSA := Lib.hid hs1
      have hs3 : sumCh [((⟨comeA, goA⟩, ⟨ca, cca, ga, cga⟩) : ChD × ChA), (⟨comeB, goB⟩, ⟨cb, ccb, gb, cgb⟩)] = na + ma + (nb + mb) := by
        rw [HLN.out.1, HLN.out.2.1, HLN.out.2.2.1, HLN.out.2.2.2]
        simp [sumCh, lenCh]
      rw [hs3] at hs2
      have HSUM := Lib.hid hs2
      have HCA := Lib.hid hcA
      have HCB := Lib.hid hcB
      clear hsa hcA hcB hs1 hs2 hs3
      go_upto_region 6 with (go_at_call 13; refine (ex_new _).mono ?_; rintro E w3 ⟨⟨b0, A0, rfl, hm⟩, hx3⟩; have HM0 := Lib.hid hm; have HX3 := Lib.hid hx3; clear hm hx3)
      have hx_w4 : Ext w3 (w3.alloc (.cells #[.map (some b0)] 42)) := (Ext.alloc _ _)
      have hf_B := heap_alloc_new w3 (.cells #[.map (some b0)] 42)
      generalize w3.alloc (.cells #[.map (some b0)] 42) = w4 at hx_w4 hf_B ⊢
      obtain ⟨B, h_B⟩ : ∃ x, x = w3.heap.size := ⟨_, rfl⟩
      rw [← h_B] at hf_B
      try rw [← h_B]
      have hs_B : w3.heap.size ≤ B := by omega
      clear h_B
      have HX4 := Lib.hid ((HXC.out.trans HX3.out).trans hx_w4)
      have HX34 := Lib.hid (HX23.out.trans (HX3.out.trans hx_w4))
      have HBL : Hid (w.heap.size ≤ B) := Lib.hid (Nat.le_trans (HXC.out.trans HX3.out).size hs_B)
      have HBL2 : Hid (w2.heap.size ≤ B) := Lib.hid (Nat.le_trans (HX23.out.trans HX3.out).size hs_B)
      have hH4 : HoldAt w4 B 0 := ⟨b0, noneF, A0, hf_B, HM0.out.ext hx_w4, held_none⟩
      have HH4 := Lib.hid hH4; clear hH4 hf_B hx_w4 hs_B hd
      go_wp2_with fail
      go_loopw [42] (fun i wr => ∃ k : Nat, i = .int .i64 k ∧ k ≤ n ∧ Hid (HoldAt wr B (sumCh (L.take k))) ∧ Hid (Ext w wr) ∧ Hid (Ext w2 wr)) (fun i _ => n - (intOf i).toNat)
      case atStart => exact ⟨0, rfl, Nat.zero_le _, HH4, HX4, HX34⟩
      case round =>
        obtain ⟨k, rfl, hk, hH, hX, hX2⟩ := hrel
        by_cases hlt : k < n
        · have hkL : k < L.length := by have := HN.out; omega
          obtain ⟨g, off, rfl, _, ⟨c0, c1⟩, hm⟩ := (HL.out.ext hX.out).at hkL
          have hsc := smallAll_c HSA.out hkL
          have hsl : sumCh (L.take k) ≤ 60 := Nat.le_trans (sumCh_all L k) (smallAll_sum HSA.out)
          have hst := setCh_take hkL
          have hsk := sumCh_mono L (j := k) (k := k + 1) (by omega)
          obtain ⟨x, hx⟩ : ∃ x, x = L.getD k cz := ⟨_, rfl⟩
          rw [← hx] at c0 c1 hm hsc hst
          clear hx
          obtain ⟨⟨come, go⟩, ⟨ca, cc, ga, gc⟩⟩ := x
          simp only at c0 c1
          have HM := Lib.hid hm; clear hm
          have HSC := Lib.hid hsc; clear hsc
          have HST := Lib.hid hst; clear hst
          have HSK := Lib.hid hsk; clear hsk
          go_upto_region 9 with (fail)
          clear c0 c1
          have hx_w5 : Ext wr (wr.alloc (.cells #[.slice ca come.length cc, .slice ga go.length gc] 61)) := (Ext.alloc _ _)
          have hf_F := heap_alloc_new wr (.cells #[.slice ca come.length cc, .slice ga go.length gc] 61)
          generalize wr.alloc (.cells #[.slice ca come.length cc, .slice ga go.length gc] 61) = w5 at hx_w5 hf_F ⊢
          obtain ⟨F, h_F⟩ : ∃ x, x = wr.heap.size := ⟨_, rfl⟩
          rw [← h_F] at hf_F
          try rw [← h_F]
          have hs_F : wr.heap.size ≤ F := by omega
          clear h_F
          obtain ⟨b, f, A, hB, hM, hF⟩ := hH.out
          have b0 := blk_cell (hx_w5.heap hB) 0 (Value.map (some b)) rfl
          have d0 := blk_cell hf_F 0 (Value.slice ca come.length cc) rfl
          have d1 := blk_cell hf_F 1 (Value.slice ga go.length gc) rfl
          have haf := after_held b (sumCh (L.take k)) f A (⟨come, go⟩, ⟨ca, cc, ga, gc⟩) w5 (HE.out.ext (hX.out.trans hx_w5)) (hM.ext hx_w5) hF (HM.out.ext hx_w5) HSC.out (by omega)
          have HAF := Lib.hid haf; clear haf
          have HFB := Lib.hid hf_F; clear hf_F
          have HB := Lib.hid hB; clear hB
          have HX5 := Lib.hid hx_w5; clear hx_w5
          clear hM hs_F
          go_upto_region 10 with (go_at_call 24; refine HAF.out.mono ?_; rintro E w6 ⟨hx6, pm, y, rfl, hor⟩; obtain ⟨y1, y2, y3⟩ := y; unfold faultV; have HX6 := Lib.hid hx6; have HOR := Lib.hid hor; clear hx6 hor)
          try simp only at HOR ⊢
          clear b0 d0 d1 HAF
          have hx_w7 : Ext w6 ((w6.alloc (.cells #[.map pm] 42)).alloc (.cells #[.int .i64 (y1 : Int), .string (bs y2), .string (bs y3)] 63)) := ((Ext.alloc _ _).trans (Ext.alloc _ _))
          have hf_P := (Ext.alloc (w6.alloc (.cells #[.map pm] 42)) (.cells #[.int .i64 (y1 : Int), .string (bs y2), .string (bs y3)] 63)).heap (heap_alloc_new w6 (.cells #[.map pm] 42))
          have hf_Q := heap_alloc_new (w6.alloc (.cells #[.map pm] 42)) (.cells #[.int .i64 (y1 : Int), .string (bs y2), .string (bs y3)] 63)
          simp only [World.size_alloc] at hf_Q
          generalize (w6.alloc (.cells #[.map pm] 42)).alloc (.cells #[.int .i64 (y1 : Int), .string (bs y2), .string (bs y3)] 63) = w7 at hx_w7 hf_P hf_Q ⊢
          obtain ⟨P, h_P⟩ : ∃ x, x = w6.heap.size := ⟨_, rfl⟩
          obtain ⟨Q, h_Q⟩ : ∃ x, x = w6.heap.size + 1 := ⟨_, rfl⟩
          rw [← h_Q] at hf_Q
          rw [← h_P] at hf_P
          try rw [← h_Q, ← h_P]
          have hs_P : w6.heap.size ≤ P := by omega
          have hs_Q : w6.heap.size ≤ Q := by omega
          clear h_P h_Q
          have e0 := blk_cell hf_Q 0 (Value.int .i64 (y1 : Int)) rfl
          have HFP := Lib.hid hf_P; clear hf_P
          have HFQ := Lib.hid hf_Q; clear hf_Q
          have HX7 := Lib.hid (HX5.out.trans (HX6.out.trans hx_w7))
          have HX67 := Lib.hid hx_w7; clear hx_w7 hs_P hs_Q
          by_cases h0 : y1 = 0
          · have hd : (((y1 : Nat) : Int) == 0) = true := by rw [beq_iff_eq]; omega
            have hd' : (((y1 : Nat) : Int) != 0) = false := by rw [bne_eq_false_iff_eq]; omega
            obtain ⟨hok, b2, A2, rfl, hM2⟩ : AfterOK f (comeL (⟨come, go⟩, ⟨ca, cc, ga, gc⟩)) go ∧ ∃ b2 A2, pm = some b2 ∧ EntsM w6 b2 (sumCh (L.take k) + (comeL (⟨come, go⟩, ⟨ca, cc, ga, gc⟩)).length) (outF f (comeL (⟨come, go⟩, ⟨ca, cc, ga, gc⟩)) go) A2 := by
              rcases HOR.out with ⟨h, _⟩ | ⟨_, h1, h2⟩
              · exact absurd h0 h
              · exact ⟨h1, h2⟩
            have HOK := Lib.hid hok; clear hok
            have HM2 := Lib.hid hM2; clear hM2 h0
            have hBB := HX7.out.heap HB.out
            have b1 := blk_cell hBB 0 (Value.map (some b)) rfl
            have b2f := blk_free hBB 0
            have p0 := blk_cell HFP.out 0 (Value.map (some b2)) rfl
            clear e0
            have hHn : HoldAt (w7.setCell ⟨B, 0, none⟩ (.map (some b2))) B (sumCh (L.take (k + 1))) := HoldAt.set hBB ((HM2.out.ext HX67.out).mono HST.out) HOK.out.2
            have HHN := Lib.hid hHn; clear hHn hBB
            have e0 := blk_cell HFQ.out 0 (Value.int .i64 (y1 : Int)) rfl
            go_wp2_with fail
            exact ⟨⟨k + 1, by go_num, by omega, HHN, Lib.hid (set_ext (hX.out.trans HX7.out) HBL.out), Lib.hid (set_ext (hX2.out.trans HX7.out) HBL2.out)⟩, by simp [intOf]; omega⟩
          · have hd : (((y1 : Nat) : Int) == 0) = false := by rw [beq_eq_false_iff_ne]; omega
            have hd' : (((y1 : Nat) : Int) != 0) = true := by rw [bne_iff_ne]; omega
            clear h0
            go_wp2_with fail
            exact ⟨⟨k + 1, by go_num, by omega, Lib.hid ((hH.out.ext HX7.out).mono HSK.out), Lib.hid (hX.out.trans HX7.out), Lib.hid (hX2.out.trans HX7.out)⟩, by simp [intOf]; omega⟩
        · obtain rfl : k = n := by omega
          obtain ⟨b, f, A, hB, hM, hF⟩ := hH.out
          have hN60 : sumCh (L.take k) ≤ 60 := Nat.le_trans (sumCh_all L k) (smallAll_sum HSA.out)
          obtain ⟨N, hNN⟩ : ∃ N, N = sumCh (L.take k) := ⟨_, rfl⟩
          rw [← hNN] at hM hN60
          clear hNN hH hlt hk hl
          obtain ⟨w5, rfl⟩ : ∃ w5 : World, w5 = wr := ⟨_, rfl⟩
          have HX5 := hX; clear hX
          have HX25 := hX2; clear hX2
          have HB := Lib.hid hB; clear hB
          have HM := Lib.hid hM; clear hM
          have HF := Lib.hid hF; clear hF
          obtain ⟨ms, hms⟩ : ∃ ms : List (ChD × ChA), ms = [(⟨comeA, goA⟩, ⟨ca, cca, ga, cga⟩), (⟨comeB, goB⟩, ⟨cb, ccb, gb, cgb⟩)] := ⟨_, rfl⟩
          have hsm : sumCh ms = na + ma + (nb + mb) := by
            rw [hms, HLN.out.1, HLN.out.2.1, HLN.out.2.2.1, HLN.out.2.2.2]
            simp [sumCh, lenCh]
          have hml : ms.length = 2 := by rw [hms]; rfl
          have hmc : ∀ x ∈ ms, ChM w x ∧ SmallC x := by
            intro x hx
            rw [hms] at hx
            simp only [List.mem_cons, List.not_mem_nil, or_false] at hx
            rcases hx with rfl | rfl
            · exact ⟨HA.out, HCA.out⟩
            · exact ⟨HB0.out, HCB.out⟩
          have hmv : ms.flatMap chV = [.slice ca na cca, .slice ga ma cga, .slice cb nb ccb, .slice gb mb cgb] := by
            rw [hms, HLN.out.1, HLN.out.2.1, HLN.out.2.2.1, HLN.out.2.2.2]
            rfl
          have HMS := Lib.hid hms; clear hms
          have HSMS := Lib.hid hsm; clear hsm
          have HML := Lib.hid hml; clear hml
          have HMC := Lib.hid hmc; clear hmc
          have HMV := Lib.hid hmv; clear hmv
          have hx56 : Ext w5 ((w5.alloc (.map #[] 0)).alloc (.cells #[.slice ca na cca, .slice ga ma cga, .slice cb nb ccb, .slice gb mb cgb] 61)) := (Ext.alloc _ _).trans (Ext.alloc _ _)
          have hm6 := (MapF.made keyS w5 9).ext (Ext.alloc _ (.cells #[.slice ca na cca, .slice ga ma cga, .slice cb nb ccb, .slice gb mb cgb] 61))
          have hg6 := heap_alloc_new (w5.alloc (.map #[] 0)) (.cells #[.slice ca na cca, .slice ga ma cga, .slice cb nb ccb, .slice gb mb cgb] 61)
          rw [World.size_alloc] at hg6
          have hmk := @run_makeMap Tryz.prog
          have d0 := blk_cell ((HX2.out.trans (HX25.out.trans (Ext.alloc w5 (.map #[] 0)))).heap HFA.out) 0 (Value.slice ca na cca) rfl
          have d1 := blk_cell ((HX2.out.trans (HX25.out.trans (Ext.alloc w5 (.map #[] 0)))).heap HFA.out) 1 (Value.slice ga ma cga) rfl
          have d2 := blk_cell ((HX2.out.trans (HX25.out.trans (Ext.alloc w5 (.map #[] 0)))).heap HFB.out) 0 (Value.slice cb nb ccb) rfl
          have d3 := blk_cell ((HX2.out.trans (HX25.out.trans (Ext.alloc w5 (.map #[] 0)))).heap HFB.out) 1 (Value.slice gb mb cgb) rfl
          go_wp2_with fail
          clear hmk d0 d1 d2 d3
          try rw [World.size_alloc]
          generalize (w5.alloc (.map #[] 0)).alloc (.cells #[.slice ca na cca, .slice ga ma cga, .slice cb nb ccb, .slice gb mb cgb] 61) = w6 at hx56 hm6 hg6 ⊢
          obtain ⟨M0, hM0⟩ : ∃ x, x = w5.heap.size := ⟨_, rfl⟩
          obtain ⟨sl, hsl⟩ : ∃ sl, sl = (some ⟨w5.heap.size + 1, 0, none⟩ : Option Addr) := ⟨_, rfl⟩
          have hrun6 : RunM w6 sl (ms.flatMap chV) := by rw [hsl, HMV.out]; exact run_blk hg6
          rw [← hsl, ← hM0]
          rw [← hM0] at hm6
          have hmm6 : MapF keyS w6 9 M0 0 (cntF []) := hm6.same (by funext x; simp [cntF])
          have HM0' := Lib.hid hM0; clear hM0 hm6 hg6 hsl
          have HX56 := Lib.hid hx56; clear hx56
          have HMM6 := Lib.hid hmm6; clear hmm6
          have HRUN6 := Lib.hid hrun6; clear hrun6
          go_loopw [62] (fun i wr => ∃ k : Nat, i = .int .i64 k ∧ k ≤ 2 ∧ Hid (MapF keyS wr 9 M0 (sumCh (ms.take k)) (cntF (namesL (ms.take k)))) ∧ Hid (RunM wr sl (ms.flatMap chV)) ∧ Hid (Ext w5 wr)) (fun i _ => 2 - (intOf i).toNat)
          case atStart => exact ⟨0, rfl, Nat.zero_le _, HMM6, HRUN6, HX56⟩
          case round =>
            obtain ⟨k, rfl, hk, hMP, hRU, hX⟩ := hrel
            by_cases hlt : k < 2
            · have hkL : k < ms.length := by have := HML.out; omega
              obtain ⟨g, off, rfl, _, ⟨c0, c1⟩, hm⟩ := (run_ch hRU.out (fun x hx => (HMC.out x hx).1.ext (HX5.out.trans hX.out))).at hkL
              have hxm : ms.getD k cz ∈ ms := by rw [List.getD_eq_getElem?_getD, List.getElem?_eq_getElem hkL]; simp
              have hsc := (HMC.out _ hxm).2
              have hcm := (HMC.out _ hxm).1
              have hst := sumCh_take hkL
              have hnt := namesL_take hkL
              have hsa := sumCh_all ms (k + 1)
              rw [HSMS.out] at hsa
              obtain ⟨x, hx⟩ : ∃ x, x = ms.getD k cz := ⟨_, rfl⟩
              rw [← hx] at c0 c1 hm hsc hst hnt hcm
              clear hx hxm hm
              obtain ⟨⟨come, go⟩, ⟨c1a, c1c, g1a, g1c⟩⟩ := x
              simp only at c0 c1
              have hlc : lenCh (⟨come, go⟩, ⟨c1a, c1c, g1a, g1c⟩) = come.length + go.length := rfl
              rw [hlc] at hst
              have hnc : namesC (⟨come, go⟩, ⟨c1a, c1c, g1a, g1c⟩) = come.map (fun p => p.1.name) ++ go := by simp [namesC, comeL]
              rw [hnc] at hnt
              have hnlen := namesL_len (ms.take k)
              have HSUM2 := HSUM.out
              have HSC := Lib.hid hsc; clear hsc
              have HCM := Lib.hid hcm; clear hcm
              have HNT := Lib.hid hnt; clear hnt
              clear hlc hnc
              go_upto_region 17 with (fail)
              clear c0 c1
              have hx_w7 : Ext wr (wr.alloc (.cells #[.slice c1a come.length c1c, .slice g1a go.length g1c] 61)) := (Ext.alloc _ _)
              have hf_F := heap_alloc_new wr (.cells #[.slice c1a come.length c1c, .slice g1a go.length g1c] 61)
              generalize wr.alloc (.cells #[.slice c1a come.length c1c, .slice g1a go.length g1c] 61) = w7 at hx_w7 hf_F ⊢
              obtain ⟨F, h_F⟩ : ∃ x, x = wr.heap.size := ⟨_, rfl⟩
              rw [← h_F] at hf_F
              try rw [← h_F]
              have hs_F : wr.heap.size ≤ F := by omega
              clear h_F
              have HFF := Lib.hid hf_F; clear hf_F
              have f0 := blk_cell HFF.out 0 (Value.slice c1a come.length c1c) rfl
              have HX7 := Lib.hid hx_w7; clear hx_w7 hs_F
              go_wp2_with fail
              clear f0
              go_loopw [69] (fun i wr => ∃ j : Nat, i = .int .i64 j ∧ j ≤ come.length ∧ Hid (MapF keyS wr 9 M0 (sumCh (ms.take k) + j) (cntF (namesL (ms.take k) ++ (come.take j).map fun p => p.1.name))) ∧ Hid (RunM wr (some ⟨g, off, none⟩) (ms.flatMap chV)) ∧ Hid (wr.heap[F]? = some (.cells #[.slice c1a come.length c1c, .slice g1a go.length g1c] 61 (0, 0))) ∧ Hid (Ext w5 wr)) (fun i _ => come.length - (intOf i).toNat)
              case atStart => exact ⟨0, rfl, Nat.zero_le _, Lib.hid (by simpa using hMP.out.ext HX7.out), Lib.hid (by
                rcases hRU.out with h | ⟨g', off', ha, hg, hc⟩
                · exact Or.inl h
                · exact Or.inr ⟨g', off', ha, Nat.lt_of_lt_of_le hg HX7.out.size, fun j u hj => HX7.out.cell (hc j u hj)⟩), HFF, Lib.hid (hX.out.trans HX7.out)⟩
              case round =>
                obtain ⟨j, rfl, hj, hMPj, hRUj, hFj, hXj⟩ := hrel
                by_cases hjl : j < come.length
                · obtain ⟨g2, off2, hca, _, ⟨a0, a1, a2, a3, a4, a5⟩, _, _⟩ := (HCM.out.come.ext (HX5.out.trans hXj.out)).at hjl
                  simp only at hca
                  subst hca
                  have hpn : (come.getD j ez).1.name.length ≤ 100000 := by
                    have := (HSC.out.come (come.getD j ez) (by rw [List.getD_eq_getElem?_getD, List.getElem?_eq_getElem hjl]; simp)).name
                    omega
                  have hstep : (come.take (j + 1)).map (fun p => p.1.name) = (come.take j).map (fun p => p.1.name) ++ [(come.getD j ez).1.name] := by
                    rw [List.take_succ_eq_append_getElem hjl, List.map_append]
                    simp [List.getD_eq_getElem?_getD, List.getElem?_eq_getElem hjl]
                  obtain ⟨x, hx⟩ : ∃ x, x = come.getD j ez := ⟨_, rfl⟩
                  rw [← hx] at a0 a1 a2 a3 a4 a5 hpn hstep
                  clear hx
                  obtain ⟨p, pA⟩ := x
                  obtain ⟨an, ac, af, au, cn, cq, cf, cu⟩ := pA
                  simp only at a0 a1 a2 a3 a4 a5 hpn hstep
                  have HSTEP := Lib.hid hstep; clear hstep
                  go_upto_region 20 with (fail)
                  clear a0 a1 a2 a3 a4 a5
                  have hx_w8 : Ext wr (wr.alloc (.cells #[.string (bs p.name), .string (bs p.ver), .slice an p.needs.length cn, .slice ac p.conf.length cq, .slice af p.files.length cf, .slice au p.units.length cu] 31)) := (Ext.alloc _ _)
                  have hf_T := heap_alloc_new wr (.cells #[.string (bs p.name), .string (bs p.ver), .slice an p.needs.length cn, .slice ac p.conf.length cq, .slice af p.files.length cf, .slice au p.units.length cu] 31)
                  generalize wr.alloc (.cells #[.string (bs p.name), .string (bs p.ver), .slice an p.needs.length cn, .slice ac p.conf.length cq, .slice af p.files.length cf, .slice au p.units.length cu] 31) = w8 at hx_w8 hf_T ⊢
                  obtain ⟨T, h_T⟩ : ∃ x, x = wr.heap.size := ⟨_, rfl⟩
                  rw [← h_T] at hf_T
                  try rw [← h_T]
                  have hs_T : wr.heap.size ≤ T := by omega
                  clear h_T
                  have t0 := blk_cell hf_T 0 (Value.string (bs p.name)) rfl
                  have hmpa := hMPj.out.ext hx_w8
                  have HRU8 := Lib.hid (RunM.ext hRUj.out hx_w8)
                  have HF8 := Lib.hid (hx_w8.heap hFj.out)
                  have HX8 := Lib.hid (hXj.out.trans hx_w8)
                  have hkey := key_by hpn
                  obtain ⟨D, hD⟩ : ∃ D, D = namesL (ms.take k) ++ (come.take j).map (fun p => p.1.name) := ⟨_, rfl⟩
                  have hDl : D.length ≤ 60 := by
                    rw [hD, List.length_append, hnlen, List.length_map, List.length_take]
                    omega
                  rw [← hD] at hmpa
                  have HD := Lib.hid hD; clear hD
                  obtain ⟨NN, hNN⟩ : ∃ NN, NN = sumCh (ms.take k) + j := ⟨_, rfl⟩
                  rw [← hNN] at hmpa
                  have hwrap : IntKind.i64.wrap (((D.count p.name : Nat) : Int) + 1) = ((D.count p.name : Nat) : Int) + 1 := by
                    have h1 := List.count_le_length (a := p.name) (l := D)
                    exact IntWalk.i64_in _ (by omega)
                  clear hx_w8 hf_T hs_T
                  obtain ⟨wB, hrun, hmB, hkB⟩ := hmpa.store (t := 66) str_keyed Tryz.underlying66 (by unfold maxLen; omega) keyS_inj (.int .i64 (((D.count p.name : Nat) : Int) + 1)) hkey
                  obtain ⟨es, cl, hblk⟩ := hmpa.block
                  have HMB := Lib.hid hmB; have HKB := Lib.hid hkB; have HBLK := Lib.hid hblk
                  clear hmB hkB hblk
                  go_wp2_with (first
                    | (at_lookup; refine wpList_look_F rfl _ _ 66 rfl 3 str_keyed Tryz.underlying66 _ (Tryz.zeroValue3 _) M0 NN (cntF D) rfl hmpa _ p.name rfl hkey ?_; rw [cntF_get]; go_frame)
                    | go_in)
                  refine ⟨⟨j + 1, by go_num, by omega, Lib.hid ?_, Lib.hid (HRU8.out.keep_map HKB.out HBLK.out), Lib.hid (HKB.out.heap (by intro e; subst e; have h := HF8.out; rw [HBLK.out] at h; cases h) HF8.out), Lib.hid ?_⟩, by simp [intOf]; omega⟩
                  · rw [← Nat.add_assoc, ← hNN]
                    refine HMB.out.same ?_
                    rw [cntF_step, HD.out, List.append_assoc, HSTEP.out]
                  · exact ((Keep.of_ext (S := fun j => j < w5.heap.size) HX8.out).andThen HKB.out (fun j hj _ => by have := HM0'.out; show j ≠ M0; omega)).ext_lt
                · obtain rfl : j = come.length := by omega
                  have f1 := blk_cell hFj.out 1 (Value.slice g1a go.length g1c) rfl
                  go_wp2_with fail
                  clear f1
                  have hmpj := hMPj.out
                  rw [List.take_length] at hmpj
                  have HMPJ := Lib.hid hmpj; clear hmpj
                  obtain ⟨wo, rfl⟩ : ∃ wo : World, wo = wr := ⟨_, rfl⟩
                  go_loopw [82] (fun i wr => ∃ t : Nat, i = .int .i64 t ∧ t ≤ go.length ∧ Hid (MapF keyS wr 9 M0 (sumCh (ms.take k) + come.length + t) (cntF (namesL (ms.take k) ++ come.map (fun p => p.1.name) ++ go.take t))) ∧ Hid (RunM wr (some ⟨g, off, none⟩) (ms.flatMap chV)) ∧ Hid (Ext w5 wr)) (fun i _ => go.length - (intOf i).toNat)
                  case atStart => exact ⟨0, rfl, Nat.zero_le _, Lib.hid (by simpa using HMPJ.out), hRUj, hXj⟩
                  case round =>
                    obtain ⟨t, rfl, ht, hMPt, hRUt, hXt⟩ := hrel
                    by_cases htl : t < go.length
                    · obtain ⟨g2, off2, hga, _, hcs⟩ := (HCM.out.go.ext (HX5.out.trans hXt.out)).at (by intro e; simp only at e; rw [e] at htl; simp at htl)
                      simp only at hga hcs
                      subst hga
                      have a0 := hcs t htl
                      clear hcs
                      have hpn : (go.getD t []).length ≤ 100000 := by
                        have := HSC.out.go (go.getD t []) (by rw [List.getD_eq_getElem?_getD, List.getElem?_eq_getElem htl]; simp)
                        omega
                      have hstep : go.take (t + 1) = go.take t ++ [go.getD t []] := by
                        rw [List.take_succ_eq_append_getElem htl]
                        simp [List.getD_eq_getElem?_getD, List.getElem?_eq_getElem htl]
                      obtain ⟨x, hx⟩ : ∃ x, x = go.getD t [] := ⟨_, rfl⟩
                      rw [← hx] at a0 hpn hstep
                      clear hx
                      have HSTEP := Lib.hid hstep; clear hstep
                      have hmpa := hMPt.out
                      have hkey := key_by hpn
                      obtain ⟨D, hD⟩ : ∃ D, D = namesL (ms.take k) ++ come.map (fun p => p.1.name) ++ go.take t := ⟨_, rfl⟩
                      have hDl : D.length ≤ 60 := by
                        rw [hD, List.length_append, List.length_append, hnlen, List.length_map, List.length_take]
                        omega
                      rw [← hD] at hmpa
                      have HD := Lib.hid hD; clear hD
                      obtain ⟨NN, hNN⟩ : ∃ NN, NN = sumCh (ms.take k) + come.length + t := ⟨_, rfl⟩
                      rw [← hNN] at hmpa
                      have hwrap : IntKind.i64.wrap (((D.count x : Nat) : Int) + 1) = ((D.count x : Nat) : Int) + 1 := by
                        have h1 := List.count_le_length (a := x) (l := D)
                        exact IntWalk.i64_in _ (by omega)
                      obtain ⟨wB, hrun, hmB, hkB⟩ := hmpa.store (t := 66) str_keyed Tryz.underlying66 (by unfold maxLen; omega) keyS_inj (.int .i64 (((D.count x : Nat) : Int) + 1)) hkey
                      obtain ⟨es, cl, hblk⟩ := hmpa.block
                      have HMB := Lib.hid hmB; have HKB := Lib.hid hkB; have HBLK := Lib.hid hblk
                      clear hmB hkB hblk
                      go_wp2_with (first
                        | (at_lookup; refine wpList_look_F rfl _ _ 66 rfl 3 str_keyed Tryz.underlying66 _ (Tryz.zeroValue3 _) M0 NN (cntF D) rfl hmpa _ x rfl hkey ?_; rw [cntF_get]; go_frame)
                        | go_in)
                      refine ⟨⟨t + 1, by go_num, by omega, Lib.hid ?_, Lib.hid (hRUt.out.keep_map HKB.out HBLK.out), Lib.hid ?_⟩, by simp [intOf]; omega⟩
                      · rw [← Nat.add_assoc, ← hNN]
                        refine HMB.out.same ?_
                        rw [cntF_step, HD.out, List.append_assoc, HSTEP.out]
                      · exact ((Keep.of_ext (S := fun j => j < w5.heap.size) hXt.out).andThen HKB.out (fun j hj _ => by have := HM0'.out; show j ≠ M0; omega)).ext_lt
                    · obtain rfl : t = go.length := by omega
                      go_wp2_with fail
                      refine ⟨⟨k + 1, by go_num, by omega, Lib.hid ?_, hRUt, hXt⟩, by simp [intOf]; omega⟩
                      have h := hMPt.out
                      rw [List.take_length, List.append_assoc, ← HNT.out, Nat.add_assoc, ← hst] at h
                      exact h
            · obtain rfl : k = 2 := by omega
              have hmn := hMP.out
              rw [List.take_of_length_le (by have := HML.out; omega)] at hmn
              have hml := hmn.lt
              obtain ⟨D, hD⟩ : ∃ D, D = namesL ms := ⟨_, rfl⟩
              obtain ⟨NN, hNN⟩ : ∃ NN, NN = sumCh ms := ⟨_, rfl⟩
              rw [← hD, ← hNN] at hmn
              rw [HMS.out] at hD
              have hD2 : D = namesC ((⟨comeA, goA⟩, ⟨ca, cca, ga, cga⟩) : ChD × ChA) ++ namesC ((⟨comeB, goB⟩, ⟨cb, ccb, gb, cgb⟩) : ChD × ChA) := by rw [hD]; simp [namesL]
              have HD := Lib.hid hD2; clear hD hD2 hNN
              have HMPN := Lib.hid hmn
              clear hMP hmn hRU hk hlt
              go_wp2_with (first
                | (at_range; refine wpList_range_F rfl _ 66 rfl 3 str_keyed Tryz.underlying66 M0 NN (cntF D) rfl HMPN.out ?_; intro w0 c0 hg0 hx0 hs0)
                | go_in)
              go_frame
              obtain ⟨r, hr⟩ : ∃ r, r = wr.heap.size := ⟨_, rfl⟩
              rw [← hr] at hg0 ⊢
              have HRW : Hid (w5.heap.size ≤ r) := Lib.hid (by rw [hr]; exact hX.out.size)
              have HX0 := Lib.hid (hX.out.trans hx0)
              have HG0 := Lib.hid hg0
              clear hr hx0 hg0 hs0 hml hX
              go_loopw [] (fun wr => ∃ (left : By → Bool) (cnt : Nat), Hid (MapG keyS wr 9 M0 r NN (cntF D) left cnt) ∧ Hid (∀ x, left x = false → D.count x ≤ 1) ∧ Hid (Ext w5 wr)) (fun wr => wr.rangeLeft M0 r)
              case atStart => exact ⟨_, c0, HG0, Lib.hid (fun x hx => by have := cntF_none hx; omega), HX0⟩
              case round =>
                obtain ⟨left, cnt, hg, hle, hX⟩ := hrel
                have HGC := Lib.hid hg.out.count
                go_wp2_with (first
                  | (at_next; refine wpList_next_F rfl _ rfl str_keyed (fun x => .string (bs x)) keyS_inj inv_str M0 r NN (cntF D) left cnt rfl hg.out ?_ ?_)
                  | go_in)
                rotate_left
                · intro x v w1' cnt1 hkey hlp hfp hg1 hlt1 hk1 hs1 hen
                  obtain ⟨hpm, rfl⟩ := cntF_some hfp
                  have hx1' : Ext w5 w1' := ((Keep.of_ext (S := fun j => j < w5.heap.size) hX.out).andThen hk1 (fun j hj _ => by have := HRW.out; show j ≠ r; omega)).ext_lt
                  have HG1 := Lib.hid hg1
                  have HX1' := Lib.hid hx1'
                  have HLT1 := Lib.hid hlt1
                  clear hg1 hx1' hk1 hs1 hkey hlp hfp hlt1 hpm
                  by_cases h1 : D.count x ≤ 1
                  · have hd : decide ((1 : Int) < ((D.count x : Nat) : Int)) = false := decide_eq_false (by omega)
                    have HH1 := Lib.hid h1; clear h1
                    go_wp2_with fail
                    go_roundw
                    case rel =>
                      repeat apply Exists.intro
                      refine ⟨⟨_, cnt1, HG1, Lib.hid (fun z hz => ?_), HX1'⟩, rfl⟩
                      by_cases hzx : z = x
                      · rw [hzx]; exact HH1.out
                      · simp only [hzx, decide_false, Bool.not_false, Bool.and_true] at hz
                        exact hle.out z hz
                    case measure =>
                      rw [HG1.out.count, HGC.out]
                      exact HLT1.out
                  · have hd : decide ((1 : Int) < ((D.count x : Nat) : Int)) = true := decide_eq_true (by omega)
                    clear h1
                    go_wp2_with fail
                    rw [HR.out]
                    exact ⟨rfl, HX5.out.trans HX1'.out⟩
                · intro hlf
                  have hnd : D.Nodup := List.nodup_iff_count.2 (fun x => hle.out x (hlf x))
                  have HND := Lib.hid hnd; clear hnd hlf
                  obtain ⟨w7, rfl⟩ : ∃ w7 : World, w7 = wr := ⟨_, rfl⟩
                  have HX57 := hX; clear hX
                  have HXW7 := Lib.hid (HX5.out.trans HX57.out)
                  have hb0 := blk_cell (HX57.out.heap HB.out) 0 (Value.map (some b)) rfl
                  have p0 := blk_cell ((HX2.out.trans (HX25.out.trans HX57.out)).heap HFA.out) 0 (Value.slice ca na cca) rfl
                  have p1 := blk_cell ((HX2.out.trans (HX25.out.trans HX57.out)).heap HFA.out) 1 (Value.slice ga ma cga) rfl
                  have haf := after_held b N f A ((⟨comeA, goA⟩, ⟨ca, cca, ga, cga⟩) : ChD × ChA) w7 (HE.out.ext HXW7.out) (HM.out.ext HX57.out) HF.out (HA.out.ext HXW7.out) HCA.out (by omega)
                  simp only at haf
                  rw [← HLN.out.1, ← HLN.out.2.1] at haf
                  have HAF := Lib.hid haf; clear haf
                  go_upto_region 34 with (go_at_call 24; refine HAF.out.mono ?_; rintro E w8 ⟨hx8, pm, y, rfl, hor⟩; obtain ⟨y1, y2, y3⟩ := y; unfold faultV; have HX8 := Lib.hid hx8; have HOR := Lib.hid hor; clear hx8 hor)
                  try simp only at HOR ⊢
                  clear hb0 p0 p1 HAF
                  have hx_w9 : Ext w8 ((w8.alloc (.cells #[.map pm] 42)).alloc (.cells #[.int .i64 (y1 : Int), .string (bs y2), .string (bs y3)] 63)) := ((Ext.alloc _ _).trans (Ext.alloc _ _))
                  have hf_P1 := (Ext.alloc (w8.alloc (.cells #[.map pm] 42)) (.cells #[.int .i64 (y1 : Int), .string (bs y2), .string (bs y3)] 63)).heap (heap_alloc_new w8 (.cells #[.map pm] 42))
                  have hf_Q1 := heap_alloc_new (w8.alloc (.cells #[.map pm] 42)) (.cells #[.int .i64 (y1 : Int), .string (bs y2), .string (bs y3)] 63)
                  simp only [World.size_alloc] at hf_Q1
                  generalize (w8.alloc (.cells #[.map pm] 42)).alloc (.cells #[.int .i64 (y1 : Int), .string (bs y2), .string (bs y3)] 63) = w9 at hx_w9 hf_P1 hf_Q1 ⊢
                  obtain ⟨P1, h_P1⟩ : ∃ x, x = w8.heap.size := ⟨_, rfl⟩
                  obtain ⟨Q1, h_Q1⟩ : ∃ x, x = w8.heap.size + 1 := ⟨_, rfl⟩
                  rw [← h_Q1] at hf_Q1
                  rw [← h_P1] at hf_P1
                  try rw [← h_Q1, ← h_P1]
                  have hs_P1 : w8.heap.size ≤ P1 := by omega
                  have hs_Q1 : w8.heap.size ≤ Q1 := by omega
                  clear h_P1 h_Q1
                  have HP1 := Lib.hid hf_P1; clear hf_P1
                  have HQ1 := Lib.hid hf_Q1; clear hf_Q1
                  have HX89 := Lib.hid hx_w9
                  have HX79 := Lib.hid (HX8.out.trans hx_w9); clear hx_w9 hs_P1 hs_Q1
                  have hna60 : (comeL ((⟨comeA, goA⟩, ⟨ca, cca, ga, cga⟩) : ChD × ChA)).length ≤ 60 := by
                    have h1 := HSUM.out
                    have h2 := HLN.out.1
                    unfold comeL
                    rw [List.length_map]
                    simp only
                    omega
                  obtain ⟨N1, f1, hN1, hb1, hg1, hq1⟩ : ∃ N1 f1, N1 ≤ 10000 ∧ BaseM w9 (.agg #[.map pm]) N1 f1 ∧ GoodF f1 ∧ (y1 = 0 → f1 = outF f (comeL ((⟨comeA, goA⟩, ⟨ca, cca, ga, cga⟩) : ChD × ChA)) goA ∧ AfterOK f (comeL ((⟨comeA, goA⟩, ⟨ca, cca, ga, cga⟩) : ChD × ChA)) goA) := by
                    rcases HOR.out with ⟨h, _, h2, _⟩ | ⟨_, hok, b2, A2, h2, hM2⟩
                    · exact ⟨0, noneF, by omega, Or.inl ⟨by rw [h2], rfl⟩, GoodF.none, fun h0 => absurd h0 h⟩
                    · exact ⟨N + (comeL ((⟨comeA, goA⟩, ⟨ca, cca, ga, cga⟩) : ChD × ChA)).length, _, by omega, Or.inr ⟨b2, A2, by rw [h2], hM2.ext HX89.out⟩, hok.2.1, fun _ => ⟨rfl, hok⟩⟩
                  have haf := after_heldV (.agg #[.map pm]) N1 f1 ((⟨comeB, goB⟩, ⟨cb, ccb, gb, cgb⟩) : ChD × ChA) w9 (HE.out.ext (HXW7.out.trans HX79.out)) hb1 hg1 (HB0.out.ext (HXW7.out.trans HX79.out)) HCB.out hN1
                  simp only at haf
                  rw [← HLN.out.2.2.1, ← HLN.out.2.2.2] at haf
                  have HAF := Lib.hid haf; clear haf hb1 hg1 hna60
                  have HQQ1 := Lib.hid hq1; clear hq1
                  have hb0 := blk_cell HP1.out 0 (Value.map pm) rfl
                  have p0 := blk_cell ((HX2.out.trans (HX25.out.trans (HX57.out.trans HX79.out))).heap HFB.out) 0 (Value.slice cb nb ccb) rfl
                  have p1 := blk_cell ((HX2.out.trans (HX25.out.trans (HX57.out.trans HX79.out))).heap HFB.out) 1 (Value.slice gb mb cgb) rfl
                  go_upto_region 35 with (go_at_call 24; refine HAF.out.mono ?_; rintro E wA ⟨hxA, qm, z, rfl, hor⟩; obtain ⟨z1, z2, z3⟩ := z; unfold faultV; have HXA := Lib.hid hxA; have HOR2 := Lib.hid hor; clear hxA hor)
                  try simp only at HOR2 ⊢
                  clear hb0 p0 p1 HAF
                  have hx_wB : Ext wA ((wA.alloc (.cells #[.map qm] 42)).alloc (.cells #[.int .i64 (z1 : Int), .string (bs z2), .string (bs z3)] 63)) := ((Ext.alloc _ _).trans (Ext.alloc _ _))
                  have hf_P2 := (Ext.alloc (wA.alloc (.cells #[.map qm] 42)) (.cells #[.int .i64 (z1 : Int), .string (bs z2), .string (bs z3)] 63)).heap (heap_alloc_new wA (.cells #[.map qm] 42))
                  have hf_Q2 := heap_alloc_new (wA.alloc (.cells #[.map qm] 42)) (.cells #[.int .i64 (z1 : Int), .string (bs z2), .string (bs z3)] 63)
                  simp only [World.size_alloc] at hf_Q2
                  generalize (wA.alloc (.cells #[.map qm] 42)).alloc (.cells #[.int .i64 (z1 : Int), .string (bs z2), .string (bs z3)] 63) = wB at hx_wB hf_P2 hf_Q2 ⊢
                  obtain ⟨P2, h_P2⟩ : ∃ x, x = wA.heap.size := ⟨_, rfl⟩
                  obtain ⟨Q2, h_Q2⟩ : ∃ x, x = wA.heap.size + 1 := ⟨_, rfl⟩
                  rw [← h_Q2] at hf_Q2
                  rw [← h_P2] at hf_P2
                  try rw [← h_Q2, ← h_P2]
                  have hs_P2 : wA.heap.size ≤ P2 := by omega
                  have hs_Q2 : wA.heap.size ≤ Q2 := by omega
                  clear h_P2 h_Q2
                  have HP2 := Lib.hid hf_P2; clear hf_P2
                  have e1 := blk_cell hf_Q2 0 (Value.int .i64 (z1 : Int)) rfl
                  have HXAB := Lib.hid hx_wB
                  have HX9B := Lib.hid (HXA.out.trans hx_wB); clear hx_wB hs_P2 hs_Q2 hf_Q2
                  have HX7B := Lib.hid (HX79.out.trans HX9B.out)
                  have HXWB := Lib.hid (HXW7.out.trans HX7B.out)
                  have e0 := blk_cell (HX9B.out.heap HQ1.out) 0 (Value.int .i64 (y1 : Int)) rfl
                  by_cases hy1 : y1 = 0
                  rotate_left
                  · have hd : (((y1 : Nat) : Int) != 0) = true := by rw [bne_iff_ne]; omega
                    clear hy1
                    go_wp2_with fail
                    rw [HR.out]
                    exact ⟨rfl, HXWB.out⟩
                  have hd : (((y1 : Nat) : Int) != 0) = false := by rw [bne_eq_false_iff_eq]; omega
                  obtain ⟨hf1, hok1⟩ := HQQ1.out hy1
                  clear hy1
                  have HOK1 := Lib.hid hok1; clear hok1
                  have HF1 := Lib.hid hf1; clear hf1
                  by_cases hz1 : z1 = 0
                  rotate_left
                  · have hd2 : (((z1 : Nat) : Int) != 0) = true := by rw [bne_iff_ne]; omega
                    clear hz1
                    go_wp2_with fail
                    rw [HR.out]
                    exact ⟨rfl, HXWB.out⟩
                  have hd2 : (((z1 : Nat) : Int) != 0) = false := by rw [bne_eq_false_iff_eq]; omega
                  obtain ⟨hok2, b3, A3, rfl, hM3⟩ : AfterOK f1 (comeL ((⟨comeB, goB⟩, ⟨cb, ccb, gb, cgb⟩) : ChD × ChA)) goB ∧ ∃ b3 A3, qm = some b3 ∧ EntsM wA b3 (N1 + (comeL ((⟨comeB, goB⟩, ⟨cb, ccb, gb, cgb⟩) : ChD × ChA)).length) (outF f1 (comeL ((⟨comeB, goB⟩, ⟨cb, ccb, gb, cgb⟩) : ChD × ChA)) goB) A3 := by
                    rcases HOR2.out with ⟨h, _⟩ | ⟨_, h1, h2⟩
                    · exact absurd hz1 h
                    · exact ⟨h1, h2⟩
                  have hbk := both_ok HOK1.out (by rw [← HF1.out]; exact hok2) (by
                    have h := HND.out
                    rw [HD.out] at h
                    unfold namesC at h
                    simpa using h)
                  rw [← HF1.out] at hbk
                  have HBK := Lib.hid hbk; clear hbk hz1
                  have HOK2 := Lib.hid hok2; clear hok2
                  have HM3 := Lib.hid hM3; clear hM3
                  go_upto_region 37 with (fail)
                  clear hd hd2 e0 e1
                  have hsum := HSUM.out
                  have hcs : ∀ W, Ext wB W → (W.cell? ⟨PA, 0, none⟩ = some (.slice ca na cca) ∧ W.cell? ⟨PA, 1, none⟩ = some (.slice ga ma cga) ∧ W.cell? ⟨PB, 0, none⟩ = some (.slice cb nb ccb) ∧ W.cell? ⟨PB, 1, none⟩ = some (.slice gb mb cgb)) := fun W k => HCS.out W (HX25.out.trans (HX57.out.trans (HX7B.out.trans k)))
                  have HCS3 := Lib.hid hcs; clear hcs
                  have HRA := Lib.hid (pk_run (HA.out.ext HXWB.out).come).1
                  have HRB := Lib.hid (pk_run (HB0.out.ext HXWB.out).come).1
                  have HSA2 := Lib.hid (strs_run.1 (HA.out.ext HXWB.out).go)
                  have HSB2 := Lib.hid (strs_run.1 (HB0.out.ext HXWB.out).go)
                  have HK := Lib.hid ((Ext.refl wB).drew)
                  go_cut [25] from 120 to 134 (fun p wx => ∃ (T : Nat) (xc : ChD × ChA), p = .pointer (some ⟨T, 0, none⟩) ∧ Hid (wx.heap[T]? = some (.cells #[.slice xc.2.ca xc.1.come.length xc.2.cc, .slice xc.2.ga xc.1.go.length xc.2.gc] 61 (0, 0))) ∧ Hid (xc.1.come = comeA ++ comeB ∧ xc.1.go = goA ++ goB) ∧ Hid (ChM wx xc) ∧ Hid (Ext wB wx))
                  case first =>
                    refine wp_region_noPanic ?_
                    refine wp_region_held_drew (S := (fun W => W.cell? ⟨PA, 0, none⟩ = some (.slice ca na cca) ∧ W.cell? ⟨PA, 1, none⟩ = some (.slice ga ma cga) ∧ W.cell? ⟨PB, 0, none⟩ = some (.slice cb nb ccb) ∧ W.cell? ⟨PB, 1, none⟩ = some (.slice gb mb cgb))) (by kernel_rfl) (HCS3.out _ HK.out) (fun hHeld => ?_)
                    clear hHeld
                    generalize wB.drew = wc at HK ⊢
                    refine wpAnyH_take (i := 1) (v := ?_) rfl (by kernel_rfl) (by kernel_rfl) (by kernel_rfl) (fun _ _ _ h => h) (Or.inl ⟨by kernel_rfl, ?_⟩) (HCS3.out _ HK.out) ?_
                    rotate_left
                    · (intro wq _; first | (go_simp; done) | (go_simp; with_reducible rfl))
                    try simp only [List.getElem_toArray, List.getElem_cons_zero, List.getElem_cons_succ, Act.put, List.setIfInBounds_toArray, List.set_cons_zero, List.set_cons_succ]
                    refine wpAnyH_take (i := 2) (v := ?_) rfl (by kernel_rfl) (by kernel_rfl) (by kernel_rfl) (fun _ _ _ h => h) (Or.inl ⟨by kernel_rfl, ?_⟩) (HCS3.out _ HK.out) ?_
                    rotate_left
                    · (intro wq hSw; (try dsimp only at hSw); first | (go_simp; done) | (go_simp; with_reducible rfl))
                    try simp only [List.getElem_toArray, List.getElem_cons_zero, List.getElem_cons_succ, Act.put, List.setIfInBounds_toArray, List.set_cons_zero, List.set_cons_succ]
                    refine wpAnyH_take (i := 4) (v := ?_) rfl (by kernel_rfl) (by kernel_rfl) (by kernel_rfl) (fun _ _ _ h => h) (Or.inl ⟨by kernel_rfl, ?_⟩) (HCS3.out _ HK.out) ?_
                    rotate_left
                    · (intro wq _; first | (go_simp; done) | (go_simp; with_reducible rfl))
                    try simp only [List.getElem_toArray, List.getElem_cons_zero, List.getElem_cons_succ, Act.put, List.setIfInBounds_toArray, List.set_cons_zero, List.set_cons_succ]
                    refine wpAnyH_take (i := 5) (v := ?_) rfl (by kernel_rfl) (by kernel_rfl) (by kernel_rfl) (fun _ _ _ h => h) (Or.inl ⟨by kernel_rfl, ?_⟩) (HCS3.out _ HK.out) ?_
                    rotate_left
                    · (intro wq hSw; (try dsimp only at hSw); first | (go_simp; done) | (go_simp; with_reducible rfl))
                    try simp only [List.getElem_toArray, List.getElem_cons_zero, List.getElem_cons_succ, Act.put, List.setIfInBounds_toArray, List.set_cons_zero, List.set_cons_succ]
                    refine wpAnyH_take (i := 8) (v := ?_) rfl (by kernel_rfl) (by kernel_rfl) (by kernel_rfl) (fun _ _ _ h => h) (Or.inl ⟨by kernel_rfl, ?_⟩) (HCS3.out _ HK.out) ?_
                    rotate_left
                    · (intro wq _; first | (go_simp; done) | (go_simp; with_reducible rfl))
                    try simp only [List.getElem_toArray, List.getElem_cons_zero, List.getElem_cons_succ, Act.put, List.setIfInBounds_toArray, List.set_cons_zero, List.set_cons_succ]
                    refine wpAnyH_take (i := 9) (v := ?_) rfl (by kernel_rfl) (by kernel_rfl) (by kernel_rfl) (fun _ _ _ h => h) (Or.inl ⟨by kernel_rfl, ?_⟩) (HCS3.out _ HK.out) ?_
                    rotate_left
                    · (intro wq hSw; (try dsimp only at hSw); first | (go_simp; done) | (go_simp; with_reducible rfl))
                    try simp only [List.getElem_toArray, List.getElem_cons_zero, List.getElem_cons_succ, Act.put, List.setIfInBounds_toArray, List.set_cons_zero, List.set_cons_succ]
                    refine wpAnyH_take (i := 11) (v := ?_) rfl (by kernel_rfl) (by kernel_rfl) (by kernel_rfl) (fun _ _ _ h => h) (Or.inl ⟨by kernel_rfl, ?_⟩) (HCS3.out _ HK.out) ?_
                    rotate_left
                    · (intro wq _; first | (go_simp; done) | (go_simp; with_reducible rfl))
                    try simp only [List.getElem_toArray, List.getElem_cons_zero, List.getElem_cons_succ, Act.put, List.setIfInBounds_toArray, List.set_cons_zero, List.set_cons_succ]
                    refine wpAnyH_take (i := 12) (v := ?_) rfl (by kernel_rfl) (by kernel_rfl) (by kernel_rfl) (fun _ _ _ h => h) (Or.inl ⟨by kernel_rfl, ?_⟩) (HCS3.out _ HK.out) ?_
                    rotate_left
                    · (intro wq hSw; (try dsimp only at hSw); first | (go_simp; done) | (go_simp; with_reducible rfl))
                    try simp only [List.getElem_toArray, List.getElem_cons_zero, List.getElem_cons_succ, Act.put, List.setIfInBounds_toArray, List.set_cons_zero, List.set_cons_succ]
                    all_goals (
                      first
                        | refine wpAnyH_ready (rs := [0, 7, 15]) (by decide +kernel) (by simp) ?_
                      repeat' (first | exact AllReadyH.nil | (refine AllReadyH.cons rfl (fun K hK => ?_) ?_)))
                    all_goals (
                      first
                        | (go_simp
                           first
                             | (have hx := Ext.alloc wc (.cells #[] 31)
                                have hbn := heap_alloc_new wc (.cells #[] 31)
                                have hle := HK.out.size
                                refine hK.out _ (wc.alloc (.cells #[] 31)) (HCS3.out _ (HK.out.trans hx)) (fun _ => ?_)
                                clear hK K
                                try replace HO := Lib.hid (ownsRow_ext HO.out hx)
                                try replace HQ := Lib.hid (ownsRow_ext HQ.out hx)
                                try replace HT := Lib.hid (hx.heap HT.out)
                                replace HK := Lib.hid (HK.out.trans hx)
                                obtain ⟨G0, hB⟩ : ∃ x, x = wc.heap.size := ⟨_, rfl⟩
                                rw [← hB] at hbn hle ⊢
                                have HO := Lib.hid (row_zero (base := wB.heap.size) (size := 6) hbn hle)
                                clear hbn hB hle hx
                                generalize wc.alloc (.cells #[] 31) = wc at *
                                try simp only [List.getElem_toArray, List.getElem_cons_zero, List.getElem_cons_succ, Act.put, List.setIfInBounds_toArray, List.set_cons_zero, List.set_cons_succ])
                             | (have hx := Ext.alloc wc (.cells #[] 9)
                                have hbn := heap_alloc_new wc (.cells #[] 9)
                                have hle := HK.out.size
                                refine hK.out _ (wc.alloc (.cells #[] 9)) (HCS3.out _ (HK.out.trans hx)) (fun _ => ?_)
                                clear hK K
                                try replace HO := Lib.hid (ownsRow_ext HO.out hx)
                                try replace HQ := Lib.hid (ownsRow_ext HQ.out hx)
                                try replace HT := Lib.hid (hx.heap HT.out)
                                replace HK := Lib.hid (HK.out.trans hx)
                                obtain ⟨G7, hB⟩ : ∃ x, x = wc.heap.size := ⟨_, rfl⟩
                                rw [← hB] at hbn hle ⊢
                                have HQ := Lib.hid (row_zero (base := wB.heap.size) (size := 1) hbn hle)
                                clear hbn hB hle hx
                                generalize wc.alloc (.cells #[] 9) = wc at *
                                try simp only [List.getElem_toArray, List.getElem_cons_zero, List.getElem_cons_succ, Act.put, List.setIfInBounds_toArray, List.set_cons_zero, List.set_cons_succ])
                             | (have hx := Ext.alloc wc (.cells #[.slice none 0 0, .slice none 0 0] 61)
                                have hbn := heap_alloc_new wc (.cells #[.slice none 0 0, .slice none 0 0] 61)
                                have hle := HK.out.size
                                refine hK.out _ (wc.alloc (.cells #[.slice none 0 0, .slice none 0 0] 61)) (HCS3.out _ (HK.out.trans hx)) (fun _ => ?_)
                                clear hK K
                                try replace HO := Lib.hid (ownsRow_ext HO.out hx)
                                try replace HQ := Lib.hid (ownsRow_ext HQ.out hx)
                                try replace HT := Lib.hid (hx.heap HT.out)
                                replace HK := Lib.hid (HK.out.trans hx)
                                obtain ⟨T, hB⟩ : ∃ x, x = wc.heap.size := ⟨_, rfl⟩
                                rw [← hB] at hbn hle ⊢
                                have HT := Lib.hid hbn
                                have LHT := Lib.hid hle
                                clear hbn hB hle hx
                                generalize wc.alloc (.cells #[.slice none 0 0, .slice none 0 0] 61) = wc at *
                                try simp only [List.getElem_toArray, List.getElem_cons_zero, List.getElem_cons_succ, Act.put, List.setIfInBounds_toArray, List.set_cons_zero, List.set_cons_succ])))
                    all_goals (
                      first
                        | refine wpAnyH_ready (rs := [3, 7, 15]) (by decide +kernel) (by simp) ?_
                        | refine wpAnyH_ready (rs := [0, 15]) (by decide +kernel) (by simp) ?_
                        | refine wpAnyH_ready (rs := [0, 7]) (by decide +kernel) (by simp) ?_
                      repeat' (first | exact AllReadyH.nil | (refine AllReadyH.cons rfl (fun K hK => ?_) ?_)))
                    all_goals (
                      first
                        | (refine step_append_any (by rfl) _ _ 59 31 (.agg #[.string ⟨#[]⟩, .string ⟨#[]⟩, .slice none 0 0, .slice none 0 0, .slice none 0 0, .slice none 0 0]) 6 128 (by rfl) Tryz.underlying59 info_pkg rfl (by decide) wB.heap.size (some ⟨G0, 0, none⟩) 0 0 ([]) (by simp [Act.eval]) HO.out ca na cca (comeA.flatMap pkV) (by simp [Act.eval]) (by rw [flat_lenm (m := 6) (fun _ => rfl), HLN.out.1]) (RunM.ext HRA.out HK.out) (pkV_one comeA) (by omega) (by decide) HK.out.size (na) (by omega) ?_
                           intro a3 c3 wn hown hkp hbl
                           try have hot := ownsRow_keep HQ.out hkp (fun g cur _ _ h3 => row_apart HO.out h3 (by decide))
                           try replace HQ := Lib.hid hot
                           try clear hot
                           try have htt := hkp.heap (row_apart HO.out HT.out (by decide)) HT.out
                           try replace HT := Lib.hid htt
                           try clear htt
                           replace HK := Lib.hid (Ext.of_below' HK.out hbl)
                           replace HO := Lib.hid hown
                           clear hown hkp hbl
                           refine hK.out _ _ (HCS3.out _ HK.out) (fun _ => ?_)
                           clear hK K
                           obtain ⟨wc, rfl⟩ : ∃ x : World, x = wn := ⟨_, rfl⟩
                           try simp only [List.getElem_toArray, List.getElem_cons_zero, List.getElem_cons_succ, Act.put, List.setIfInBounds_toArray, List.set_cons_zero, List.set_cons_succ])
                        | (go_simp
                           first
                             | (have hx := Ext.alloc wc (.cells #[] 31)
                                have hbn := heap_alloc_new wc (.cells #[] 31)
                                have hle := HK.out.size
                                refine hK.out _ (wc.alloc (.cells #[] 31)) (HCS3.out _ (HK.out.trans hx)) (fun _ => ?_)
                                clear hK K
                                try replace HO := Lib.hid (ownsRow_ext HO.out hx)
                                try replace HQ := Lib.hid (ownsRow_ext HQ.out hx)
                                try replace HT := Lib.hid (hx.heap HT.out)
                                replace HK := Lib.hid (HK.out.trans hx)
                                obtain ⟨G0, hB⟩ : ∃ x, x = wc.heap.size := ⟨_, rfl⟩
                                rw [← hB] at hbn hle ⊢
                                have HO := Lib.hid (row_zero (base := wB.heap.size) (size := 6) hbn hle)
                                clear hbn hB hle hx
                                generalize wc.alloc (.cells #[] 31) = wc at *
                                try simp only [List.getElem_toArray, List.getElem_cons_zero, List.getElem_cons_succ, Act.put, List.setIfInBounds_toArray, List.set_cons_zero, List.set_cons_succ])
                             | (have hx := Ext.alloc wc (.cells #[] 9)
                                have hbn := heap_alloc_new wc (.cells #[] 9)
                                have hle := HK.out.size
                                refine hK.out _ (wc.alloc (.cells #[] 9)) (HCS3.out _ (HK.out.trans hx)) (fun _ => ?_)
                                clear hK K
                                try replace HO := Lib.hid (ownsRow_ext HO.out hx)
                                try replace HQ := Lib.hid (ownsRow_ext HQ.out hx)
                                try replace HT := Lib.hid (hx.heap HT.out)
                                replace HK := Lib.hid (HK.out.trans hx)
                                obtain ⟨G7, hB⟩ : ∃ x, x = wc.heap.size := ⟨_, rfl⟩
                                rw [← hB] at hbn hle ⊢
                                have HQ := Lib.hid (row_zero (base := wB.heap.size) (size := 1) hbn hle)
                                clear hbn hB hle hx
                                generalize wc.alloc (.cells #[] 9) = wc at *
                                try simp only [List.getElem_toArray, List.getElem_cons_zero, List.getElem_cons_succ, Act.put, List.setIfInBounds_toArray, List.set_cons_zero, List.set_cons_succ])
                             | (have hx := Ext.alloc wc (.cells #[.slice none 0 0, .slice none 0 0] 61)
                                have hbn := heap_alloc_new wc (.cells #[.slice none 0 0, .slice none 0 0] 61)
                                have hle := HK.out.size
                                refine hK.out _ (wc.alloc (.cells #[.slice none 0 0, .slice none 0 0] 61)) (HCS3.out _ (HK.out.trans hx)) (fun _ => ?_)
                                clear hK K
                                try replace HO := Lib.hid (ownsRow_ext HO.out hx)
                                try replace HQ := Lib.hid (ownsRow_ext HQ.out hx)
                                try replace HT := Lib.hid (hx.heap HT.out)
                                replace HK := Lib.hid (HK.out.trans hx)
                                obtain ⟨T, hB⟩ : ∃ x, x = wc.heap.size := ⟨_, rfl⟩
                                rw [← hB] at hbn hle ⊢
                                have HT := Lib.hid hbn
                                have LHT := Lib.hid hle
                                clear hbn hB hle hx
                                generalize wc.alloc (.cells #[.slice none 0 0, .slice none 0 0] 61) = wc at *
                                try simp only [List.getElem_toArray, List.getElem_cons_zero, List.getElem_cons_succ, Act.put, List.setIfInBounds_toArray, List.set_cons_zero, List.set_cons_succ])))
                    all_goals (
                      first
                        | refine wpAnyH_ready (rs := [6, 7, 15]) (by decide +kernel) (by simp) ?_
                        | refine wpAnyH_ready (rs := [3, 15]) (by decide +kernel) (by simp) ?_
                        | refine wpAnyH_ready (rs := [3, 7]) (by decide +kernel) (by simp) ?_
                        | refine wpAnyH_ready (rs := [0]) (by decide +kernel) (by simp) ?_
                      repeat' (first | exact AllReadyH.nil | (refine AllReadyH.cons rfl (fun K hK => ?_) ?_)))
                    all_goals (
                      first
                        | (refine step_append_any (by rfl) _ _ 59 31 (.agg #[.string ⟨#[]⟩, .string ⟨#[]⟩, .slice none 0 0, .slice none 0 0, .slice none 0 0, .slice none 0 0]) 6 128 (by rfl) Tryz.underlying59 info_pkg rfl (by decide) wB.heap.size (some ⟨G0, 0, none⟩) 0 0 ([]) (by simp [Act.eval]) HO.out ca na cca (comeA.flatMap pkV) (by simp [Act.eval]) (by rw [flat_lenm (m := 6) (fun _ => rfl), HLN.out.1]) (RunM.ext HRA.out HK.out) (pkV_one comeA) (by omega) (by decide) HK.out.size (na) (by omega) ?_
                           intro a3 c3 wn hown hkp hbl
                           try have hot := ownsRow_keep HQ.out hkp (fun g cur _ _ h3 => row_apart HO.out h3 (by decide))
                           try replace HQ := Lib.hid hot
                           try clear hot
                           try have htt := hkp.heap (row_apart HO.out HT.out (by decide)) HT.out
                           try replace HT := Lib.hid htt
                           try clear htt
                           replace HK := Lib.hid (Ext.of_below' HK.out hbl)
                           replace HO := Lib.hid hown
                           clear hown hkp hbl
                           refine hK.out _ _ (HCS3.out _ HK.out) (fun _ => ?_)
                           clear hK K
                           obtain ⟨wc, rfl⟩ : ∃ x : World, x = wn := ⟨_, rfl⟩
                           try simp only [List.getElem_toArray, List.getElem_cons_zero, List.getElem_cons_succ, Act.put, List.setIfInBounds_toArray, List.set_cons_zero, List.set_cons_succ])
                        | (refine step_append_any (by rfl) _ _ 59 31 (.agg #[.string ⟨#[]⟩, .string ⟨#[]⟩, .slice none 0 0, .slice none 0 0, .slice none 0 0, .slice none 0 0]) 6 128 (by rfl) Tryz.underlying59 info_pkg rfl (by decide) wB.heap.size a3 na c3 ([] ++ comeA.flatMap pkV) (by simp [Act.eval]) HO.out cb nb ccb (comeB.flatMap pkV) (by simp [Act.eval]) (by rw [flat_lenm (m := 6) (fun _ => rfl), HLN.out.2.2.1]) (RunM.ext HRB.out HK.out) (pkV_one comeB) (by omega) (by decide) HK.out.size (na + nb) (by omega) ?_
                           intro a6 c6 wn hown hkp hbl
                           try have hot := ownsRow_keep HQ.out hkp (fun g cur _ _ h3 => row_apart HO.out h3 (by decide))
                           try replace HQ := Lib.hid hot
                           try clear hot
                           try have htt := hkp.heap (row_apart HO.out HT.out (by decide)) HT.out
                           try replace HT := Lib.hid htt
                           try clear htt
                           replace HK := Lib.hid (Ext.of_below' HK.out hbl)
                           replace HO := Lib.hid hown
                           clear hown hkp hbl
                           refine hK.out _ _ (HCS3.out _ HK.out) (fun _ => ?_)
                           clear hK K
                           obtain ⟨wc, rfl⟩ : ∃ x : World, x = wn := ⟨_, rfl⟩
                           try simp only [List.getElem_toArray, List.getElem_cons_zero, List.getElem_cons_succ, Act.put, List.setIfInBounds_toArray, List.set_cons_zero, List.set_cons_succ])
                        | (go_simp
                           first
                             | (have hx := Ext.alloc wc (.cells #[] 31)
                                have hbn := heap_alloc_new wc (.cells #[] 31)
                                have hle := HK.out.size
                                refine hK.out _ (wc.alloc (.cells #[] 31)) (HCS3.out _ (HK.out.trans hx)) (fun _ => ?_)
                                clear hK K
                                try replace HO := Lib.hid (ownsRow_ext HO.out hx)
                                try replace HQ := Lib.hid (ownsRow_ext HQ.out hx)
                                try replace HT := Lib.hid (hx.heap HT.out)
                                replace HK := Lib.hid (HK.out.trans hx)
                                obtain ⟨G0, hB⟩ : ∃ x, x = wc.heap.size := ⟨_, rfl⟩
                                rw [← hB] at hbn hle ⊢
                                have HO := Lib.hid (row_zero (base := wB.heap.size) (size := 6) hbn hle)
                                clear hbn hB hle hx
                                generalize wc.alloc (.cells #[] 31) = wc at *
                                try simp only [List.getElem_toArray, List.getElem_cons_zero, List.getElem_cons_succ, Act.put, List.setIfInBounds_toArray, List.set_cons_zero, List.set_cons_succ])
                             | (have hx := Ext.alloc wc (.cells #[] 9)
                                have hbn := heap_alloc_new wc (.cells #[] 9)
                                have hle := HK.out.size
                                refine hK.out _ (wc.alloc (.cells #[] 9)) (HCS3.out _ (HK.out.trans hx)) (fun _ => ?_)
                                clear hK K
                                try replace HO := Lib.hid (ownsRow_ext HO.out hx)
                                try replace HQ := Lib.hid (ownsRow_ext HQ.out hx)
                                try replace HT := Lib.hid (hx.heap HT.out)
                                replace HK := Lib.hid (HK.out.trans hx)
                                obtain ⟨G7, hB⟩ : ∃ x, x = wc.heap.size := ⟨_, rfl⟩
                                rw [← hB] at hbn hle ⊢
                                have HQ := Lib.hid (row_zero (base := wB.heap.size) (size := 1) hbn hle)
                                clear hbn hB hle hx
                                generalize wc.alloc (.cells #[] 9) = wc at *
                                try simp only [List.getElem_toArray, List.getElem_cons_zero, List.getElem_cons_succ, Act.put, List.setIfInBounds_toArray, List.set_cons_zero, List.set_cons_succ])
                             | (have hx := Ext.alloc wc (.cells #[.slice none 0 0, .slice none 0 0] 61)
                                have hbn := heap_alloc_new wc (.cells #[.slice none 0 0, .slice none 0 0] 61)
                                have hle := HK.out.size
                                refine hK.out _ (wc.alloc (.cells #[.slice none 0 0, .slice none 0 0] 61)) (HCS3.out _ (HK.out.trans hx)) (fun _ => ?_)
                                clear hK K
                                try replace HO := Lib.hid (ownsRow_ext HO.out hx)
                                try replace HQ := Lib.hid (ownsRow_ext HQ.out hx)
                                try replace HT := Lib.hid (hx.heap HT.out)
                                replace HK := Lib.hid (HK.out.trans hx)
                                obtain ⟨T, hB⟩ : ∃ x, x = wc.heap.size := ⟨_, rfl⟩
                                rw [← hB] at hbn hle ⊢
                                have HT := Lib.hid hbn
                                have LHT := Lib.hid hle
                                clear hbn hB hle hx
                                generalize wc.alloc (.cells #[.slice none 0 0, .slice none 0 0] 61) = wc at *
                                try simp only [List.getElem_toArray, List.getElem_cons_zero, List.getElem_cons_succ, Act.put, List.setIfInBounds_toArray, List.set_cons_zero, List.set_cons_succ])))
                    all_goals (
                      first
                        | refine wpAnyH_ready (rs := [7, 15]) (by decide +kernel) (by simp) ?_
                        | refine wpAnyH_ready (rs := [6, 15]) (by decide +kernel) (by simp) ?_
                        | refine wpAnyH_ready (rs := [6, 7]) (by decide +kernel) (by simp) ?_
                        | refine wpAnyH_ready (rs := [3]) (by decide +kernel) (by simp) ?_
                      repeat' (first | exact AllReadyH.nil | (refine AllReadyH.cons rfl (fun K hK => ?_) ?_)))
                    all_goals (
                      first
                        | (refine step_append_any (by rfl) _ _ 59 31 (.agg #[.string ⟨#[]⟩, .string ⟨#[]⟩, .slice none 0 0, .slice none 0 0, .slice none 0 0, .slice none 0 0]) 6 128 (by rfl) Tryz.underlying59 info_pkg rfl (by decide) wB.heap.size (some ⟨G0, 0, none⟩) 0 0 ([]) (by simp [Act.eval]) HO.out ca na cca (comeA.flatMap pkV) (by simp [Act.eval]) (by rw [flat_lenm (m := 6) (fun _ => rfl), HLN.out.1]) (RunM.ext HRA.out HK.out) (pkV_one comeA) (by omega) (by decide) HK.out.size (na) (by omega) ?_
                           intro a3 c3 wn hown hkp hbl
                           try have hot := ownsRow_keep HQ.out hkp (fun g cur _ _ h3 => row_apart HO.out h3 (by decide))
                           try replace HQ := Lib.hid hot
                           try clear hot
                           try have htt := hkp.heap (row_apart HO.out HT.out (by decide)) HT.out
                           try replace HT := Lib.hid htt
                           try clear htt
                           replace HK := Lib.hid (Ext.of_below' HK.out hbl)
                           replace HO := Lib.hid hown
                           clear hown hkp hbl
                           refine hK.out _ _ (HCS3.out _ HK.out) (fun _ => ?_)
                           clear hK K
                           obtain ⟨wc, rfl⟩ : ∃ x : World, x = wn := ⟨_, rfl⟩
                           try simp only [List.getElem_toArray, List.getElem_cons_zero, List.getElem_cons_succ, Act.put, List.setIfInBounds_toArray, List.set_cons_zero, List.set_cons_succ])
                        | (refine step_append_any (by rfl) _ _ 59 31 (.agg #[.string ⟨#[]⟩, .string ⟨#[]⟩, .slice none 0 0, .slice none 0 0, .slice none 0 0, .slice none 0 0]) 6 128 (by rfl) Tryz.underlying59 info_pkg rfl (by decide) wB.heap.size a3 na c3 ([] ++ comeA.flatMap pkV) (by simp [Act.eval]) HO.out cb nb ccb (comeB.flatMap pkV) (by simp [Act.eval]) (by rw [flat_lenm (m := 6) (fun _ => rfl), HLN.out.2.2.1]) (RunM.ext HRB.out HK.out) (pkV_one comeB) (by omega) (by decide) HK.out.size (na + nb) (by omega) ?_
                           intro a6 c6 wn hown hkp hbl
                           try have hot := ownsRow_keep HQ.out hkp (fun g cur _ _ h3 => row_apart HO.out h3 (by decide))
                           try replace HQ := Lib.hid hot
                           try clear hot
                           try have htt := hkp.heap (row_apart HO.out HT.out (by decide)) HT.out
                           try replace HT := Lib.hid htt
                           try clear htt
                           replace HK := Lib.hid (Ext.of_below' HK.out hbl)
                           replace HO := Lib.hid hown
                           clear hown hkp hbl
                           refine hK.out _ _ (HCS3.out _ HK.out) (fun _ => ?_)
                           clear hK K
                           obtain ⟨wc, rfl⟩ : ∃ x : World, x = wn := ⟨_, rfl⟩
                           try simp only [List.getElem_toArray, List.getElem_cons_zero, List.getElem_cons_succ, Act.put, List.setIfInBounds_toArray, List.set_cons_zero, List.set_cons_succ])
                        | (go_simp
                           first
                             | (have hx := Ext.alloc wc (.cells #[] 9)
                                have hbn := heap_alloc_new wc (.cells #[] 9)
                                have hle := HK.out.size
                                refine hK.out _ (wc.alloc (.cells #[] 9)) (HCS3.out _ (HK.out.trans hx)) (fun _ => ?_)
                                clear hK K
                                try replace HO := Lib.hid (ownsRow_ext HO.out hx)
                                try replace HQ := Lib.hid (ownsRow_ext HQ.out hx)
                                try replace HT := Lib.hid (hx.heap HT.out)
                                replace HK := Lib.hid (HK.out.trans hx)
                                obtain ⟨G7, hB⟩ : ∃ x, x = wc.heap.size := ⟨_, rfl⟩
                                rw [← hB] at hbn hle ⊢
                                have HQ := Lib.hid (row_zero (base := wB.heap.size) (size := 1) hbn hle)
                                clear hbn hB hle hx
                                generalize wc.alloc (.cells #[] 9) = wc at *
                                try simp only [List.getElem_toArray, List.getElem_cons_zero, List.getElem_cons_succ, Act.put, List.setIfInBounds_toArray, List.set_cons_zero, List.set_cons_succ])
                             | (have hx := Ext.alloc wc (.cells #[.slice none 0 0, .slice none 0 0] 61)
                                have hbn := heap_alloc_new wc (.cells #[.slice none 0 0, .slice none 0 0] 61)
                                have hle := HK.out.size
                                refine hK.out _ (wc.alloc (.cells #[.slice none 0 0, .slice none 0 0] 61)) (HCS3.out _ (HK.out.trans hx)) (fun _ => ?_)
                                clear hK K
                                try replace HO := Lib.hid (ownsRow_ext HO.out hx)
                                try replace HQ := Lib.hid (ownsRow_ext HQ.out hx)
                                try replace HT := Lib.hid (hx.heap HT.out)
                                replace HK := Lib.hid (HK.out.trans hx)
                                obtain ⟨T, hB⟩ : ∃ x, x = wc.heap.size := ⟨_, rfl⟩
                                rw [← hB] at hbn hle ⊢
                                have HT := Lib.hid hbn
                                have LHT := Lib.hid hle
                                clear hbn hB hle hx
                                generalize wc.alloc (.cells #[.slice none 0 0, .slice none 0 0] 61) = wc at *
                                try simp only [List.getElem_toArray, List.getElem_cons_zero, List.getElem_cons_succ, Act.put, List.setIfInBounds_toArray, List.set_cons_zero, List.set_cons_succ])))
                    all_goals (
                      first
                        | refine wpAnyH_ready (rs := [10, 15]) (by decide +kernel) (by simp) ?_
                        | refine wpAnyH_ready (rs := [7]) (by decide +kernel) (by simp) ?_
                        | refine wpAnyH_ready (rs := [6]) (by decide +kernel) (by simp) ?_
                      repeat' (first | exact AllReadyH.nil | (refine AllReadyH.cons rfl (fun K hK => ?_) ?_)))
                    all_goals (
                      first
                        | (refine step_append_any (by rfl) _ _ 59 31 (.agg #[.string ⟨#[]⟩, .string ⟨#[]⟩, .slice none 0 0, .slice none 0 0, .slice none 0 0, .slice none 0 0]) 6 128 (by rfl) Tryz.underlying59 info_pkg rfl (by decide) wB.heap.size a3 na c3 ([] ++ comeA.flatMap pkV) (by simp [Act.eval]) HO.out cb nb ccb (comeB.flatMap pkV) (by simp [Act.eval]) (by rw [flat_lenm (m := 6) (fun _ => rfl), HLN.out.2.2.1]) (RunM.ext HRB.out HK.out) (pkV_one comeB) (by omega) (by decide) HK.out.size (na + nb) (by omega) ?_
                           intro a6 c6 wn hown hkp hbl
                           try have hot := ownsRow_keep HQ.out hkp (fun g cur _ _ h3 => row_apart HO.out h3 (by decide))
                           try replace HQ := Lib.hid hot
                           try clear hot
                           try have htt := hkp.heap (row_apart HO.out HT.out (by decide)) HT.out
                           try replace HT := Lib.hid htt
                           try clear htt
                           replace HK := Lib.hid (Ext.of_below' HK.out hbl)
                           replace HO := Lib.hid hown
                           clear hown hkp hbl
                           refine hK.out _ _ (HCS3.out _ HK.out) (fun _ => ?_)
                           clear hK K
                           obtain ⟨wc, rfl⟩ : ∃ x : World, x = wn := ⟨_, rfl⟩
                           try simp only [List.getElem_toArray, List.getElem_cons_zero, List.getElem_cons_succ, Act.put, List.setIfInBounds_toArray, List.set_cons_zero, List.set_cons_succ])
                        | (refine step_append_any (by rfl) _ _ 28 9 (.string ⟨#[]⟩) 1 16 (by rfl) Tryz.underlying28 info_string rfl (by decide) wB.heap.size (some ⟨G7, 0, none⟩) 0 0 ([]) (by simp [Act.eval]) HQ.out ga ma cga (textV goA) (by simp [Act.eval]) (by rw [textV_len, HLN.out.2.1, Nat.mul_one]) (RunM.ext HSA2.out HK.out) (textV_one goA) (by omega) (by decide) HK.out.size (ma) (by omega) ?_
                           intro a10 c10 wn hown hkp hbl
                           try have hot := ownsRow_keep HO.out hkp (fun g cur _ _ h3 => row_apart HQ.out h3 (by decide))
                           try replace HO := Lib.hid hot
                           try clear hot
                           try have htt := hkp.heap (row_apart HQ.out HT.out (by decide)) HT.out
                           try replace HT := Lib.hid htt
                           try clear htt
                           replace HK := Lib.hid (Ext.of_below' HK.out hbl)
                           replace HQ := Lib.hid hown
                           clear hown hkp hbl
                           refine hK.out _ _ (HCS3.out _ HK.out) (fun _ => ?_)
                           clear hK K
                           obtain ⟨wc, rfl⟩ : ∃ x : World, x = wn := ⟨_, rfl⟩
                           try simp only [List.getElem_toArray, List.getElem_cons_zero, List.getElem_cons_succ, Act.put, List.setIfInBounds_toArray, List.set_cons_zero, List.set_cons_succ])
                        | (go_simp
                           first
                             | (have hx := Ext.alloc wc (.cells #[] 9)
                                have hbn := heap_alloc_new wc (.cells #[] 9)
                                have hle := HK.out.size
                                refine hK.out _ (wc.alloc (.cells #[] 9)) (HCS3.out _ (HK.out.trans hx)) (fun _ => ?_)
                                clear hK K
                                try replace HO := Lib.hid (ownsRow_ext HO.out hx)
                                try replace HQ := Lib.hid (ownsRow_ext HQ.out hx)
                                try replace HT := Lib.hid (hx.heap HT.out)
                                replace HK := Lib.hid (HK.out.trans hx)
                                obtain ⟨G7, hB⟩ : ∃ x, x = wc.heap.size := ⟨_, rfl⟩
                                rw [← hB] at hbn hle ⊢
                                have HQ := Lib.hid (row_zero (base := wB.heap.size) (size := 1) hbn hle)
                                clear hbn hB hle hx
                                generalize wc.alloc (.cells #[] 9) = wc at *
                                try simp only [List.getElem_toArray, List.getElem_cons_zero, List.getElem_cons_succ, Act.put, List.setIfInBounds_toArray, List.set_cons_zero, List.set_cons_succ])
                             | (have hx := Ext.alloc wc (.cells #[.slice none 0 0, .slice none 0 0] 61)
                                have hbn := heap_alloc_new wc (.cells #[.slice none 0 0, .slice none 0 0] 61)
                                have hle := HK.out.size
                                refine hK.out _ (wc.alloc (.cells #[.slice none 0 0, .slice none 0 0] 61)) (HCS3.out _ (HK.out.trans hx)) (fun _ => ?_)
                                clear hK K
                                try replace HO := Lib.hid (ownsRow_ext HO.out hx)
                                try replace HQ := Lib.hid (ownsRow_ext HQ.out hx)
                                try replace HT := Lib.hid (hx.heap HT.out)
                                replace HK := Lib.hid (HK.out.trans hx)
                                obtain ⟨T, hB⟩ : ∃ x, x = wc.heap.size := ⟨_, rfl⟩
                                rw [← hB] at hbn hle ⊢
                                have HT := Lib.hid hbn
                                have LHT := Lib.hid hle
                                clear hbn hB hle hx
                                generalize wc.alloc (.cells #[.slice none 0 0, .slice none 0 0] 61) = wc at *
                                try simp only [List.getElem_toArray, List.getElem_cons_zero, List.getElem_cons_succ, Act.put, List.setIfInBounds_toArray, List.set_cons_zero, List.set_cons_succ])))
                    all_goals (
                      first
                        | refine wpAnyH_ready (rs := [13, 15]) (by decide +kernel) (by simp) ?_
                        | refine wpAnyH_ready (rs := [10]) (by decide +kernel) (by simp) ?_
                      repeat' (first | exact AllReadyH.nil | (refine AllReadyH.cons rfl (fun K hK => ?_) ?_)))
                    all_goals (
                      first
                        | (refine step_append_any (by rfl) _ _ 28 9 (.string ⟨#[]⟩) 1 16 (by rfl) Tryz.underlying28 info_string rfl (by decide) wB.heap.size (some ⟨G7, 0, none⟩) 0 0 ([]) (by simp [Act.eval]) HQ.out ga ma cga (textV goA) (by simp [Act.eval]) (by rw [textV_len, HLN.out.2.1, Nat.mul_one]) (RunM.ext HSA2.out HK.out) (textV_one goA) (by omega) (by decide) HK.out.size (ma) (by omega) ?_
                           intro a10 c10 wn hown hkp hbl
                           try have hot := ownsRow_keep HO.out hkp (fun g cur _ _ h3 => row_apart HQ.out h3 (by decide))
                           try replace HO := Lib.hid hot
                           try clear hot
                           try have htt := hkp.heap (row_apart HQ.out HT.out (by decide)) HT.out
                           try replace HT := Lib.hid htt
                           try clear htt
                           replace HK := Lib.hid (Ext.of_below' HK.out hbl)
                           replace HQ := Lib.hid hown
                           clear hown hkp hbl
                           refine hK.out _ _ (HCS3.out _ HK.out) (fun _ => ?_)
                           clear hK K
                           obtain ⟨wc, rfl⟩ : ∃ x : World, x = wn := ⟨_, rfl⟩
                           try simp only [List.getElem_toArray, List.getElem_cons_zero, List.getElem_cons_succ, Act.put, List.setIfInBounds_toArray, List.set_cons_zero, List.set_cons_succ])
                        | (refine step_append_any (by rfl) _ _ 28 9 (.string ⟨#[]⟩) 1 16 (by rfl) Tryz.underlying28 info_string rfl (by decide) wB.heap.size a10 ma c10 ([] ++ textV goA) (by simp [Act.eval]) HQ.out gb mb cgb (textV goB) (by simp [Act.eval]) (by rw [textV_len, HLN.out.2.2.2, Nat.mul_one]) (RunM.ext HSB2.out HK.out) (textV_one goB) (by omega) (by decide) HK.out.size (ma + mb) (by omega) ?_
                           intro a13 c13 wn hown hkp hbl
                           try have hot := ownsRow_keep HO.out hkp (fun g cur _ _ h3 => row_apart HQ.out h3 (by decide))
                           try replace HO := Lib.hid hot
                           try clear hot
                           try have htt := hkp.heap (row_apart HQ.out HT.out (by decide)) HT.out
                           try replace HT := Lib.hid htt
                           try clear htt
                           replace HK := Lib.hid (Ext.of_below' HK.out hbl)
                           replace HQ := Lib.hid hown
                           clear hown hkp hbl
                           refine hK.out _ _ (HCS3.out _ HK.out) (fun _ => ?_)
                           clear hK K
                           obtain ⟨wc, rfl⟩ : ∃ x : World, x = wn := ⟨_, rfl⟩
                           try simp only [List.getElem_toArray, List.getElem_cons_zero, List.getElem_cons_succ, Act.put, List.setIfInBounds_toArray, List.set_cons_zero, List.set_cons_succ]
                           refine wpAnyH_take (i := 14) (v := ?_) rfl (by kernel_rfl) (by kernel_rfl) (by kernel_rfl) (fun _ _ _ h => h) (Or.inl ⟨by kernel_rfl, ?_⟩) (HCS3.out _ HK.out) ?_
                           rotate_left
                           · (intro wq _; first | (go_simp; done) | (go_simp; with_reducible rfl))
                           try simp only [List.getElem_toArray, List.getElem_cons_zero, List.getElem_cons_succ, Act.put, List.setIfInBounds_toArray, List.set_cons_zero, List.set_cons_succ])
                        | (go_simp
                           first
                             | (have hx := Ext.alloc wc (.cells #[.slice none 0 0, .slice none 0 0] 61)
                                have hbn := heap_alloc_new wc (.cells #[.slice none 0 0, .slice none 0 0] 61)
                                have hle := HK.out.size
                                refine hK.out _ (wc.alloc (.cells #[.slice none 0 0, .slice none 0 0] 61)) (HCS3.out _ (HK.out.trans hx)) (fun _ => ?_)
                                clear hK K
                                try replace HO := Lib.hid (ownsRow_ext HO.out hx)
                                try replace HQ := Lib.hid (ownsRow_ext HQ.out hx)
                                try replace HT := Lib.hid (hx.heap HT.out)
                                replace HK := Lib.hid (HK.out.trans hx)
                                obtain ⟨T, hB⟩ : ∃ x, x = wc.heap.size := ⟨_, rfl⟩
                                rw [← hB] at hbn hle ⊢
                                have HT := Lib.hid hbn
                                have LHT := Lib.hid hle
                                clear hbn hB hle hx
                                generalize wc.alloc (.cells #[.slice none 0 0, .slice none 0 0] 61) = wc at *
                                try simp only [List.getElem_toArray, List.getElem_cons_zero, List.getElem_cons_succ, Act.put, List.setIfInBounds_toArray, List.set_cons_zero, List.set_cons_succ])))
                    all_goals (
                      first
                        | refine wpAnyH_ready (rs := [15]) (by decide +kernel) (by simp) ?_
                        | refine wpAnyH_ready (rs := [13]) (by decide +kernel) (by simp) ?_
                      repeat' (first | exact AllReadyH.nil | (refine AllReadyH.cons rfl (fun K hK => ?_) ?_)))
                    all_goals (
                      first
                        | (refine step_append_any (by rfl) _ _ 28 9 (.string ⟨#[]⟩) 1 16 (by rfl) Tryz.underlying28 info_string rfl (by decide) wB.heap.size a10 ma c10 ([] ++ textV goA) (by simp [Act.eval]) HQ.out gb mb cgb (textV goB) (by simp [Act.eval]) (by rw [textV_len, HLN.out.2.2.2, Nat.mul_one]) (RunM.ext HSB2.out HK.out) (textV_one goB) (by omega) (by decide) HK.out.size (ma + mb) (by omega) ?_
                           intro a13 c13 wn hown hkp hbl
                           try have hot := ownsRow_keep HO.out hkp (fun g cur _ _ h3 => row_apart HQ.out h3 (by decide))
                           try replace HO := Lib.hid hot
                           try clear hot
                           try have htt := hkp.heap (row_apart HQ.out HT.out (by decide)) HT.out
                           try replace HT := Lib.hid htt
                           try clear htt
                           replace HK := Lib.hid (Ext.of_below' HK.out hbl)
                           replace HQ := Lib.hid hown
                           clear hown hkp hbl
                           refine hK.out _ _ (HCS3.out _ HK.out) (fun _ => ?_)
                           clear hK K
                           obtain ⟨wc, rfl⟩ : ∃ x : World, x = wn := ⟨_, rfl⟩
                           try simp only [List.getElem_toArray, List.getElem_cons_zero, List.getElem_cons_succ, Act.put, List.setIfInBounds_toArray, List.set_cons_zero, List.set_cons_succ]
                           refine wpAnyH_take (i := 14) (v := ?_) rfl (by kernel_rfl) (by kernel_rfl) (by kernel_rfl) (fun _ _ _ h => h) (Or.inl ⟨by kernel_rfl, ?_⟩) (HCS3.out _ HK.out) ?_
                           rotate_left
                           · (intro wq _; first | (go_simp; done) | (go_simp; with_reducible rfl))
                           try simp only [List.getElem_toArray, List.getElem_cons_zero, List.getElem_cons_succ, Act.put, List.setIfInBounds_toArray, List.set_cons_zero, List.set_cons_succ])
                        | (go_simp
                           first
                             | (have hx := Ext.alloc wc (.cells #[.slice none 0 0, .slice none 0 0] 61)
                                have hbn := heap_alloc_new wc (.cells #[.slice none 0 0, .slice none 0 0] 61)
                                have hle := HK.out.size
                                refine hK.out _ (wc.alloc (.cells #[.slice none 0 0, .slice none 0 0] 61)) (HCS3.out _ (HK.out.trans hx)) (fun _ => ?_)
                                clear hK K
                                try replace HO := Lib.hid (ownsRow_ext HO.out hx)
                                try replace HQ := Lib.hid (ownsRow_ext HQ.out hx)
                                try replace HT := Lib.hid (hx.heap HT.out)
                                replace HK := Lib.hid (HK.out.trans hx)
                                obtain ⟨T, hB⟩ : ∃ x, x = wc.heap.size := ⟨_, rfl⟩
                                rw [← hB] at hbn hle ⊢
                                have HT := Lib.hid hbn
                                have LHT := Lib.hid hle
                                clear hbn hB hle hx
                                generalize wc.alloc (.cells #[.slice none 0 0, .slice none 0 0] 61) = wc at *
                                try simp only [List.getElem_toArray, List.getElem_cons_zero, List.getElem_cons_succ, Act.put, List.setIfInBounds_toArray, List.set_cons_zero, List.set_cons_succ])))
                    all_goals (
                      refine wpAnyH_ready (rs := [16]) (by kernel_rfl) (by simp) ?_
                      refine AllReadyH.cons rfl (fun K hK => ?_) AllReadyH.nil
                      have n0 := blk_cell HT.out 0 (Value.slice none 0 0) rfl
                      have n1 := blk_cell HT.out 1 (Value.slice none 0 0) rfl
                      have g0 := blk_free HT.out 0
                      have g1 := blk_free HT.out 1
                      go_simp
                      obtain ⟨hs6, hbut⟩ := set2f HT.out (.slice a6 (na + nb) c6) (.slice a13 (ma + mb) c13)
                      have hoo := ownsRow_keep HO.out (Keep.of_but hbut) (fun g cur _ _ h3 => apart_types h3 HT.out (by decide))
                      have hqq := ownsRow_keep HQ.out (Keep.of_but hbut) (fun g cur _ _ h3 => apart_types h3 HT.out (by decide))
                      have hkn : Ext wB ((wc.setCell ⟨T, 0, none⟩ (.slice a6 (na + nb) c6)).setCell ⟨T, 1, none⟩ (.slice a13 (ma + mb) c13)) := ((Keep.of_ext (S := fun j => j < wB.heap.size) HK.out).andThen (Keep.of_but hbut) (fun j hj _ => by have := LHT.out; show j ≠ T; omega)).ext_lt
                      clear n0 n1 g0 g1 hbut
                      generalize ((wc.setCell ⟨T, 0, none⟩ (.slice a6 (na + nb) c6)).setCell ⟨T, 1, none⟩ (.slice a13 (ma + mb) c13)) = wt at hs6 hoo hqq hkn ⊢
                      replace HT := Lib.hid hs6; clear hs6
                      replace HO := Lib.hid hoo; clear hoo
                      replace HQ := Lib.hid hqq; clear hqq
                      replace HK := Lib.hid hkn; clear hkn
                      refine hK.out _ _ (HCS3.out _ HK.out) (fun _ => ?_)
                      clear hK K
                      try simp only [List.getElem_toArray, List.getElem_cons_zero, List.getElem_cons_succ, Act.put, List.setIfInBounds_toArray, List.set_cons_zero, List.set_cons_succ])
                    all_goals (
                      refine wpAnyH_done (by kernel_rfl) ?_ _
                      refine NoPanic.normal ?_
                      go_wp2_with fail
                      go_meet
                      exact both_cut ((⟨comeA, goA⟩, ⟨ca, cca, ga, cga⟩) : ChD × ChA) ((⟨comeB, goB⟩, ⟨cb, ccb, gb, cgb⟩) : ChD × ChA) HLN.out.1 HLN.out.2.1 HLN.out.2.2.1 HLN.out.2.2.2 (by omega) (HA.out.ext (HXWB.out.trans HK.out)) (HB0.out.ext (HXWB.out.trans HK.out)) HT.out HO.out HQ.out HK.out)
                  case rest =>
                    obtain ⟨T, xc, rfl, hT, hxc, hC, hx⟩ := hcut
                    obtain ⟨wD, rfl⟩ : ∃ wD : World, wD = wc := ⟨_, rfl⟩
                    obtain ⟨⟨comeC, goC⟩, ⟨cC, ccC, gC, cgC⟩⟩ := xc
                    obtain ⟨hc1, hc2⟩ := hxc.out
                    simp only at hc1 hc2
                    subst hc1 hc2
                    clear hxc HK
                    have HXBD := hx; clear hx
                    have HXD := Lib.hid (HX7B.out.trans HXBD.out)
                    have HXWD := Lib.hid (HXW7.out.trans HXD.out)
                    have hcc : comeL ((⟨comeA ++ comeB, goA ++ goB⟩, ⟨cC, ccC, gC, cgC⟩) : ChD × ChA) = comeL ((⟨comeA, goA⟩, ⟨ca, cca, ga, cga⟩) : ChD × ChA) ++ comeL ((⟨comeB, goB⟩, ⟨cb, ccb, gb, cgb⟩) : ChD × ChA) := by simp [comeL]
                    have hcl : (comeL ((⟨comeA, goA⟩, ⟨ca, cca, ga, cga⟩) : ChD × ChA) ++ comeL ((⟨comeB, goB⟩, ⟨cb, ccb, gb, cgb⟩) : ChD × ChA)).length = na + nb := by rw [HLN.out.1, HLN.out.2.2.1]; simp [comeL]
                    have hsc : SmallC ((⟨comeA ++ comeB, goA ++ goB⟩, ⟨cC, ccC, gC, cgC⟩) : ChD × ChA) := by
                      refine ⟨fun p hp => ?_, fun t ht => ?_, ?_⟩
                      · rcases List.mem_append.1 hp with hp | hp
                        · exact HCA.out.come p hp
                        · exact HCB.out.come p hp
                      · rcases List.mem_append.1 ht with ht | ht
                        · exact HCA.out.go t ht
                        · exact HCB.out.go t ht
                      · simp only [List.length_append]
                        rw [← HLN.out.1, ← HLN.out.2.1, ← HLN.out.2.2.1, ← HLN.out.2.2.2]
                        omega
                    have haf := after_held b N f A ((⟨comeA ++ comeB, goA ++ goB⟩, ⟨cC, ccC, gC, cgC⟩) : ChD × ChA) wD (HE.out.ext HXWD.out) (HM.out.ext (HX57.out.trans HXD.out)) HF.out hC.out hsc (by omega)
                    rw [hcc] at haf
                    simp only at haf
                    have hT' := hT.out
                    simp only at hT'
                    obtain ⟨nC, hnC⟩ : ∃ n, n = (comeA ++ comeB).length := ⟨_, rfl⟩
                    obtain ⟨mC, hmC⟩ : ∃ n, n = (goA ++ goB).length := ⟨_, rfl⟩
                    rw [← hnC, ← hmC] at haf hT'
                    have hb0 := blk_cell ((HX57.out.trans HXD.out).heap HB.out) 0 (Value.map (some b)) rfl
                    have t0 := blk_cell hT' 0 (Value.slice cC nC ccC) rfl
                    have t1 := blk_cell hT' 1 (Value.slice gC mC cgC) rfl
                    have HAF := Lib.hid haf; clear haf hsc hnC hmC hT' hcc hT
                    go_upto_region 39 with (go_at_call 24; refine HAF.out.mono ?_; rintro E wE ⟨hxE, rm, u, rfl, hor⟩; obtain ⟨u1, u2, u3⟩ := u; unfold faultV; have HXE := Lib.hid hxE; have HOR3 := Lib.hid hor; clear hxE hor)
                    try simp only at HOR3 ⊢
                    clear hb0 t0 t1 HAF
                    have hx_wF : Ext wE ((wE.alloc (.cells #[.map rm] 42)).alloc (.cells #[.int .i64 (u1 : Int), .string (bs u2), .string (bs u3)] 63)) := ((Ext.alloc _ _).trans (Ext.alloc _ _))
                    have hf_P3 := (Ext.alloc (wE.alloc (.cells #[.map rm] 42)) (.cells #[.int .i64 (u1 : Int), .string (bs u2), .string (bs u3)] 63)).heap (heap_alloc_new wE (.cells #[.map rm] 42))
                    have hf_Q3 := heap_alloc_new (wE.alloc (.cells #[.map rm] 42)) (.cells #[.int .i64 (u1 : Int), .string (bs u2), .string (bs u3)] 63)
                    simp only [World.size_alloc] at hf_Q3
                    generalize (wE.alloc (.cells #[.map rm] 42)).alloc (.cells #[.int .i64 (u1 : Int), .string (bs u2), .string (bs u3)] 63) = wF at hx_wF hf_P3 hf_Q3 ⊢
                    obtain ⟨P3, h_P3⟩ : ∃ x, x = wE.heap.size := ⟨_, rfl⟩
                    obtain ⟨Q3, h_Q3⟩ : ∃ x, x = wE.heap.size + 1 := ⟨_, rfl⟩
                    rw [← h_Q3] at hf_Q3
                    rw [← h_P3] at hf_P3
                    try rw [← h_Q3, ← h_P3]
                    have hs_P3 : wE.heap.size ≤ P3 := by omega
                    have hs_Q3 : wE.heap.size ≤ Q3 := by omega
                    clear h_P3 h_Q3
                    obtain ⟨hu, b4, A4, rfl, hM4⟩ : u1 = 0 ∧ ∃ b4 A4, rm = some b4 ∧ EntsM wE b4 (N + (comeL ((⟨comeA, goA⟩, ⟨ca, cca, ga, cga⟩) : ChD × ChA) ++ comeL ((⟨comeB, goB⟩, ⟨cb, ccb, gb, cgb⟩) : ChD × ChA)).length) (outF f (comeL ((⟨comeA, goA⟩, ⟨ca, cca, ga, cga⟩) : ChD × ChA) ++ comeL ((⟨comeB, goB⟩, ⟨cb, ccb, gb, cgb⟩) : ChD × ChA)) (goA ++ goB)) A4 := by
                      rcases HOR3.out with ⟨_, hno, _⟩ | ⟨hy, _, h2⟩
                      · exact absurd HBK.out.1 hno
                      · exact ⟨congrArg FaultD.code hy, h2⟩
                    have hd : (((u1 : Nat) : Int) == 0) = true := by rw [beq_iff_eq]; omega
                    clear hu
                    have e2 := blk_cell hf_Q3 0 (Value.int .i64 (u1 : Int)) rfl
                    have p3 := blk_cell hf_P3 0 (Value.map (some b4)) rfl
                    have HXEF := Lib.hid hx_wF
                    have HXDF := Lib.hid (HXE.out.trans hx_wF)
                    have p2 := blk_cell ((HXBD.out.trans HXDF.out).heap HP2.out) 0 (Value.map (some b3)) rfl
                    have hbl : (comeL ((⟨comeB, goB⟩, ⟨cb, ccb, gb, cgb⟩) : ChD × ChA)).length ≤ 60 := by
                      unfold comeL
                      rw [List.length_map]
                      have := HLN.out.2.2.1
                      simp only at this ⊢
                      omega
                    have hN1b := hN1
                    have hbs := base_same (.agg #[.map (some b4)]) (.agg #[.map (some b3)]) _ _ _ _ wF (Or.inr ⟨b4, A4, rfl, hM4.ext HXEF.out⟩) (Or.inr ⟨b3, A3, rfl, HM3.out.ext (HXAB.out.trans (HXBD.out.trans HXDF.out))⟩) HBK.out.1.2.1 HOK2.out.2.1 (by omega) (by omega)
                    have HBS := Lib.hid hbs; clear hbs hx_wF hf_P3 hf_Q3 hs_P3 hs_Q3 hM4 hbl
                    go_wp2_with (go_at_call 16; refine HBS.out.mono ?_; rintro E wG ⟨⟨q, rfl, hq⟩, hxG⟩; obtain rfl : q = true := hq.2 HBK.out.2; have HXG := Lib.hid hxG; clear hxG hq)
                    rw [HR.out]
                    exact ⟨rfl, HXWD.out.trans (HXDF.out.trans HXG.out)⟩
end Go.Proofs.YtnclibfhbngkjaaGreatDoor
