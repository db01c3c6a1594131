/- farrierlaw06.agree: a tree is the document's. -/
import Derived.Test.YtldgpcmnmegioaaGreatDoorM5
import Derived.Test.YtldgpcmnmegioaaGreatDoorTreeAlikeD
import Derived.Test.YtldgpcmnmegioaaGreatDoorRef06Names
import Derived.Test.YtldgpcmnmegioaaGreatDoorRef06Loose
import Derived.Test.YtldgpcmnmegioaaGreatDoorM1
import Derived.Test.YtldgpcmnmegioaaGreatDoorM4
namespace Go.Proofs.YtldgpcmnmegioaaGreatDoor
open Go.RowKit
attribute [local go_sem ↓] Go.wp_at_zero Go.wp_at_succ
theorem Like.entry {T : TreeD} {m : RefD} (h : Like T m) {e : EntD} (he : e ∈ m.list) :
    findT T e.path = e.id ∧ e.id ≠ 0 ∧ e.id ∈ T.ids ∧ (T.node e.id).dir = e.dir ∧ e.path.length ≤ 40 ∧ ∃ l, pathL e.path = some l ∧ walkT T 1 l = e.id := by
  obtain ⟨l, h1, h2⟩ := (h.flat.ent e).1 he
  have hd := h.flat.deep l h1
  have hp : e.path = joinP l := by rw [h2]
  have hi : e.id = walkT T 1 l := by rw [h2]
  have hk : e.dir = (T.node (walkT T 1 l)).dir := by rw [h2]
  rw [← hp] at hd
  exact ⟨by rw [find_at hd, hi], by rw [hi]; exact h1, by rw [hi]; exact h.good.walk_mem l 1 h.good.root h1, by rw [hk, hi], (pathL_facts hd).2.2.1, l, hd, hi.symm⟩
theorem same_names {k : By → Option Int} {ss X M : List By} (h : NamesK k ss) (hs : X.Pairwise (fun x y : By => x ≤ y)) (hp : X.Perm M) (hn : M.Nodup) (hm : ∀ x, x ∈ M ↔ (k x).isSome = true) : X = ss := by
  obtain ⟨h1, h2, h3⟩ := h
  have hpp : X.Perm ss := hp.trans ((List.perm_ext_iff_of_nodup hn h2).2 fun x => by rw [hm, h3])
  exact hpp.eq_of_pairwise (fun a b _ _ k1 k2 => List.le_antisymm k1 k2) hs h1
theorem OwnIs.run {w : World} {base : Nat} {a : Option Addr} {c : Nat} {X : List Int} (h : OwnIs w base a c X) : RunM w a (intV X) := by
  obtain ⟨a', c', hv, _, hr, _⟩ := run_of_row h
  cases hv
  exact hr
theorem run_int {w : World} {a : Option Addr} {X : List Int} (h : RunM w a (intV X)) {k : Nat} (hk : k < X.length) : ∃ g off, a = some ⟨g, off, none⟩ ∧ w.cell? ⟨g, off + k, none⟩ = some (.int .i64 (X.getD k 0)) := by
  rcases h with h | ⟨g, off, ha, _, hc⟩
  · have : X = [] := by unfold intV at h; simpa using h
    rw [this] at hk; simp at hk
  · exact ⟨g, off, ha, hc k _ (intV_at hk)⟩
theorem usedF_map (F : List (FilD × OpA)) : usedF F = ((F.map Prod.fst).map fun f => f.data.length).sum := by
  unfold usedF; rw [List.map_map]; rfl
theorem looseIds_map (L : List EntD) (F : List (FilD × OpA)) (m : RefD) (h1 : m.list = L) (h2 : F.map Prod.fst = m.files) : (looseIds L F).mergeSort (fun x y => decide (x ≤ y)) = looseM m := by
  unfold looseIds looseM countM linksL
  rw [← h2, h1, List.map_map]
  rfl
set_option maxRecDepth 100000 in
set_option maxHeartbeats 25600000 in
theorem law_agree {base tb N : Nat} {T : TreeD} (m : RefD) (A : RefA) (w : World) (hE : Env w) (hT : TreeAt w base tb N T) (hM : RefM w m A) (hK : Like T m) (hN : N ≤ 1000000000) (hl : m.list.length ≤ 1000000000) (hf : m.files.length ≤ 1000000000) :
    Calls Tryz.prog 17 #[.pointer (some ⟨tb, 0, none⟩), refV m A] w fun e w' => e = .returned (.bool true) ∧ Ext w w' := by
  obtain ⟨R, hR⟩ : ∃ R : Ending → World → Prop, R = fun e w' => e = .returned (.bool true) ∧ Ext w w' := ⟨_, rfl⟩
  rw [← hR]
  have HR := Lib.hid hR; clear hR
  have hfl := hM.flen'
  have hent := fun e (he : e ∈ m.list) => hK.entry he
  have hnam := fun p l k (hp : pathL p = some l) (hk : walkT T 1 l = k) (h0 : k ≠ 0) => hK.names hp hk h0
  have hdat := fun i (hi : i ∈ T.ids) (hd : (T.node i).dir = false) => hK.data hi hd
  have hu1 : usedT T = usedF A.F := by rw [hK.used, usedF_map, hM.fmap]; rfl
  have hn1 : T.ids.length = m.files.length + dirsL m.list := hK.nodes
  have hlo1 : looseT T = (looseIds m.list A.F).mergeSort (fun x y => decide (x ≤ y)) := by rw [looseIds_map m.list A.F m rfl hM.fmap]; exact hK.loose
  have hdt : ∀ i, dataM m i = dataL (A.F.map Prod.fst) i := fun i => by rw [hM.fmap]; rfl
  obtain ⟨L, files, nx, q⟩ := m
  obtain ⟨la, lc, fa, fc, F⟩ := A
  unfold refV
  simp only at hl hf hfl hent hnam hdat hu1 hn1 hlo1 hdt ⊢
  have c_used := fun W (k : Ext w W) => at_Used (hT.ext k) hN
  have c_used2 := fun W (k : Ext w W) => ref_used F la lc fa fc L.length nx q W (hM.fils.ext k) (by omega)
  have c_nodes := fun W (k : Ext w W) => at_Nodes (hT.ext k)
  have c_nodes2 := fun W (k : Ext w W) => ref_nodes L la lc fa files.length fc nx q W (hM.ents.ext k) (by omega) (by omega)
  have c_loose := fun W (k : Ext w W) => at_Loose (hT.ext k) hN
  have c_loose2 := fun W (k : Ext w W) => ref_loose L F la lc fa fc nx q W (hM.ents.ext k) (hM.fils.ext k) (by omega) (by omega)
  have c_find := fun p W (k : Ext w W) => at_Find p (hE.ext k) (hT.ext k) hN
  have c_dir := fun p W (k : Ext w W) => at_Dir p (hE.ext k) (hT.ext k) hN
  have c_read := fun p W (k : Ext w W) => at_Read p (hE.ext k) (hT.ext k) hN
  have c_list := fun p W (k : Ext w W) => at_List p (hE.ext k) (hT.ext k) hN
  have c_data := fun i W (k : Ext w W) => ref_data F la lc fa fc L.length nx q i W (hM.fils.ext k) (by omega)
  have c_names := fun p (hp : p.length ≤ 100000) W (k : Ext w W) => ref_names L la lc fa files.length fc nx q p W (hM.ents.ext k) (by omega) hp (fun e he => by have := (hent e he).2.2.2.2.1; omega)
  rw [← hu1] at c_used2
  rw [← hn1] at c_nodes2
  rw [← hlo1] at c_loose2
  obtain ⟨u, hu⟩ : ∃ u, u = usedT T := ⟨_, rfl⟩
  obtain ⟨nd, hnd⟩ : ∃ u, u = T.ids.length := ⟨_, rfl⟩
  obtain ⟨X, hX⟩ : ∃ u, u = looseT T := ⟨_, rfl⟩
  rw [← hu] at c_used c_used2
  rw [← hnd] at c_nodes c_nodes2
  rw [← hX] at c_loose c_loose2
  have hNDB : nd ≤ 1000000000 := by have := hT.2.1.count; omega
  have hXL : X.length ≤ 1000000000 := by
    rw [hX]
    unfold looseT
    rw [(List.mergeSort_perm _ _).length_eq]
    exact Nat.le_trans (List.length_filter_le _ _) (by have := hT.2.1.count; omega)
  obtain ⟨ln, hln⟩ : ∃ n, n = L.length := ⟨_, rfl⟩
  obtain ⟨n, hn⟩ : ∃ n, n = files.length := ⟨_, rfl⟩
  rw [hfl] at c_used2 c_loose2 c_data
  rw [← hln] at hl c_used2 c_nodes2 c_loose2 c_data c_names ⊢
  rw [← hn] at hf hfl c_used2 c_nodes2 c_loose2 c_data c_names ⊢
  have HLN := Lib.hid hln; clear hln hn hu hnd hX hu1 hn1 hlo1 hfl
  have HEN := Lib.hid hM.ents
  have HENT := Lib.hid hent; clear hent
  have HNAM := Lib.hid hnam; clear hnam
  have HDAT := Lib.hid hdat; clear hdat
  have HDT := Lib.hid hdt; clear hdt hM hT hE hK
  have CU := Lib.hid c_used; have CU2 := Lib.hid c_used2; have CN := Lib.hid c_nodes; have CN2 := Lib.hid c_nodes2; have CL := Lib.hid c_loose; have CL2 := Lib.hid c_loose2
  have CF := Lib.hid c_find; have CD := Lib.hid c_dir; have CR := Lib.hid c_read; have CLI := Lib.hid c_list; have CDA := Lib.hid c_data; have CNA := Lib.hid c_names
  clear c_used c_used2 c_nodes c_nodes2 c_loose c_loose2 c_find c_dir c_read c_list c_data c_names
  simp only at HEN
  go_enter Tryz.func17, Tryz.ntmps17
  go_upto_region 1 with fail
  have hx_w1 : Ext w (w.alloc (.cells #[.slice la ln lc, .slice fa n fc, .int .i64 nx, .int .i64 q] 30)) := (Ext.alloc _ _)
  have hf_B := heap_alloc_new w (.cells #[.slice la ln lc, .slice fa n fc, .int .i64 nx, .int .i64 q] 30)
  generalize w.alloc (.cells #[.slice la ln lc, .slice fa n fc, .int .i64 nx, .int .i64 q] 30) = w1 at hx_w1 hf_B ⊢
  obtain ⟨B, h_B⟩ : ∃ x, x = w.heap.size := ⟨_, rfl⟩
  rw [← h_B] at hf_B
  try rw [← h_B]
  have hs_B : w.heap.size ≤ B := by omega
  have HB := Lib.hid hf_B; clear hf_B hs_B h_B
  have HX := Lib.hid hx_w1; clear hx_w1
  have hcs : ∀ W, Ext w1 W → (W.cell? ⟨B, 0, none⟩ = some (.slice la ln lc) ∧ W.cell? ⟨B, 1, none⟩ = some (.slice fa n fc) ∧ W.cell? ⟨B, 2, none⟩ = some (.int .i64 nx) ∧ W.cell? ⟨B, 3, none⟩ = some (.int .i64 q)) := fun W k => ⟨blk_cell (k.heap HB.out) 0 _ rfl, blk_cell (k.heap HB.out) 1 _ rfl, blk_cell (k.heap HB.out) 2 _ rfl, blk_cell (k.heap HB.out) 3 _ rfl⟩
  have HCS := Lib.hid hcs; clear hcs
  have HK := Lib.hid (Ext.refl w1).drew
  refine wp_region_noPanic ?_
  refine wp_region_held_drew (S := (fun W => W.cell? ⟨B, 0, none⟩ = some (.slice la ln lc) ∧ W.cell? ⟨B, 1, none⟩ = some (.slice fa n fc) ∧ W.cell? ⟨B, 2, none⟩ = some (.int .i64 nx) ∧ W.cell? ⟨B, 3, none⟩ = some (.int .i64 q))) (by kernel_rfl) (HCS.out _ HK.out) (fun hHeld => ?_)
  clear hHeld
  generalize w1.drew = wc at HK ⊢
  refine wpAnyH_take (i := 0) (v := ?_) rfl (by kernel_rfl) (by kernel_rfl) (by kernel_rfl) (fun _ _ _ h => h) (Or.inl ⟨by kernel_rfl, ?_⟩) (HCS.out _ HK.out) ?_
  rotate_left
  · (intro wq _; first | (go_simp; done) | (go_simp; with_reducible rfl))
  try simp only [List.getElem_toArray, List.getElem_cons_zero, Act.put, List.setIfInBounds_toArray, List.set_cons_zero, List.set_cons_succ]
  refine wpAnyH_take (i := 2) (v := ?_) rfl (by kernel_rfl) (by kernel_rfl) (by kernel_rfl) (fun _ _ _ h => h) (Or.inl ⟨by kernel_rfl, ?_⟩) (HCS.out _ HK.out) ?_
  rotate_left
  · (intro wq hSw; (try dsimp only at hSw); first | (go_simp; done) | (go_simp; with_reducible rfl))
  try simp only [List.getElem_toArray, List.getElem_cons_zero, List.getElem_cons_succ, Act.put, List.setIfInBounds_toArray, List.set_cons_zero, List.set_cons_succ]
  all_goals (
    first
      | refine wpAnyH_ready (rs := [1]) (by decide +kernel) (by simp) ?_
    repeat' (first | exact AllReadyH.nil | (refine AllReadyH.cons rfl (fun K hK => ?_) ?_)))
  all_goals (
    first
      | (go_simp
         first
           | (go_at_call 24
              refine (CU.out wc (HX.out.trans HK.out)).mono ?_
              rintro E wn ⟨rfl, hx⟩
              replace HK := Lib.hid (HK.out.trans hx)
              clear hx
              go_wp2_with fail
              refine hK.out _ _ (HCS.out _ HK.out) (fun _ => ?_)
              clear hK K
              obtain ⟨wc, rfl⟩ : ∃ x : World, x = wn := ⟨_, rfl⟩
              try simp only [List.getElem_toArray, List.getElem_cons_zero, List.getElem_cons_succ, Act.put, List.setIfInBounds_toArray, List.set_cons_zero, List.set_cons_succ])))
  all_goals (
    first
      | refine wpAnyH_ready (rs := [3]) (by decide +kernel) (by simp) ?_
    repeat' (first | exact AllReadyH.nil | (refine AllReadyH.cons rfl (fun K hK => ?_) ?_)))
  all_goals (
    first
      | (go_simp
         first
           | (go_at_call 11
              refine (CU2.out wc (HX.out.trans HK.out)).mono ?_
              rintro E wn ⟨rfl, hx⟩
              replace HK := Lib.hid (HK.out.trans hx)
              clear hx
              go_wp2_with fail
              refine hK.out _ _ (HCS.out _ HK.out) (fun _ => ?_)
              clear hK K
              obtain ⟨wc, rfl⟩ : ∃ x : World, x = wn := ⟨_, rfl⟩
              try simp only [List.getElem_toArray, List.getElem_cons_zero, List.getElem_cons_succ, Act.put, List.setIfInBounds_toArray, List.set_cons_zero, List.set_cons_succ]
              refine wpAnyH_take (i := 4) (v := ?_) rfl (by kernel_rfl) (by kernel_rfl) (by kernel_rfl) (fun _ _ _ h => h) (Or.inl ⟨by kernel_rfl, ?_⟩) (HCS.out _ HK.out) ?_
              rotate_left
              · (intro wq _; first | (go_simp; done) | (go_simp; with_reducible rfl))
              try simp only [List.getElem_toArray, List.getElem_cons_zero, List.getElem_cons_succ, Act.put, List.setIfInBounds_toArray, List.set_cons_zero, List.set_cons_succ]
              refine wpAnyH_take (i := 5) (v := ?_) rfl (by kernel_rfl) (by kernel_rfl) (by kernel_rfl) (fun _ _ _ h => h) (Or.inl ⟨by kernel_rfl, ?_⟩) (HCS.out _ HK.out) ?_
              rotate_left
              · (intro wq _; first | (go_simp; done) | (go_simp; with_reducible rfl))
              try simp only [List.getElem_toArray, List.getElem_cons_zero, List.getElem_cons_succ, Act.put, List.setIfInBounds_toArray, List.set_cons_zero, List.set_cons_succ]
              refine wpAnyH_take (i := 6) (v := ?_) rfl (by kernel_rfl) (by kernel_rfl) (by kernel_rfl) (fun _ _ _ h => h) (Or.inl ⟨by kernel_rfl, ?_⟩) (HCS.out _ HK.out) ?_
              rotate_left
              · (intro wq _; first | (go_simp; done) | (go_simp; with_reducible rfl))
              try simp only [List.getElem_toArray, List.getElem_cons_zero, List.getElem_cons_succ, Act.put, List.setIfInBounds_toArray, List.set_cons_zero, List.set_cons_succ]
              refine wpAnyH_take (i := 8) (v := ?_) rfl (by kernel_rfl) (by kernel_rfl) (by kernel_rfl) (fun _ _ _ h => h) (Or.inl ⟨by kernel_rfl, ?_⟩) (HCS.out _ HK.out) ?_
              rotate_left
              · (intro wq hSw; (try dsimp only at hSw); first | (go_simp; done) | (go_simp; with_reducible rfl))
              try simp only [List.getElem_toArray, List.getElem_cons_zero, List.getElem_cons_succ, Act.put, List.setIfInBounds_toArray, List.set_cons_zero, List.set_cons_succ])))
  all_goals (
    first
      | refine wpAnyH_ready (rs := [7]) (by decide +kernel) (by simp) ?_
    repeat' (first | exact AllReadyH.nil | (refine AllReadyH.cons rfl (fun K hK => ?_) ?_)))
  all_goals (
    first
      | (go_simp
         first
           | (go_at_call 25
              refine (CN.out wc (HX.out.trans HK.out)).mono ?_
              rintro E wn ⟨rfl, hx⟩
              replace HK := Lib.hid (HK.out.trans hx)
              clear hx
              go_wp2_with fail
              refine hK.out _ _ (HCS.out _ HK.out) (fun _ => ?_)
              clear hK K
              obtain ⟨wc, rfl⟩ : ∃ x : World, x = wn := ⟨_, rfl⟩
              try simp only [List.getElem_toArray, List.getElem_cons_zero, List.getElem_cons_succ, Act.put, List.setIfInBounds_toArray, List.set_cons_zero, List.set_cons_succ])))
  all_goals (
    first
      | refine wpAnyH_ready (rs := [9]) (by decide +kernel) (by simp) ?_
    repeat' (first | exact AllReadyH.nil | (refine AllReadyH.cons rfl (fun K hK => ?_) ?_)))
  all_goals (
    first
      | (go_simp
         first
           | (go_at_call 10
              refine (CN2.out wc (HX.out.trans HK.out)).mono ?_
              rintro E wn ⟨rfl, hx⟩
              replace HK := Lib.hid (HK.out.trans hx)
              clear hx
              go_wp2_with fail
              refine hK.out _ _ (HCS.out _ HK.out) (fun _ => ?_)
              clear hK K
              obtain ⟨wc, rfl⟩ : ∃ x : World, x = wn := ⟨_, rfl⟩
              try simp only [List.getElem_toArray, List.getElem_cons_zero, List.getElem_cons_succ, Act.put, List.setIfInBounds_toArray, List.set_cons_zero, List.set_cons_succ]
              refine wpAnyH_take (i := 10) (v := ?_) rfl (by kernel_rfl) (by kernel_rfl) (by kernel_rfl) (fun _ _ _ h => h) (Or.inl ⟨by kernel_rfl, ?_⟩) (HCS.out _ HK.out) ?_
              rotate_left
              · (intro wq _; first | (go_simp; done) | (go_simp; with_reducible rfl))
              try simp only [List.getElem_toArray, List.getElem_cons_zero, List.getElem_cons_succ, Act.put, List.setIfInBounds_toArray, List.set_cons_zero, List.set_cons_succ]
              refine wpAnyH_take (i := 11) (v := ?_) rfl (by kernel_rfl) (by kernel_rfl) (by kernel_rfl) (fun _ _ _ h => h) (Or.inl ⟨by kernel_rfl, ?_⟩) (HCS.out _ HK.out) ?_
              rotate_left
              · (intro wq _; first | (go_simp; done) | (go_simp; with_reducible rfl))
              try simp only [List.getElem_toArray, List.getElem_cons_zero, List.getElem_cons_succ, Act.put, List.setIfInBounds_toArray, List.set_cons_zero, List.set_cons_succ])))
  all_goals (
    refine wpAnyH_done (by kernel_rfl) ?_ _
    refine NoPanic.normal ?_
    have HK1 := Lib.hid HK.out
    go_upto_region 3 with fail
    have hcs : ∀ W, Ext wc W → (W.cell? ⟨B, 0, none⟩ = some (.slice la ln lc) ∧ W.cell? ⟨B, 1, none⟩ = some (.slice fa n fc) ∧ W.cell? ⟨B, 2, none⟩ = some (.int .i64 nx) ∧ W.cell? ⟨B, 3, none⟩ = some (.int .i64 q)) := fun W k => HCS.out W (HK1.out.trans k)
    clear HCS
    have HCS := Lib.hid hcs; clear hcs
    have HXc := Lib.hid (HX.out.trans HK1.out)
    clear HX HK
    have HX := HXc
    have HK := Lib.hid (Ext.refl wc).drew
    clear HXc
    refine wp_region_noPanic ?_
    refine wp_region_held_drew (S := (fun W => W.cell? ⟨B, 0, none⟩ = some (.slice la ln lc) ∧ W.cell? ⟨B, 1, none⟩ = some (.slice fa n fc) ∧ W.cell? ⟨B, 2, none⟩ = some (.int .i64 nx) ∧ W.cell? ⟨B, 3, none⟩ = some (.int .i64 q))) (by kernel_rfl) (HCS.out _ HK.out) (fun hHeld => ?_)
    clear hHeld
    generalize wc.drew = wc at HK ⊢
    refine wpAnyH_take (i := 0) (v := ?_) rfl (by kernel_rfl) (by kernel_rfl) (by kernel_rfl) (fun _ _ _ h => h) (Or.inl ⟨by kernel_rfl, ?_⟩) (HCS.out _ HK.out) ?_
    rotate_left
    · (intro wq _; first | (go_simp; done) | (go_simp; with_reducible rfl))
    try simp only [List.getElem_toArray, List.getElem_cons_zero, Act.put, List.setIfInBounds_toArray, List.set_cons_zero, List.set_cons_succ]
    refine wpAnyH_take (i := 2) (v := ?_) rfl (by kernel_rfl) (by kernel_rfl) (by kernel_rfl) (fun _ _ _ h => h) (Or.inl ⟨by kernel_rfl, ?_⟩) (HCS.out _ HK.out) ?_
    rotate_left
    · (intro wq hSw; (try dsimp only at hSw); first | (go_simp; done) | (go_simp; with_reducible rfl))
    try simp only [List.getElem_toArray, List.getElem_cons_zero, List.getElem_cons_succ, Act.put, List.setIfInBounds_toArray, List.set_cons_zero, List.set_cons_succ]
    all_goals (
      first
        | refine wpAnyH_ready (rs := [1]) (by decide +kernel) (by simp) ?_
      repeat' (first | exact AllReadyH.nil | (refine AllReadyH.cons rfl (fun K hK => ?_) ?_)))
    all_goals (
      first
        | (go_simp
           first
             | (go_at_call 23
                refine (CL.out wc (HX.out.trans HK.out)).mono ?_
                rintro E wn ⟨a1, c1, rfl, hO1, hx⟩
                have HO1 := Lib.hid hO1.run; clear hO1
                replace HK := Lib.hid (HK.out.trans hx)
                clear hx
                go_wp2_with fail
                refine hK.out _ _ (HCS.out _ HK.out) (fun _ => ?_)
                clear hK K
                obtain ⟨wc, rfl⟩ : ∃ x : World, x = wn := ⟨_, rfl⟩
                try simp only [List.getElem_toArray, List.getElem_cons_zero, List.getElem_cons_succ, Act.put, List.setIfInBounds_toArray, List.set_cons_zero, List.set_cons_succ])))
    all_goals (
      first
        | refine wpAnyH_ready (rs := [3]) (by decide +kernel) (by simp) ?_
      repeat' (first | exact AllReadyH.nil | (refine AllReadyH.cons rfl (fun K hK => ?_) ?_)))
    all_goals (
      first
        | (go_simp
           first
             | (go_at_call 34
                refine (CL2.out wc (HX.out.trans HK.out)).mono ?_
                rintro E wn ⟨a2, c2, rfl, hO2, hx⟩
                have HO2 := Lib.hid hO2.run; clear hO2
                replace HO1 := Lib.hid (HO1.out.ext hx)
                replace HK := Lib.hid (HK.out.trans hx)
                clear hx
                go_wp2_with fail
                refine hK.out _ _ (HCS.out _ HK.out) (fun _ => ?_)
                clear hK K
                obtain ⟨wc, rfl⟩ : ∃ x : World, x = wn := ⟨_, rfl⟩
                try simp only [List.getElem_toArray, List.getElem_cons_zero, List.getElem_cons_succ, Act.put, List.setIfInBounds_toArray, List.set_cons_zero, List.set_cons_succ]
                refine wpAnyH_take (i := 4) (v := ?_) rfl (by kernel_rfl) (by kernel_rfl) (by kernel_rfl) (fun _ _ _ h => h) (Or.inl ⟨by kernel_rfl, ?_⟩) (HCS.out _ HK.out) ?_
                rotate_left
                · (intro wq _; first | (go_simp; done) | (go_simp; with_reducible rfl))
                try simp only [List.getElem_toArray, List.getElem_cons_zero, List.getElem_cons_succ, Act.put, List.setIfInBounds_toArray, List.set_cons_zero, List.set_cons_succ]
                refine wpAnyH_take (i := 5) (v := ?_) rfl (by kernel_rfl) (by kernel_rfl) (by kernel_rfl) (fun _ _ _ h => h) (Or.inl ⟨by kernel_rfl, ?_⟩) (HCS.out _ HK.out) ?_
                rotate_left
                · (intro wq _; first | (go_simp; done) | (go_simp; with_reducible rfl))
                try simp only [List.getElem_toArray, List.getElem_cons_zero, List.getElem_cons_succ, Act.put, List.setIfInBounds_toArray, List.set_cons_zero, List.set_cons_succ])))
    all_goals (
      refine wpAnyH_done (by kernel_rfl) ?_ _
      refine NoPanic.normal ?_
      have HX3 := Lib.hid (HX.out.trans HK.out)
      have HB3 : Hid (∀ W, Ext wc W → (W.cell? ⟨B, 0, none⟩ = some (.slice la ln lc) ∧ W.cell? ⟨B, 1, none⟩ = some (.slice fa n fc) ∧ W.cell? ⟨B, 2, none⟩ = some (.int .i64 nx) ∧ W.cell? ⟨B, 3, none⟩ = some (.int .i64 q))) := Lib.hid fun W k => HCS.out W (HK.out.trans k)
      clear HCS HK HX
      obtain ⟨X0, hX0⟩ : ∃ z, z = X.length := ⟨_, rfl⟩
      rw [← hX0] at hXL ⊢
      have HXL := Lib.hid hX0; clear hX0
      have hne : ((X0 : Int) != (X0 : Int)) = false := by simp
      go_wp2_with fail
      go_loopw [43] (fun i wr => ∃ k : Nat, i = .int .i64 k ∧ k ≤ X0 ∧ Hid (wr = wc)) (fun i _ => X0 - (intOf i).toNat)
      case atStart => exact ⟨0, rfl, Nat.zero_le _, Lib.hid rfl⟩
      case round =>
        obtain ⟨k, rfl, hk, hw⟩ := hrel
        obtain rfl := hw.out
        clear hw
        by_cases hlt : k < X0
        · have hkX : k < X.length := by have := HXL.out; omega
          obtain ⟨g1, o1, rfl, e1⟩ := run_int HO1.out hkX
          obtain ⟨g2, o2, rfl, e2⟩ := run_int HO2.out hkX
          generalize X.getD k 0 = x at e1 e2
          have hxx : (x == x) = true := by simp
          have hxx2 : (x != x) = false := by simp
          go_wp2_with fail
          go_roundw
          case rel => exact ⟨k + 1, by go_num, by omega, Lib.hid (by trivial)⟩
          case measure => simp [intOf]; omega
        · have b0 := (HB3.out _ (Ext.refl _)).1
          obtain ⟨wv, rfl⟩ : ∃ x : World, x = wr := ⟨_, rfl⟩
          clear HO1 HO2 hne
          go_wp2_with fail
          clear b0
          go_loopw [58] (fun i wz => ∃ k : Nat, i = .int .i64 k ∧ k ≤ ln ∧ Hid (Ext wv wz)) (fun i _ => ln - (intOf i).toNat)
          case atStart => exact ⟨0, rfl, Nat.zero_le _, Lib.hid (Ext.refl _)⟩
          case round =>
            obtain ⟨r, rfl, hr, HXZ⟩ := hrel
            by_cases hrl : r < ln
            · have hrL : r < L.length := by have := HLN.out; omega
              have HXR := Lib.hid (HX3.out.trans HXZ.out)
              have hmem := getD_mem hrL ez06
              have hq := HENT.out _ hmem
              obtain ⟨g, off, rfl, _, c0, c1, c2⟩ := (HEN.out.ext HXR.out).at hrL
              obtain ⟨e, he⟩ : ∃ e, e = L.getD r ez06 := ⟨_, rfl⟩
              rw [← he] at c0 c1 c2 hq hmem
              clear he hmem
              obtain ⟨ep, ei, ed⟩ := e
              simp only at c0 c1 c2 hq
              obtain ⟨q1, q2, q3, q4, q5, pl, q6, q7⟩ := hq
              have hcf := CF.out ep
              have hcd := CD.out ep
              have hcr := CR.out ep
              have hcl := CLI.out ep
              unfold ReadI at hcr
              unfold ListI at hcl
              rw [q1] at hcf hcd hcr hcl
              rw [q4] at hcd hcr hcl
              have hd1 : decide (ei ≠ 0) = true := decide_eq_true q2
              rw [hd1] at hcf hcd
              simp only [if_neg q2] at hcr hcl
              have hna := CNA.out ep (by omega)
              have hnn := HNAM.out ep pl ei q6 q7 q2
              have HNN := Lib.hid hnn; clear hnn
              have HQ3 := Lib.hid (And.intro q3 q4)
              go_upto_region 15 with fail
              clear c0 c1 c2
              have hx_w4 : Ext wr (wr.alloc (.cells #[.string (bs ep), .int .i64 ei, .bool ed] 48)) := (Ext.alloc _ _)
              have hf_P := heap_alloc_new wr (.cells #[.string (bs ep), .int .i64 ei, .bool ed] 48)
              generalize wr.alloc (.cells #[.string (bs ep), .int .i64 ei, .bool ed] 48) = w4 at hx_w4 hf_P ⊢
              obtain ⟨P, h_P⟩ : ∃ x, x = wr.heap.size := ⟨_, rfl⟩
              rw [← h_P] at hf_P
              try rw [← h_P]
              have hs_P : wr.heap.size ≤ P := by omega
              have HP := Lib.hid hf_P; clear hf_P hs_P h_P
              have HX4 := Lib.hid (HXR.out.trans hx_w4)
              have HV4 := Lib.hid (HXZ.out.trans hx_w4); clear hx_w4
              have HCF := Lib.hid hcf; have HCD := Lib.hid hcd; have HCR := Lib.hid hcr; have HCL := Lib.hid hcl; have HNA := Lib.hid hna
              clear hcf hcd hcr hcl hna q1 q2 q3 q4 q6 q7 hd1
              have p0 := blk_cell HP.out 0 (Value.string (bs ep)) rfl
              cases ed with
              | true =>
                have hcr2 := HCR.out; have hcl2 := HCL.out; have hcd2 := HCD.out
                simp only [if_true, Bool.and_self] at hcr2 hcl2 hcd2
                clear HCR HCL HCD
                have HCR := Lib.hid hcr2; have HCL := Lib.hid hcl2; have HCD := Lib.hid hcd2; clear hcr2 hcl2 hcd2
                go_upto_region 18 with (first
                  | (go_at_call 13; refine (HCF.out _ HX4.out).mono ?_; rintro E w5 ⟨rfl, hx⟩; have HX5 := Lib.hid (HX4.out.trans hx); have HV5 := Lib.hid (HV4.out.trans hx); have HP5 := Lib.hid (hx.heap HP.out); clear hx p0; have p0 := blk_cell HP5.out 0 (Value.string (bs ep)) rfl)
                  | (go_at_call 21; refine (HCR.out _ HX5.out).mono ?_; rintro E w6 ⟨rfl, hx⟩; have HX6 := Lib.hid (HX5.out.trans hx); have HV6 := Lib.hid (HV5.out.trans hx); have HP6 := Lib.hid (hx.heap HP5.out); clear hx p0; have p0 := blk_cell HP6.out 0 (Value.string (bs ep)) rfl)
                  | (go_at_call 22; refine (HCL.out _ HX6.out).mono ?_; rintro E w7 ⟨⟨an, cn, ss, rfl, hcn, hnk, hst⟩, hx⟩; have HX7 := Lib.hid (HX6.out.trans hx); have HV7 := Lib.hid (HV6.out.trans hx); have HP7 := Lib.hid (hx.heap HP6.out); have HNK := Lib.hid hnk; have HST := Lib.hid hst; clear hx p0 hcn hnk hst))
                have hcs : ∀ W, Ext w7 W → (W.cell? ⟨P, 0, none⟩ = some (.string (bs ep)) ∧ W.cell? ⟨P, 1, none⟩ = some (.int .i64 ei) ∧ W.cell? ⟨P, 2, none⟩ = some (.bool true)) := fun W k => ⟨blk_cell (k.heap HP7.out) 0 _ rfl, blk_cell (k.heap HP7.out) 1 _ rfl, blk_cell (k.heap HP7.out) 2 _ rfl⟩
                have HCS := Lib.hid hcs; clear hcs
                have HX := HX7
                have HK := Lib.hid (Ext.refl w7).drew
                refine wp_region_noPanic ?_
                refine wp_region_held_drew (S := (fun W => W.cell? ⟨P, 0, none⟩ = some (.string (bs ep)) ∧ W.cell? ⟨P, 1, none⟩ = some (.int .i64 ei) ∧ W.cell? ⟨P, 2, none⟩ = some (.bool true))) (by kernel_rfl) (HCS.out _ HK.out) (fun hHeld => ?_)
                clear hHeld
                generalize w7.drew = wc at HK ⊢
                refine wpAnyH_take (i := 0) (v := ?_) rfl (by kernel_rfl) (by kernel_rfl) (by kernel_rfl) (fun _ _ _ h => h) (Or.inl ⟨by kernel_rfl, ?_⟩) (HCS.out _ HK.out) ?_
                rotate_left
                · (intro wq _; first | (go_simp; done) | (go_simp; with_reducible rfl))
                try simp only [List.getElem_toArray, List.getElem_cons_zero, Act.put, List.setIfInBounds_toArray, List.set_cons_zero, List.set_cons_succ]
                refine wpAnyH_take (i := 1) (v := ?_) rfl (by kernel_rfl) (by kernel_rfl) (by kernel_rfl) (fun _ _ _ h => h) (Or.inl ⟨by kernel_rfl, ?_⟩) (HCS.out _ HK.out) ?_
                rotate_left
                · (intro wq _; first | (go_simp; done) | (go_simp; with_reducible rfl))
                try simp only [List.getElem_toArray, List.getElem_cons_zero, List.getElem_cons_succ, Act.put, List.setIfInBounds_toArray, List.set_cons_zero, List.set_cons_succ]
                refine wpAnyH_take (i := 2) (v := ?_) rfl (by kernel_rfl) (by kernel_rfl) (by kernel_rfl) (fun _ _ _ h => h) (Or.inl ⟨by kernel_rfl, ?_⟩) (HCS.out _ HK.out) ?_
                rotate_left
                · (intro wq _; first | (go_simp; done) | (go_simp; with_reducible rfl))
                try simp only [List.getElem_toArray, List.getElem_cons_zero, List.getElem_cons_succ, Act.put, List.setIfInBounds_toArray, List.set_cons_zero, List.set_cons_succ]
                refine wpAnyH_take (i := 3) (v := ?_) rfl (by kernel_rfl) (by kernel_rfl) (by kernel_rfl) (fun _ _ _ h => h) (Or.inl ⟨by kernel_rfl, ?_⟩) (HCS.out _ HK.out) ?_
                rotate_left
                · (intro wq _; first | (go_simp; done) | (go_simp; with_reducible rfl))
                try simp only [List.getElem_toArray, List.getElem_cons_zero, List.getElem_cons_succ, Act.put, List.setIfInBounds_toArray, List.set_cons_zero, List.set_cons_succ]
                refine wpAnyH_take (i := 4) (v := ?_) rfl (by kernel_rfl) (by kernel_rfl) (by kernel_rfl) (fun _ _ _ h => h) (Or.inl ⟨by kernel_rfl, ?_⟩) (HCS.out _ HK.out) ?_
                rotate_left
                · (intro wq _; first | (go_simp; done) | (go_simp; with_reducible rfl))
                try simp only [List.getElem_toArray, List.getElem_cons_zero, List.getElem_cons_succ, Act.put, List.setIfInBounds_toArray, List.set_cons_zero, List.set_cons_succ]
                refine wpAnyH_take (i := 5) (v := ?_) rfl (by kernel_rfl) (by kernel_rfl) (by kernel_rfl) (fun _ _ _ h => h) (Or.inl ⟨by kernel_rfl, ?_⟩) (HCS.out _ HK.out) ?_
                rotate_left
                · (intro wq hSw; (try dsimp only at hSw); first | (go_simp; done) | (go_simp; with_reducible rfl))
                try simp only [List.getElem_toArray, List.getElem_cons_zero, List.getElem_cons_succ, Act.put, List.setIfInBounds_toArray, List.set_cons_zero, List.set_cons_succ]
                refine wpAnyH_take (i := 6) (v := ?_) rfl (by kernel_rfl) (by kernel_rfl) (by kernel_rfl) (fun _ _ _ h => h) (Or.inl ⟨by kernel_rfl, ?_⟩) (HCS.out _ HK.out) ?_
                rotate_left
                · (intro wq _; first | (go_simp; done) | (go_simp; with_reducible rfl))
                try simp only [List.getElem_toArray, List.getElem_cons_zero, List.getElem_cons_succ, Act.put, List.setIfInBounds_toArray, List.set_cons_zero, List.set_cons_succ]
                refine wpAnyH_take (i := 7) (v := ?_) rfl (by kernel_rfl) (by kernel_rfl) (by kernel_rfl) (fun _ _ _ h => h) (Or.inl ⟨by kernel_rfl, ?_⟩) (HCS.out _ HK.out) ?_
                rotate_left
                · (intro wq _; first | (go_simp; done) | (go_simp; with_reducible rfl))
                try simp only [List.getElem_toArray, List.getElem_cons_zero, List.getElem_cons_succ, Act.put, List.setIfInBounds_toArray, List.set_cons_zero, List.set_cons_succ]
                refine wpAnyH_take (i := 8) (v := ?_) rfl (by kernel_rfl) (by kernel_rfl) (by kernel_rfl) (fun _ _ _ h => h) (Or.inl ⟨by kernel_rfl, ?_⟩) (HCS.out _ HK.out) ?_
                rotate_left
                · (intro wq _; first | (go_simp; done) | (go_simp; with_reducible rfl))
                try simp only [List.getElem_toArray, List.getElem_cons_zero, List.getElem_cons_succ, Act.put, List.setIfInBounds_toArray, List.set_cons_zero, List.set_cons_succ]
                refine wpAnyH_take (i := 9) (v := ?_) rfl (by kernel_rfl) (by kernel_rfl) (by kernel_rfl) (fun _ _ _ h => h) (Or.inl ⟨by kernel_rfl, ?_⟩) (HCS.out _ HK.out) ?_
                rotate_left
                · (intro wq _; first | (go_simp; done) | (go_simp; with_reducible rfl))
                try simp only [List.getElem_toArray, List.getElem_cons_zero, List.getElem_cons_succ, Act.put, List.setIfInBounds_toArray, List.set_cons_zero, List.set_cons_succ]
                refine wpAnyH_take (i := 10) (v := ?_) rfl (by kernel_rfl) (by kernel_rfl) (by kernel_rfl) (fun _ _ _ h => h) (Or.inl ⟨by kernel_rfl, ?_⟩) (HCS.out _ HK.out) ?_
                rotate_left
                · (intro wq _; first | (go_simp; done) | (go_simp; with_reducible rfl))
                try simp only [List.getElem_toArray, List.getElem_cons_zero, List.getElem_cons_succ, Act.put, List.setIfInBounds_toArray, List.set_cons_zero, List.set_cons_succ]
                refine wpAnyH_take (i := 11) (v := ?_) rfl (by kernel_rfl) (by kernel_rfl) (by kernel_rfl) (fun _ _ _ h => h) (Or.inl ⟨by kernel_rfl, ?_⟩) (HCS.out _ HK.out) ?_
                rotate_left
                · (intro wq hSw; (try dsimp only at hSw); first | (go_simp; done) | (go_simp; with_reducible rfl))
                try simp only [List.getElem_toArray, List.getElem_cons_zero, List.getElem_cons_succ, Act.put, List.setIfInBounds_toArray, List.set_cons_zero, List.set_cons_succ]
                refine wpAnyH_take (i := 13) (v := ?_) rfl (by kernel_rfl) (by kernel_rfl) (by kernel_rfl) (fun _ _ _ h => h) (Or.inl ⟨by kernel_rfl, ?_⟩) (HCS.out _ HK.out) ?_
                rotate_left
                · (intro wq _; first | (go_simp; done) | (go_simp; with_reducible rfl))
                try simp only [List.getElem_toArray, List.getElem_cons_zero, List.getElem_cons_succ, Act.put, List.setIfInBounds_toArray, List.set_cons_zero, List.set_cons_succ]
                refine wpAnyH_take (i := 14) (v := ?_) rfl (by kernel_rfl) (by kernel_rfl) (by kernel_rfl) (fun _ _ _ h => h) (Or.inl ⟨by kernel_rfl, ?_⟩) (HCS.out _ HK.out) ?_
                rotate_left
                · (intro wq hSw; (try dsimp only at hSw); first | (go_simp; done) | (go_simp; with_reducible rfl))
                try simp only [List.getElem_toArray, List.getElem_cons_zero, List.getElem_cons_succ, Act.put, List.setIfInBounds_toArray, List.set_cons_zero, List.set_cons_succ]
                all_goals (
                  first
                    | refine wpAnyH_ready (rs := [12]) (by decide +kernel) (by simp) ?_
                  repeat' (first | exact AllReadyH.nil | (refine AllReadyH.cons rfl (fun K hK => ?_) ?_)))
                all_goals (
                  first
                    | (go_simp
                       first
                         | (go_at_call 26
                            refine (HCD.out wc (HX.out.trans HK.out)).mono ?_
                            rintro E wn ⟨rfl, hx⟩
                            replace HK := Lib.hid (HK.out.trans hx)
                            clear hx
                            go_wp2_with fail
                            refine hK.out _ _ (HCS.out _ HK.out) (fun _ => ?_)
                            clear hK K
                            obtain ⟨wc, rfl⟩ : ∃ x : World, x = wn := ⟨_, rfl⟩
                            try simp only [List.getElem_toArray, List.getElem_cons_zero, List.getElem_cons_succ, Act.put, List.setIfInBounds_toArray, List.set_cons_zero, List.set_cons_succ]
                            refine wpAnyH_take (i := 15) (v := ?_) rfl (by kernel_rfl) (by kernel_rfl) (by kernel_rfl) (fun _ _ _ h => h) (Or.inl ⟨by kernel_rfl, ?_⟩) (HCS.out _ HK.out) ?_
                            rotate_left
                            · (intro wq _; first | (go_simp; done) | (go_simp; with_reducible rfl))
                            try simp only [List.getElem_toArray, List.getElem_cons_zero, List.getElem_cons_succ, Act.put, List.setIfInBounds_toArray, List.set_cons_zero, List.set_cons_succ]
                            refine wpAnyH_take (i := 16) (v := ?_) rfl (by kernel_rfl) (by kernel_rfl) (by kernel_rfl) (fun _ _ _ h => h) (Or.inl ⟨by kernel_rfl, ?_⟩) (HCS.out _ HK.out) ?_
                            rotate_left
                            · (intro wq _; first | (go_simp; done) | (go_simp; with_reducible rfl))
                            try simp only [List.getElem_toArray, List.getElem_cons_zero, List.getElem_cons_succ, Act.put, List.setIfInBounds_toArray, List.set_cons_zero, List.set_cons_succ]
                            refine wpAnyH_take (i := 17) (v := ?_) rfl (by kernel_rfl) (by kernel_rfl) (by kernel_rfl) (fun _ _ _ h => h) (Or.inl ⟨by kernel_rfl, ?_⟩) (HCS.out _ HK.out) ?_
                            rotate_left
                            · (intro wq _; first | (go_simp; done) | (go_simp; with_reducible rfl))
                            try simp only [List.getElem_toArray, List.getElem_cons_zero, List.getElem_cons_succ, Act.put, List.setIfInBounds_toArray, List.set_cons_zero, List.set_cons_succ]
                            refine wpAnyH_take (i := 18) (v := ?_) rfl (by kernel_rfl) (by kernel_rfl) (by kernel_rfl) (fun _ _ _ h => h) (Or.inl ⟨by kernel_rfl, ?_⟩) (HCS.out _ HK.out) ?_
                            rotate_left
                            · (intro wq _; first | (go_simp; done) | (go_simp; with_reducible rfl))
                            try simp only [List.getElem_toArray, List.getElem_cons_zero, List.getElem_cons_succ, Act.put, List.setIfInBounds_toArray, List.set_cons_zero, List.set_cons_succ]
                            refine wpAnyH_take (i := 19) (v := ?_) rfl (by kernel_rfl) (by kernel_rfl) (by kernel_rfl) (fun _ _ _ h => h) (Or.inl ⟨by kernel_rfl, ?_⟩) (HCS.out _ HK.out) ?_
                            rotate_left
                            · (intro wq _; first | (go_simp; done) | (go_simp; with_reducible rfl))
                            try simp only [List.getElem_toArray, List.getElem_cons_zero, List.getElem_cons_succ, Act.put, List.setIfInBounds_toArray, List.set_cons_zero, List.set_cons_succ]
                            refine wpAnyH_take (i := 20) (v := ?_) rfl (by kernel_rfl) (by kernel_rfl) (by kernel_rfl) (fun _ _ _ h => h) (Or.inl ⟨by kernel_rfl, ?_⟩) (HCS.out _ HK.out) ?_
                            rotate_left
                            · (intro wq _; first | (go_simp; done) | (go_simp; with_reducible rfl))
                            try simp only [List.getElem_toArray, List.getElem_cons_zero, List.getElem_cons_succ, Act.put, List.setIfInBounds_toArray, List.set_cons_zero, List.set_cons_succ]
                            refine wpAnyH_take (i := 21) (v := ?_) rfl (by kernel_rfl) (by kernel_rfl) (by kernel_rfl) (fun _ _ _ h => h) (Or.inl ⟨by kernel_rfl, ?_⟩) (HCS.out _ HK.out) ?_
                            rotate_left
                            · (intro wq hSw; (try dsimp only at hSw); first | (go_simp; done) | (go_simp; with_reducible rfl))
                            try simp only [List.getElem_toArray, List.getElem_cons_zero, List.getElem_cons_succ, Act.put, List.setIfInBounds_toArray, List.set_cons_zero, List.set_cons_succ]
                            refine wpAnyH_take (i := 22) (v := ?_) rfl (by kernel_rfl) (by kernel_rfl) (by kernel_rfl) (fun _ _ _ h => h) (Or.inl ⟨by kernel_rfl, ?_⟩) (HCS.out _ HK.out) ?_
                            rotate_left
                            · (intro wq _; first | (go_simp; done) | (go_simp; with_reducible rfl))
                            try simp only [List.getElem_toArray, List.getElem_cons_zero, List.getElem_cons_succ, Act.put, List.setIfInBounds_toArray, List.set_cons_zero, List.set_cons_succ]
                            refine wpAnyH_take (i := 23) (v := ?_) rfl (by kernel_rfl) (by kernel_rfl) (by kernel_rfl) (fun _ _ _ h => h) (Or.inl ⟨by kernel_rfl, ?_⟩) (HCS.out _ HK.out) ?_
                            rotate_left
                            · (intro wq _; first | (go_simp; done) | (go_simp; with_reducible rfl))
                            try simp only [List.getElem_toArray, List.getElem_cons_zero, List.getElem_cons_succ, Act.put, List.setIfInBounds_toArray, List.set_cons_zero, List.set_cons_succ]
                            refine wpAnyH_take (i := 24) (v := ?_) rfl (by kernel_rfl) (by kernel_rfl) (by kernel_rfl) (fun _ _ _ h => h) (Or.inl ⟨by kernel_rfl, ?_⟩) (HCS.out _ HK.out) ?_
                            rotate_left
                            · (intro wq _; first | (go_simp; done) | (go_simp; with_reducible rfl))
                            try simp only [List.getElem_toArray, List.getElem_cons_zero, List.getElem_cons_succ, Act.put, List.setIfInBounds_toArray, List.set_cons_zero, List.set_cons_succ]
                            refine wpAnyH_take (i := 25) (v := ?_) rfl (by kernel_rfl) (by kernel_rfl) (by kernel_rfl) (fun _ _ _ h => h) (Or.inl ⟨by kernel_rfl, ?_⟩) (HCS.out _ HK.out) ?_
                            rotate_left
                            · (intro wq _; first | (go_simp; done) | (go_simp; with_reducible rfl))
                            try simp only [List.getElem_toArray, List.getElem_cons_zero, List.getElem_cons_succ, Act.put, List.setIfInBounds_toArray, List.set_cons_zero, List.set_cons_succ]
                            refine wpAnyH_take (i := 26) (v := ?_) rfl (by kernel_rfl) (by kernel_rfl) (by kernel_rfl) (fun _ _ _ h => h) (Or.inl ⟨by kernel_rfl, ?_⟩) (HCS.out _ HK.out) ?_
                            rotate_left
                            · (intro wq _; first | (go_simp; done) | (go_simp; with_reducible rfl))
                            try simp only [List.getElem_toArray, List.getElem_cons_zero, List.getElem_cons_succ, Act.put, List.setIfInBounds_toArray, List.set_cons_zero, List.set_cons_succ]
                            refine wpAnyH_take (i := 27) (v := ?_) rfl (by kernel_rfl) (by kernel_rfl) (by kernel_rfl) (fun _ _ _ h => h) (Or.inl ⟨by kernel_rfl, ?_⟩) (HCS.out _ HK.out) ?_
                            rotate_left
                            · (intro wq _; first | (go_simp; done) | (go_simp; with_reducible rfl))
                            try simp only [List.getElem_toArray, List.getElem_cons_zero, List.getElem_cons_succ, Act.put, List.setIfInBounds_toArray, List.set_cons_zero, List.set_cons_succ]
                            refine wpAnyH_take (i := 28) (v := ?_) rfl (by kernel_rfl) (by kernel_rfl) (by kernel_rfl) (fun _ _ _ h => h) (Or.inl ⟨by kernel_rfl, ?_⟩) (HCS.out _ HK.out) ?_
                            rotate_left
                            · (intro wq hSw; (try dsimp only at hSw); first | (go_simp; done) | (go_simp; with_reducible rfl))
                            try simp only [List.getElem_toArray, List.getElem_cons_zero, List.getElem_cons_succ, Act.put, List.setIfInBounds_toArray, List.set_cons_zero, List.set_cons_succ]
                            refine wpAnyH_take (i := 29) (v := ?_) rfl (by kernel_rfl) (by kernel_rfl) (by kernel_rfl) (fun _ _ _ h => h) (Or.inl ⟨by kernel_rfl, ?_⟩) (HCS.out _ HK.out) ?_
                            rotate_left
                            · (intro wq _; first | (go_simp; done) | (go_simp; with_reducible rfl))
                            try simp only [List.getElem_toArray, List.getElem_cons_zero, List.getElem_cons_succ, Act.put, List.setIfInBounds_toArray, List.set_cons_zero, List.set_cons_succ]
                            refine wpAnyH_take (i := 30) (v := ?_) rfl (by kernel_rfl) (by kernel_rfl) (by kernel_rfl) (fun _ _ _ h => h) (Or.inl ⟨by kernel_rfl, ?_⟩) (HCS.out _ HK.out) ?_
                            rotate_left
                            · (intro wq _; first | (go_simp; done) | (go_simp; with_reducible rfl))
                            try simp only [List.getElem_toArray, List.getElem_cons_zero, List.getElem_cons_succ, Act.put, List.setIfInBounds_toArray, List.set_cons_zero, List.set_cons_succ])))
                all_goals (
                  refine wpAnyH_done (by kernel_rfl) ?_ _
                  refine NoPanic.normal ?_
                  go_upto_region 20 with fail
                  have HX8 := Lib.hid (HX7.out.trans HK.out)
                  have HV8 := Lib.hid (HV7.out.trans HK.out)
                  have HP8 := Lib.hid (HK.out.heap HP7.out)
                  have HST8 := Lib.hid (HST.out.ext HK.out)
                  obtain ⟨w8, rfl⟩ : ∃ x : World, x = wc := ⟨_, rfl⟩
                  clear HCS HK HX HST
                  have hcs : ∀ W, Ext w8 W → (W.cell? ⟨P, 0, none⟩ = some (.string (bs ep)) ∧ W.cell? ⟨P, 1, none⟩ = some (.int .i64 ei) ∧ W.cell? ⟨P, 2, none⟩ = some (.bool true)) := fun W k => ⟨blk_cell (k.heap HP8.out) 0 _ rfl, blk_cell (k.heap HP8.out) 1 _ rfl, blk_cell (k.heap HP8.out) 2 _ rfl⟩
                  have HCS := Lib.hid hcs; clear hcs
                  have HK := Lib.hid (Ext.refl w8).drew
                  refine wp_region_noPanic ?_
                  refine wp_region_held_drew (S := (fun W => W.cell? ⟨P, 0, none⟩ = some (.string (bs ep)) ∧ W.cell? ⟨P, 1, none⟩ = some (.int .i64 ei) ∧ W.cell? ⟨P, 2, none⟩ = some (.bool true))) (by kernel_rfl) (HCS.out _ HK.out) (fun hHeld => ?_)
                  clear hHeld
                  generalize w8.drew = wc at HK ⊢
                  refine wpAnyH_take (i := 0) (v := ?_) rfl (by kernel_rfl) (by kernel_rfl) (by kernel_rfl) (fun _ _ _ h => h) (Or.inl ⟨by kernel_rfl, ?_⟩) (HCS.out _ HK.out) ?_
                  rotate_left
                  · (intro wq _; first | (go_simp; done) | (go_simp; with_reducible rfl))
                  try simp only [List.getElem_toArray, List.getElem_cons_zero, Act.put, List.setIfInBounds_toArray, List.set_cons_zero, List.set_cons_succ]
                  refine wpAnyH_take (i := 1) (v := ?_) rfl (by kernel_rfl) (by kernel_rfl) (by kernel_rfl) (fun _ _ _ h => h) (Or.inl ⟨by kernel_rfl, ?_⟩) (HCS.out _ HK.out) ?_
                  rotate_left
                  · (intro wq hSw; (try dsimp only at hSw); first | (go_simp; done) | (go_simp; with_reducible rfl))
                  try simp only [List.getElem_toArray, List.getElem_cons_zero, List.getElem_cons_succ, Act.put, List.setIfInBounds_toArray, List.set_cons_zero, List.set_cons_succ]
                  refine wpAnyH_take (i := 2) (v := ?_) rfl (by kernel_rfl) (by kernel_rfl) (by kernel_rfl) (fun _ _ _ h => h) (Or.inl ⟨by kernel_rfl, ?_⟩) (HCS.out _ HK.out) ?_
                  rotate_left
                  · (intro wq _; first | (go_simp; done) | (go_simp; with_reducible rfl))
                  try simp only [List.getElem_toArray, List.getElem_cons_zero, List.getElem_cons_succ, Act.put, List.setIfInBounds_toArray, List.set_cons_zero, List.set_cons_succ]
                  refine wpAnyH_take (i := 3) (v := ?_) rfl (by kernel_rfl) (by kernel_rfl) (by kernel_rfl) (fun _ _ _ h => h) (Or.inl ⟨by kernel_rfl, ?_⟩) (HCS.out _ HK.out) ?_
                  rotate_left
                  · (intro wq _; first | (go_simp; done) | (go_simp; with_reducible rfl))
                  try simp only [List.getElem_toArray, List.getElem_cons_zero, List.getElem_cons_succ, Act.put, List.setIfInBounds_toArray, List.set_cons_zero, List.set_cons_succ]
                  refine wpAnyH_take (i := 4) (v := undef) rfl (by kernel_rfl) (by kernel_rfl) (by kernel_rfl) (fun _ _ _ h => h) (Or.inr ⟨by kernel_rfl, rfl⟩) (HCS.out _ HK.out) ?_
                  try simp only [List.getElem_toArray, List.getElem_cons_zero, List.getElem_cons_succ, Act.put, List.setIfInBounds_toArray, List.set_cons_zero, List.set_cons_succ]
                  refine wpAnyH_take (i := 5) (v := undef) rfl (by kernel_rfl) (by kernel_rfl) (by kernel_rfl) (fun _ _ _ h => h) (Or.inr ⟨by kernel_rfl, rfl⟩) (HCS.out _ HK.out) ?_
                  try simp only [List.getElem_toArray, List.getElem_cons_zero, List.getElem_cons_succ, Act.put, List.setIfInBounds_toArray, List.set_cons_zero, List.set_cons_succ]
                  refine wpAnyH_take (i := 6) (v := undef) rfl (by kernel_rfl) (by kernel_rfl) (by kernel_rfl) (fun _ _ _ h => h) (Or.inr ⟨by kernel_rfl, rfl⟩) (HCS.out _ HK.out) ?_
                  try simp only [List.getElem_toArray, List.getElem_cons_zero, List.getElem_cons_succ, Act.put, List.setIfInBounds_toArray, List.set_cons_zero, List.set_cons_succ]
                  refine wpAnyH_take (i := 7) (v := undef) rfl (by kernel_rfl) (by kernel_rfl) (by kernel_rfl) (fun _ _ _ h => h) (Or.inr ⟨by kernel_rfl, rfl⟩) (HCS.out _ HK.out) ?_
                  try simp only [List.getElem_toArray, List.getElem_cons_zero, List.getElem_cons_succ, Act.put, List.setIfInBounds_toArray, List.set_cons_zero, List.set_cons_succ]
                  refine wpAnyH_take (i := 8) (v := undef) rfl (by kernel_rfl) (by kernel_rfl) (by kernel_rfl) (fun _ _ _ h => h) (Or.inr ⟨by kernel_rfl, rfl⟩) (HCS.out _ HK.out) ?_
                  try simp only [List.getElem_toArray, List.getElem_cons_zero, List.getElem_cons_succ, Act.put, List.setIfInBounds_toArray, List.set_cons_zero, List.set_cons_succ]
                  refine wpAnyH_take (i := 9) (v := undef) rfl (by kernel_rfl) (by kernel_rfl) (by kernel_rfl) (fun _ _ _ h => h) (Or.inr ⟨by kernel_rfl, rfl⟩) (HCS.out _ HK.out) ?_
                  try simp only [List.getElem_toArray, List.getElem_cons_zero, List.getElem_cons_succ, Act.put, List.setIfInBounds_toArray, List.set_cons_zero, List.set_cons_succ]
                  refine wpAnyH_take (i := 10) (v := undef) rfl (by kernel_rfl) (by kernel_rfl) (by kernel_rfl) (fun _ _ _ h => h) (Or.inr ⟨by kernel_rfl, rfl⟩) (HCS.out _ HK.out) ?_
                  try simp only [List.getElem_toArray, List.getElem_cons_zero, List.getElem_cons_succ, Act.put, List.setIfInBounds_toArray, List.set_cons_zero, List.set_cons_succ]
                  refine wpAnyH_take (i := 11) (v := undef) rfl (by kernel_rfl) (by kernel_rfl) (by kernel_rfl) (fun _ _ _ h => h) (Or.inr ⟨by kernel_rfl, rfl⟩) (HCS.out _ HK.out) ?_
                  try simp only [List.getElem_toArray, List.getElem_cons_zero, List.getElem_cons_succ, Act.put, List.setIfInBounds_toArray, List.set_cons_zero, List.set_cons_succ]
                  refine wpAnyH_take (i := 12) (v := undef) rfl (by kernel_rfl) (by kernel_rfl) (by kernel_rfl) (fun _ _ _ h => h) (Or.inr ⟨by kernel_rfl, rfl⟩) (HCS.out _ HK.out) ?_
                  try simp only [List.getElem_toArray, List.getElem_cons_zero, List.getElem_cons_succ, Act.put, List.setIfInBounds_toArray, List.set_cons_zero, List.set_cons_succ]
                  refine wpAnyH_take (i := 13) (v := undef) rfl (by kernel_rfl) (by kernel_rfl) (by kernel_rfl) (fun _ _ _ h => h) (Or.inr ⟨by kernel_rfl, rfl⟩) (HCS.out _ HK.out) ?_
                  try simp only [List.getElem_toArray, List.getElem_cons_zero, List.getElem_cons_succ, Act.put, List.setIfInBounds_toArray, List.set_cons_zero, List.set_cons_succ]
                  refine wpAnyH_take (i := 14) (v := undef) rfl (by kernel_rfl) (by kernel_rfl) (by kernel_rfl) (fun _ _ _ h => h) (Or.inr ⟨by kernel_rfl, rfl⟩) (HCS.out _ HK.out) ?_
                  try simp only [List.getElem_toArray, List.getElem_cons_zero, List.getElem_cons_succ, Act.put, List.setIfInBounds_toArray, List.set_cons_zero, List.set_cons_succ]
                  refine wpAnyH_take (i := 15) (v := undef) rfl (by kernel_rfl) (by kernel_rfl) (by kernel_rfl) (fun _ _ _ h => h) (Or.inr ⟨by kernel_rfl, rfl⟩) (HCS.out _ HK.out) ?_
                  try simp only [List.getElem_toArray, List.getElem_cons_zero, List.getElem_cons_succ, Act.put, List.setIfInBounds_toArray, List.set_cons_zero, List.set_cons_succ]
                  refine wpAnyH_take (i := 16) (v := ?_) rfl (by kernel_rfl) (by kernel_rfl) (by kernel_rfl) (fun _ _ _ h => h) (Or.inl ⟨by kernel_rfl, ?_⟩) (HCS.out _ HK.out) ?_
                  rotate_left
                  · (intro wq _; first | (go_simp; done) | (go_simp; with_reducible rfl))
                  try simp only [List.getElem_toArray, List.getElem_cons_zero, List.getElem_cons_succ, Act.put, List.setIfInBounds_toArray, List.set_cons_zero, List.set_cons_succ]
                  all_goals (
                    refine wpAnyH_done (by kernel_rfl) ?_ _
                    refine NoPanic.normal ?_
                    obtain ⟨b0, b1, b2, b3⟩ := HB3.out _ (HV8.out.trans HK.out)
                    have p0 := blk_cell (HK.out.heap HP8.out) 0 (Value.string (bs ep)) rfl
                    go_wp2_with (go_at_call 36; refine Hid.out ?_)
                    refine Lib.hid ?_
                    clear b0 b1 b2 b3 p0
                    refine (HNA.out _ (HX8.out.trans HK.out)).mono ?_
                    rintro E w9 ⟨aw, cw, X2, rfl, hs2, hp2, hO2, hx9⟩
                    have hX2 := same_names HNK.out hs2 hp2 HNN.out.1 HNN.out.2
                    subst hX2
                    have HST9 := Lib.hid (HST8.out.ext (HK.out.trans hx9))
                    have HO9 := Lib.hid hO2.strs.1
                    have HP9 := Lib.hid ((HK.out.trans hx9).heap HP8.out)
                    have HV9 := Lib.hid (HV8.out.trans (HK.out.trans hx9))
                    have hsl : X2.length ≤ 1000000000 := by
                      rw [hp2.length_eq]
                      unfold namesL
                      exact Nat.le_trans (List.length_filterMap_le _ _) (by have := HLN.out; omega)
                    clear hs2 hp2 hO2 hx9
                    obtain ⟨sn, hsn⟩ : ∃ n, n = X2.length := ⟨_, rfl⟩
                    rw [← hsn] at hsl ⊢
                    have HSN := Lib.hid hsn; clear hsn
                    have p2 := blk_cell HP9.out 2 (Value.bool true) rfl
                    have hsb : ((sn : Int) == (sn : Int)) = true := by simp
                    have hsb2 : ((sn : Int) != (sn : Int)) = false := by simp
                    go_wp2_with fail
                    go_loopw [150] (fun i wz => ∃ j : Nat, i = .int .i64 j ∧ j ≤ sn ∧ Hid (wz = w9)) (fun i _ => sn - (intOf i).toNat)
                    case atStart => exact ⟨0, rfl, Nat.zero_le _, Lib.hid rfl⟩
                    case round =>
                      obtain ⟨j, rfl, hj, hwz⟩ := hrel
                      obtain rfl := hwz.out
                      clear hwz
                      by_cases hjl : j < sn
                      · have hjX : j < X2.length := by have := HSN.out; omega
                        obtain ⟨g1, o1, rfl, _, hc1⟩ := HST9.out.at (by intro e; rw [e] at hjX; simp at hjX)
                        obtain ⟨g2, o2, rfl, _, hc2⟩ := HO9.out.at (by intro e; rw [e] at hjX; simp at hjX)
                        have n1 := hc1 j hjX
                        have n2 := hc2 j hjX
                        clear hc1 hc2
                        generalize X2.getD j [] = y at n1 n2
                        have hyy : ((bs y).toList == (bs y).toList) = true := by simp
                        have i2 : (0 : Int) ≤ (j : Int) := by omega
                        have i3 : (j : Int) < (sn : Int) := by omega
                        go_wp2_with fail
                        go_roundw
                        case rel => exact ⟨j + 1, by go_num, by omega, Lib.hid (by trivial)⟩
                        case measure => simp [intOf]; omega
                      · go_wp2_with fail
                        go_roundw
                        case rel => exact ⟨r + 1, by go_num, by omega, HV9⟩
                        case measure => simp [intOf]; omega))
              | false =>
                have hcr2 := HCR.out; have hcl2 := HCL.out; have hcd2 := HCD.out
                simp only [Bool.false_eq_true, if_false, Bool.and_false] at hcr2 hcl2 hcd2
                clear HCR HCL HCD
                have hda := CDA.out ei
                rw [← HDT.out ei, HDAT.out ei HQ3.out.1 HQ3.out.2] at hda
                obtain ⟨d, hd⟩ : ∃ d, d = (T.node ei).data := ⟨_, rfl⟩
                rw [← hd] at hda hcr2
                have HDA := Lib.hid hda; clear hda hd
                have HCR := Lib.hid hcr2; have HCL := Lib.hid hcl2; have HCD := Lib.hid hcd2; clear hcr2 hcl2 hcd2
                go_upto_region 18 with (first
                  | (go_at_call 13; refine (HCF.out _ HX4.out).mono ?_; rintro E w5 ⟨rfl, hx⟩; have HX5 := Lib.hid (HX4.out.trans hx); have HV5 := Lib.hid (HV4.out.trans hx); have HP5 := Lib.hid (hx.heap HP.out); clear hx p0; have p0 := blk_cell HP5.out 0 (Value.string (bs ep)) rfl)
                  | (go_at_call 21; refine (HCR.out _ HX5.out).mono ?_; rintro E w6 ⟨⟨ad, cd, rfl, hcd6, hdm⟩, hx⟩; have HX6 := Lib.hid (HX5.out.trans hx); have HV6 := Lib.hid (HV5.out.trans hx); have HP6 := Lib.hid (hx.heap HP5.out); have HDM6 := Lib.hid hdm; clear hx p0 hdm hcd6; have p0 := blk_cell HP6.out 0 (Value.string (bs ep)) rfl)
                  | (go_at_call 22; refine (HCL.out _ HX6.out).mono ?_; rintro E w7 ⟨rfl, hx⟩; have HX7 := Lib.hid (HX6.out.trans hx); have HV7 := Lib.hid (HV6.out.trans hx); have HP7 := Lib.hid (hx.heap HP6.out); have HDM7 := Lib.hid (HDM6.out.ext hx); clear hx p0))
                have hcs : ∀ W, Ext w7 W → (W.cell? ⟨P, 0, none⟩ = some (.string (bs ep)) ∧ W.cell? ⟨P, 1, none⟩ = some (.int .i64 ei) ∧ W.cell? ⟨P, 2, none⟩ = some (.bool false)) := fun W k => ⟨blk_cell (k.heap HP7.out) 0 _ rfl, blk_cell (k.heap HP7.out) 1 _ rfl, blk_cell (k.heap HP7.out) 2 _ rfl⟩
                have HCS := Lib.hid hcs; clear hcs
                have HX := HX7
                have HK := Lib.hid (Ext.refl w7).drew
                refine wp_region_noPanic ?_
                refine wp_region_held_drew (S := (fun W => W.cell? ⟨P, 0, none⟩ = some (.string (bs ep)) ∧ W.cell? ⟨P, 1, none⟩ = some (.int .i64 ei) ∧ W.cell? ⟨P, 2, none⟩ = some (.bool false))) (by kernel_rfl) (HCS.out _ HK.out) (fun hHeld => ?_)
                clear hHeld
                generalize w7.drew = wc at HK ⊢
                refine wpAnyH_take (i := 0) (v := ?_) rfl (by kernel_rfl) (by kernel_rfl) (by kernel_rfl) (fun _ _ _ h => h) (Or.inl ⟨by kernel_rfl, ?_⟩) (HCS.out _ HK.out) ?_
                rotate_left
                · (intro wq _; first | (go_simp; done) | (go_simp; with_reducible rfl))
                try simp only [List.getElem_toArray, List.getElem_cons_zero, Act.put, List.setIfInBounds_toArray, List.set_cons_zero, List.set_cons_succ]
                refine wpAnyH_take (i := 1) (v := ?_) rfl (by kernel_rfl) (by kernel_rfl) (by kernel_rfl) (fun _ _ _ h => h) (Or.inl ⟨by kernel_rfl, ?_⟩) (HCS.out _ HK.out) ?_
                rotate_left
                · (intro wq _; first | (go_simp; done) | (go_simp; with_reducible rfl))
                try simp only [List.getElem_toArray, List.getElem_cons_zero, List.getElem_cons_succ, Act.put, List.setIfInBounds_toArray, List.set_cons_zero, List.set_cons_succ]
                refine wpAnyH_take (i := 2) (v := ?_) rfl (by kernel_rfl) (by kernel_rfl) (by kernel_rfl) (fun _ _ _ h => h) (Or.inl ⟨by kernel_rfl, ?_⟩) (HCS.out _ HK.out) ?_
                rotate_left
                · (intro wq _; first | (go_simp; done) | (go_simp; with_reducible rfl))
                try simp only [List.getElem_toArray, List.getElem_cons_zero, List.getElem_cons_succ, Act.put, List.setIfInBounds_toArray, List.set_cons_zero, List.set_cons_succ]
                refine wpAnyH_take (i := 3) (v := ?_) rfl (by kernel_rfl) (by kernel_rfl) (by kernel_rfl) (fun _ _ _ h => h) (Or.inl ⟨by kernel_rfl, ?_⟩) (HCS.out _ HK.out) ?_
                rotate_left
                · (intro wq _; first | (go_simp; done) | (go_simp; with_reducible rfl))
                try simp only [List.getElem_toArray, List.getElem_cons_zero, List.getElem_cons_succ, Act.put, List.setIfInBounds_toArray, List.set_cons_zero, List.set_cons_succ]
                refine wpAnyH_take (i := 4) (v := ?_) rfl (by kernel_rfl) (by kernel_rfl) (by kernel_rfl) (fun _ _ _ h => h) (Or.inl ⟨by kernel_rfl, ?_⟩) (HCS.out _ HK.out) ?_
                rotate_left
                · (intro wq _; first | (go_simp; done) | (go_simp; with_reducible rfl))
                try simp only [List.getElem_toArray, List.getElem_cons_zero, List.getElem_cons_succ, Act.put, List.setIfInBounds_toArray, List.set_cons_zero, List.set_cons_succ]
                refine wpAnyH_take (i := 5) (v := ?_) rfl (by kernel_rfl) (by kernel_rfl) (by kernel_rfl) (fun _ _ _ h => h) (Or.inl ⟨by kernel_rfl, ?_⟩) (HCS.out _ HK.out) ?_
                rotate_left
                · (intro wq hSw; (try dsimp only at hSw); first | (go_simp; done) | (go_simp; with_reducible rfl))
                try simp only [List.getElem_toArray, List.getElem_cons_zero, List.getElem_cons_succ, Act.put, List.setIfInBounds_toArray, List.set_cons_zero, List.set_cons_succ]
                refine wpAnyH_take (i := 6) (v := ?_) rfl (by kernel_rfl) (by kernel_rfl) (by kernel_rfl) (fun _ _ _ h => h) (Or.inl ⟨by kernel_rfl, ?_⟩) (HCS.out _ HK.out) ?_
                rotate_left
                · (intro wq _; first | (go_simp; done) | (go_simp; with_reducible rfl))
                try simp only [List.getElem_toArray, List.getElem_cons_zero, List.getElem_cons_succ, Act.put, List.setIfInBounds_toArray, List.set_cons_zero, List.set_cons_succ]
                refine wpAnyH_take (i := 7) (v := ?_) rfl (by kernel_rfl) (by kernel_rfl) (by kernel_rfl) (fun _ _ _ h => h) (Or.inl ⟨by kernel_rfl, ?_⟩) (HCS.out _ HK.out) ?_
                rotate_left
                · (intro wq _; first | (go_simp; done) | (go_simp; with_reducible rfl))
                try simp only [List.getElem_toArray, List.getElem_cons_zero, List.getElem_cons_succ, Act.put, List.setIfInBounds_toArray, List.set_cons_zero, List.set_cons_succ]
                refine wpAnyH_take (i := 8) (v := ?_) rfl (by kernel_rfl) (by kernel_rfl) (by kernel_rfl) (fun _ _ _ h => h) (Or.inl ⟨by kernel_rfl, ?_⟩) (HCS.out _ HK.out) ?_
                rotate_left
                · (intro wq _; first | (go_simp; done) | (go_simp; with_reducible rfl))
                try simp only [List.getElem_toArray, List.getElem_cons_zero, List.getElem_cons_succ, Act.put, List.setIfInBounds_toArray, List.set_cons_zero, List.set_cons_succ]
                refine wpAnyH_take (i := 9) (v := ?_) rfl (by kernel_rfl) (by kernel_rfl) (by kernel_rfl) (fun _ _ _ h => h) (Or.inl ⟨by kernel_rfl, ?_⟩) (HCS.out _ HK.out) ?_
                rotate_left
                · (intro wq _; first | (go_simp; done) | (go_simp; with_reducible rfl))
                try simp only [List.getElem_toArray, List.getElem_cons_zero, List.getElem_cons_succ, Act.put, List.setIfInBounds_toArray, List.set_cons_zero, List.set_cons_succ]
                refine wpAnyH_take (i := 10) (v := ?_) rfl (by kernel_rfl) (by kernel_rfl) (by kernel_rfl) (fun _ _ _ h => h) (Or.inl ⟨by kernel_rfl, ?_⟩) (HCS.out _ HK.out) ?_
                rotate_left
                · (intro wq _; first | (go_simp; done) | (go_simp; with_reducible rfl))
                try simp only [List.getElem_toArray, List.getElem_cons_zero, List.getElem_cons_succ, Act.put, List.setIfInBounds_toArray, List.set_cons_zero, List.set_cons_succ]
                refine wpAnyH_take (i := 11) (v := ?_) rfl (by kernel_rfl) (by kernel_rfl) (by kernel_rfl) (fun _ _ _ h => h) (Or.inl ⟨by kernel_rfl, ?_⟩) (HCS.out _ HK.out) ?_
                rotate_left
                · (intro wq hSw; (try dsimp only at hSw); first | (go_simp; done) | (go_simp; with_reducible rfl))
                try simp only [List.getElem_toArray, List.getElem_cons_zero, List.getElem_cons_succ, Act.put, List.setIfInBounds_toArray, List.set_cons_zero, List.set_cons_succ]
                refine wpAnyH_take (i := 13) (v := ?_) rfl (by kernel_rfl) (by kernel_rfl) (by kernel_rfl) (fun _ _ _ h => h) (Or.inl ⟨by kernel_rfl, ?_⟩) (HCS.out _ HK.out) ?_
                rotate_left
                · (intro wq _; first | (go_simp; done) | (go_simp; with_reducible rfl))
                try simp only [List.getElem_toArray, List.getElem_cons_zero, List.getElem_cons_succ, Act.put, List.setIfInBounds_toArray, List.set_cons_zero, List.set_cons_succ]
                refine wpAnyH_take (i := 14) (v := ?_) rfl (by kernel_rfl) (by kernel_rfl) (by kernel_rfl) (fun _ _ _ h => h) (Or.inl ⟨by kernel_rfl, ?_⟩) (HCS.out _ HK.out) ?_
                rotate_left
                · (intro wq hSw; (try dsimp only at hSw); first | (go_simp; done) | (go_simp; with_reducible rfl))
                try simp only [List.getElem_toArray, List.getElem_cons_zero, List.getElem_cons_succ, Act.put, List.setIfInBounds_toArray, List.set_cons_zero, List.set_cons_succ]
                all_goals (
                  first
                    | refine wpAnyH_ready (rs := [12]) (by decide +kernel) (by simp) ?_
                  repeat' (first | exact AllReadyH.nil | (refine AllReadyH.cons rfl (fun K hK => ?_) ?_)))
                all_goals (
                  first
                    | (go_simp
                       first
                         | (go_at_call 26
                            refine (HCD.out wc (HX.out.trans HK.out)).mono ?_
                            rintro E wn ⟨rfl, hx⟩
                            replace HK := Lib.hid (HK.out.trans hx)
                            clear hx
                            go_wp2_with fail
                            refine hK.out _ _ (HCS.out _ HK.out) (fun _ => ?_)
                            clear hK K
                            obtain ⟨wc, rfl⟩ : ∃ x : World, x = wn := ⟨_, rfl⟩
                            try simp only [List.getElem_toArray, List.getElem_cons_zero, List.getElem_cons_succ, Act.put, List.setIfInBounds_toArray, List.set_cons_zero, List.set_cons_succ]
                            refine wpAnyH_take (i := 15) (v := ?_) rfl (by kernel_rfl) (by kernel_rfl) (by kernel_rfl) (fun _ _ _ h => h) (Or.inl ⟨by kernel_rfl, ?_⟩) (HCS.out _ HK.out) ?_
                            rotate_left
                            · (intro wq _; first | (go_simp; done) | (go_simp; with_reducible rfl))
                            try simp only [List.getElem_toArray, List.getElem_cons_zero, List.getElem_cons_succ, Act.put, List.setIfInBounds_toArray, List.set_cons_zero, List.set_cons_succ]
                            refine wpAnyH_take (i := 16) (v := ?_) rfl (by kernel_rfl) (by kernel_rfl) (by kernel_rfl) (fun _ _ _ h => h) (Or.inl ⟨by kernel_rfl, ?_⟩) (HCS.out _ HK.out) ?_
                            rotate_left
                            · (intro wq _; first | (go_simp; done) | (go_simp; with_reducible rfl))
                            try simp only [List.getElem_toArray, List.getElem_cons_zero, List.getElem_cons_succ, Act.put, List.setIfInBounds_toArray, List.set_cons_zero, List.set_cons_succ]
                            refine wpAnyH_take (i := 17) (v := ?_) rfl (by kernel_rfl) (by kernel_rfl) (by kernel_rfl) (fun _ _ _ h => h) (Or.inl ⟨by kernel_rfl, ?_⟩) (HCS.out _ HK.out) ?_
                            rotate_left
                            · (intro wq _; first | (go_simp; done) | (go_simp; with_reducible rfl))
                            try simp only [List.getElem_toArray, List.getElem_cons_zero, List.getElem_cons_succ, Act.put, List.setIfInBounds_toArray, List.set_cons_zero, List.set_cons_succ]
                            refine wpAnyH_take (i := 18) (v := ?_) rfl (by kernel_rfl) (by kernel_rfl) (by kernel_rfl) (fun _ _ _ h => h) (Or.inl ⟨by kernel_rfl, ?_⟩) (HCS.out _ HK.out) ?_
                            rotate_left
                            · (intro wq _; first | (go_simp; done) | (go_simp; with_reducible rfl))
                            try simp only [List.getElem_toArray, List.getElem_cons_zero, List.getElem_cons_succ, Act.put, List.setIfInBounds_toArray, List.set_cons_zero, List.set_cons_succ]
                            refine wpAnyH_take (i := 19) (v := ?_) rfl (by kernel_rfl) (by kernel_rfl) (by kernel_rfl) (fun _ _ _ h => h) (Or.inl ⟨by kernel_rfl, ?_⟩) (HCS.out _ HK.out) ?_
                            rotate_left
                            · (intro wq _; first | (go_simp; done) | (go_simp; with_reducible rfl))
                            try simp only [List.getElem_toArray, List.getElem_cons_zero, List.getElem_cons_succ, Act.put, List.setIfInBounds_toArray, List.set_cons_zero, List.set_cons_succ]
                            refine wpAnyH_take (i := 20) (v := ?_) rfl (by kernel_rfl) (by kernel_rfl) (by kernel_rfl) (fun _ _ _ h => h) (Or.inl ⟨by kernel_rfl, ?_⟩) (HCS.out _ HK.out) ?_
                            rotate_left
                            · (intro wq _; first | (go_simp; done) | (go_simp; with_reducible rfl))
                            try simp only [List.getElem_toArray, List.getElem_cons_zero, List.getElem_cons_succ, Act.put, List.setIfInBounds_toArray, List.set_cons_zero, List.set_cons_succ]
                            refine wpAnyH_take (i := 21) (v := ?_) rfl (by kernel_rfl) (by kernel_rfl) (by kernel_rfl) (fun _ _ _ h => h) (Or.inl ⟨by kernel_rfl, ?_⟩) (HCS.out _ HK.out) ?_
                            rotate_left
                            · (intro wq hSw; (try dsimp only at hSw); first | (go_simp; done) | (go_simp; with_reducible rfl))
                            try simp only [List.getElem_toArray, List.getElem_cons_zero, List.getElem_cons_succ, Act.put, List.setIfInBounds_toArray, List.set_cons_zero, List.set_cons_succ]
                            refine wpAnyH_take (i := 22) (v := ?_) rfl (by kernel_rfl) (by kernel_rfl) (by kernel_rfl) (fun _ _ _ h => h) (Or.inl ⟨by kernel_rfl, ?_⟩) (HCS.out _ HK.out) ?_
                            rotate_left
                            · (intro wq _; first | (go_simp; done) | (go_simp; with_reducible rfl))
                            try simp only [List.getElem_toArray, List.getElem_cons_zero, List.getElem_cons_succ, Act.put, List.setIfInBounds_toArray, List.set_cons_zero, List.set_cons_succ]
                            refine wpAnyH_take (i := 23) (v := ?_) rfl (by kernel_rfl) (by kernel_rfl) (by kernel_rfl) (fun _ _ _ h => h) (Or.inl ⟨by kernel_rfl, ?_⟩) (HCS.out _ HK.out) ?_
                            rotate_left
                            · (intro wq _; first | (go_simp; done) | (go_simp; with_reducible rfl))
                            try simp only [List.getElem_toArray, List.getElem_cons_zero, List.getElem_cons_succ, Act.put, List.setIfInBounds_toArray, List.set_cons_zero, List.set_cons_succ]
                            refine wpAnyH_take (i := 24) (v := ?_) rfl (by kernel_rfl) (by kernel_rfl) (by kernel_rfl) (fun _ _ _ h => h) (Or.inl ⟨by kernel_rfl, ?_⟩) (HCS.out _ HK.out) ?_
                            rotate_left
                            · (intro wq _; first | (go_simp; done) | (go_simp; with_reducible rfl))
                            try simp only [List.getElem_toArray, List.getElem_cons_zero, List.getElem_cons_succ, Act.put, List.setIfInBounds_toArray, List.set_cons_zero, List.set_cons_succ]
                            refine wpAnyH_take (i := 25) (v := ?_) rfl (by kernel_rfl) (by kernel_rfl) (by kernel_rfl) (fun _ _ _ h => h) (Or.inl ⟨by kernel_rfl, ?_⟩) (HCS.out _ HK.out) ?_
                            rotate_left
                            · (intro wq _; first | (go_simp; done) | (go_simp; with_reducible rfl))
                            try simp only [List.getElem_toArray, List.getElem_cons_zero, List.getElem_cons_succ, Act.put, List.setIfInBounds_toArray, List.set_cons_zero, List.set_cons_succ]
                            refine wpAnyH_take (i := 26) (v := ?_) rfl (by kernel_rfl) (by kernel_rfl) (by kernel_rfl) (fun _ _ _ h => h) (Or.inl ⟨by kernel_rfl, ?_⟩) (HCS.out _ HK.out) ?_
                            rotate_left
                            · (intro wq _; first | (go_simp; done) | (go_simp; with_reducible rfl))
                            try simp only [List.getElem_toArray, List.getElem_cons_zero, List.getElem_cons_succ, Act.put, List.setIfInBounds_toArray, List.set_cons_zero, List.set_cons_succ]
                            refine wpAnyH_take (i := 27) (v := ?_) rfl (by kernel_rfl) (by kernel_rfl) (by kernel_rfl) (fun _ _ _ h => h) (Or.inl ⟨by kernel_rfl, ?_⟩) (HCS.out _ HK.out) ?_
                            rotate_left
                            · (intro wq _; first | (go_simp; done) | (go_simp; with_reducible rfl))
                            try simp only [List.getElem_toArray, List.getElem_cons_zero, List.getElem_cons_succ, Act.put, List.setIfInBounds_toArray, List.set_cons_zero, List.set_cons_succ]
                            refine wpAnyH_take (i := 28) (v := ?_) rfl (by kernel_rfl) (by kernel_rfl) (by kernel_rfl) (fun _ _ _ h => h) (Or.inl ⟨by kernel_rfl, ?_⟩) (HCS.out _ HK.out) ?_
                            rotate_left
                            · (intro wq hSw; (try dsimp only at hSw); first | (go_simp; done) | (go_simp; with_reducible rfl))
                            try simp only [List.getElem_toArray, List.getElem_cons_zero, List.getElem_cons_succ, Act.put, List.setIfInBounds_toArray, List.set_cons_zero, List.set_cons_succ]
                            refine wpAnyH_take (i := 29) (v := ?_) rfl (by kernel_rfl) (by kernel_rfl) (by kernel_rfl) (fun _ _ _ h => h) (Or.inl ⟨by kernel_rfl, ?_⟩) (HCS.out _ HK.out) ?_
                            rotate_left
                            · (intro wq _; first | (go_simp; done) | (go_simp; with_reducible rfl))
                            try simp only [List.getElem_toArray, List.getElem_cons_zero, List.getElem_cons_succ, Act.put, List.setIfInBounds_toArray, List.set_cons_zero, List.set_cons_succ]
                            refine wpAnyH_take (i := 30) (v := ?_) rfl (by kernel_rfl) (by kernel_rfl) (by kernel_rfl) (fun _ _ _ h => h) (Or.inl ⟨by kernel_rfl, ?_⟩) (HCS.out _ HK.out) ?_
                            rotate_left
                            · (intro wq _; first | (go_simp; done) | (go_simp; with_reducible rfl))
                            try simp only [List.getElem_toArray, List.getElem_cons_zero, List.getElem_cons_succ, Act.put, List.setIfInBounds_toArray, List.set_cons_zero, List.set_cons_succ])))
                all_goals (
                  refine wpAnyH_done (by kernel_rfl) ?_ _
                  refine NoPanic.normal ?_
                  go_upto_region 20 with fail
                  have HX8 := Lib.hid (HX7.out.trans HK.out)
                  have HV8 := Lib.hid (HV7.out.trans HK.out)
                  have HP8 := Lib.hid (HK.out.heap HP7.out)
                  have HDM8 := Lib.hid (HDM7.out.ext HK.out)
                  obtain ⟨w8, rfl⟩ : ∃ x : World, x = wc := ⟨_, rfl⟩
                  clear HCS HK HX HDM7
                  have hcs : ∀ W, Ext w8 W → (W.cell? ⟨B, 0, none⟩ = some (.slice (some ⟨g, off, none⟩) ln lc) ∧ W.cell? ⟨B, 1, none⟩ = some (.slice fa n fc) ∧ W.cell? ⟨B, 2, none⟩ = some (.int .i64 nx) ∧ W.cell? ⟨B, 3, none⟩ = some (.int .i64 q) ∧ W.cell? ⟨P, 1, none⟩ = some (.int .i64 ei) ∧ W.cell? ⟨P, 2, none⟩ = some (.bool false) ∧ (convert 36 9 (.slice ad d.length cd)).run Tryz.prog W = .ok (.string (bs d)) W) := fun W k => by
                    obtain ⟨b0, b1, b2, b3⟩ := HB3.out _ (HV8.out.trans k)
                    exact ⟨b0, b1, b2, b3, blk_cell (k.heap HP8.out) 1 _ rfl, blk_cell (k.heap HP8.out) 2 _ rfl, conv_text (HDM8.out.ext k).bytes⟩
                  have HCS := Lib.hid hcs; clear hcs
                  have HX := HX8
                  have HK := Lib.hid (Ext.refl w8).drew
                  refine wp_region_noPanic ?_
                  refine wp_region_held_drew (S := (fun W => W.cell? ⟨B, 0, none⟩ = some (.slice (some ⟨g, off, none⟩) ln lc) ∧ W.cell? ⟨B, 1, none⟩ = some (.slice fa n fc) ∧ W.cell? ⟨B, 2, none⟩ = some (.int .i64 nx) ∧ W.cell? ⟨B, 3, none⟩ = some (.int .i64 q) ∧ W.cell? ⟨P, 1, none⟩ = some (.int .i64 ei) ∧ W.cell? ⟨P, 2, none⟩ = some (.bool false) ∧ (convert 36 9 (.slice ad d.length cd)).run Tryz.prog W = .ok (.string (bs d)) W)) (by kernel_rfl) (HCS.out _ HK.out) (fun hHeld => ?_)
                  clear hHeld
                  generalize w8.drew = wc at HK ⊢
                  refine wpAnyH_take (i := 0) (v := ?_) rfl (by kernel_rfl) (by kernel_rfl) (by kernel_rfl) (fun _ _ _ h => h) (Or.inl ⟨by kernel_rfl, ?_⟩) (HCS.out _ HK.out) ?_
                  rotate_left
                  · (intro wq _; first | (go_simp; done) | (go_simp; with_reducible rfl))
                  try simp only [List.getElem_toArray, List.getElem_cons_zero, Act.put, List.setIfInBounds_toArray, List.set_cons_zero, List.set_cons_succ]
                  refine wpAnyH_take (i := 1) (v := ?_) rfl (by kernel_rfl) (by kernel_rfl) (by kernel_rfl) (fun _ _ _ h => h) (Or.inl ⟨by kernel_rfl, ?_⟩) (HCS.out _ HK.out) ?_
                  rotate_left
                  · (intro wq hSw; (try dsimp only at hSw); first | (go_simp; done) | (go_simp; with_reducible rfl))
                  try simp only [List.getElem_toArray, List.getElem_cons_zero, List.getElem_cons_succ, Act.put, List.setIfInBounds_toArray, List.set_cons_zero, List.set_cons_succ]
                  refine wpAnyH_take (i := 2) (v := ?_) rfl (by kernel_rfl) (by kernel_rfl) (by kernel_rfl) (fun _ _ _ h => h) (Or.inl ⟨by kernel_rfl, ?_⟩) (HCS.out _ HK.out) ?_
                  rotate_left
                  · (intro wq _; first | (go_simp; done) | (go_simp; with_reducible rfl))
                  try simp only [List.getElem_toArray, List.getElem_cons_zero, List.getElem_cons_succ, Act.put, List.setIfInBounds_toArray, List.set_cons_zero, List.set_cons_succ]
                  refine wpAnyH_take (i := 3) (v := ?_) rfl (by kernel_rfl) (by kernel_rfl) (by kernel_rfl) (fun _ _ _ h => h) (Or.inl ⟨by kernel_rfl, ?_⟩) (HCS.out _ HK.out) ?_
                  rotate_left
                  · (intro wq _; first | (go_simp; done) | (go_simp; with_reducible rfl))
                  try simp only [List.getElem_toArray, List.getElem_cons_zero, List.getElem_cons_succ, Act.put, List.setIfInBounds_toArray, List.set_cons_zero, List.set_cons_succ]
                  refine wpAnyH_take (i := 4) (v := ?_) rfl (by kernel_rfl) (by kernel_rfl) (by kernel_rfl) (fun _ _ _ h => h) (Or.inl ⟨by kernel_rfl, ?_⟩) (HCS.out _ HK.out) ?_
                  rotate_left
                  · (intro wq _; first | (go_simp; done) | (go_simp; with_reducible rfl))
                  try simp only [List.getElem_toArray, List.getElem_cons_zero, List.getElem_cons_succ, Act.put, List.setIfInBounds_toArray, List.set_cons_zero, List.set_cons_succ]
                  refine wpAnyH_take (i := 5) (v := ?_) rfl (by kernel_rfl) (by kernel_rfl) (by kernel_rfl) (fun _ _ _ h => h) (Or.inl ⟨by kernel_rfl, ?_⟩) (HCS.out _ HK.out) ?_
                  rotate_left
                  · (intro wq hSw; (try dsimp only at hSw); first | (go_simp; done) | (go_simp; with_reducible rfl))
                  try simp only [List.getElem_toArray, List.getElem_cons_zero, List.getElem_cons_succ, Act.put, List.setIfInBounds_toArray, List.set_cons_zero, List.set_cons_succ]
                  refine wpAnyH_take (i := 6) (v := ?_) rfl (by kernel_rfl) (by kernel_rfl) (by kernel_rfl) (fun _ _ _ h => h) (Or.inl ⟨by kernel_rfl, ?_⟩) (HCS.out _ HK.out) ?_
                  rotate_left
                  · (intro wq hSw; (try dsimp only at hSw); first | (go_simp; done) | (go_simp; with_reducible rfl))
                  try simp only [List.getElem_toArray, List.getElem_cons_zero, List.getElem_cons_succ, Act.put, List.setIfInBounds_toArray, List.set_cons_zero, List.set_cons_succ]
                  refine wpAnyH_take (i := 7) (v := ?_) rfl (by kernel_rfl) (by kernel_rfl) (by kernel_rfl) (fun _ _ _ h => h) (Or.inl ⟨by kernel_rfl, ?_⟩) (HCS.out _ HK.out) ?_
                  rotate_left
                  · (intro wq _; first | (go_simp; done) | (go_simp; with_reducible rfl))
                  try simp only [List.getElem_toArray, List.getElem_cons_zero, List.getElem_cons_succ, Act.put, List.setIfInBounds_toArray, List.set_cons_zero, List.set_cons_succ]
                  refine wpAnyH_take (i := 8) (v := ?_) rfl (by kernel_rfl) (by kernel_rfl) (by kernel_rfl) (fun _ _ _ h => h) (Or.inl ⟨by kernel_rfl, ?_⟩) (HCS.out _ HK.out) ?_
                  rotate_left
                  · (intro wq hSw; (try dsimp only at hSw); first | (go_simp; done) | (go_simp; with_reducible rfl))
                  try simp only [List.getElem_toArray, List.getElem_cons_zero, List.getElem_cons_succ, Act.put, List.setIfInBounds_toArray, List.set_cons_zero, List.set_cons_succ]
                  all_goals (
                    first
                      | refine wpAnyH_ready (rs := [9]) (by decide +kernel) (by simp) ?_
                    repeat' (first | exact AllReadyH.nil | (refine AllReadyH.cons rfl (fun K hK => ?_) ?_)))
                  all_goals (
                    first
                      | (go_simp
                         first
                           | (go_at_call 35
                              refine (HDA.out wc (HX.out.trans HK.out)).mono ?_
                              rintro E wn ⟨a9, c9, rfl, _, _, hdm9, hx⟩
                              have HDM9 := Lib.hid hdm9; clear hdm9
                              replace HK := Lib.hid (HK.out.trans hx)
                              clear hx
                              go_wp2_with fail
                              refine hK.out _ _ (HCS.out _ HK.out) (fun _ => ?_)
                              clear hK K
                              obtain ⟨wc, rfl⟩ : ∃ x : World, x = wn := ⟨_, rfl⟩
                              try simp only [List.getElem_toArray, List.getElem_cons_zero, List.getElem_cons_succ, Act.put, List.setIfInBounds_toArray, List.set_cons_zero, List.set_cons_succ])))
                  all_goals (
                    first
                      | refine wpAnyH_ready (rs := [10]) (by decide +kernel) (by simp) ?_
                    repeat' (first | exact AllReadyH.nil | (refine AllReadyH.cons rfl (fun K hK => ?_) ?_)))
                  all_goals (
                    first
                      | (go_simp
                         first
                           | (have v := conv_text (w := wc) (c := c9) HDM9.out.bytes
                              go_simp
                              refine hK.out _ _ (HCS.out _ HK.out) (fun _ => ?_)
                              clear hK K v
                              try simp only [List.getElem_toArray, List.getElem_cons_zero, List.getElem_cons_succ, Act.put, List.setIfInBounds_toArray, List.set_cons_zero, List.set_cons_succ]
                              refine wpAnyH_take (i := 11) (v := ?_) rfl (by kernel_rfl) (by kernel_rfl) (by kernel_rfl) (fun _ _ _ h => h) (Or.inl ⟨by kernel_rfl, ?_⟩) (HCS.out _ HK.out) ?_
                              rotate_left
                              · (intro wq _; first | (go_simp; done) | (go_simp; with_reducible rfl))
                              try simp only [List.getElem_toArray, List.getElem_cons_zero, List.getElem_cons_succ, Act.put, List.setIfInBounds_toArray, List.set_cons_zero, List.set_cons_succ]
                              refine wpAnyH_take (i := 12) (v := ?_) rfl (by kernel_rfl) (by kernel_rfl) (by kernel_rfl) (fun _ _ _ h => h) (Or.inl ⟨by kernel_rfl, ?_⟩) (HCS.out _ HK.out) ?_
                              rotate_left
                              · (intro wq _; first | (go_simp; done) | (go_simp; with_reducible rfl))
                              try simp only [List.getElem_toArray, List.getElem_cons_zero, List.getElem_cons_succ, Act.put, List.setIfInBounds_toArray, List.set_cons_zero, List.set_cons_succ]
                              refine wpAnyH_take (i := 13) (v := ?_) rfl (by kernel_rfl) (by kernel_rfl) (by kernel_rfl) (fun _ _ _ h => h) (Or.inl ⟨by kernel_rfl, ?_⟩) (HCS.out _ HK.out) ?_
                              rotate_left
                              · (intro wq _; first | (go_simp; done) | (go_simp; with_reducible rfl))
                              try simp only [List.getElem_toArray, List.getElem_cons_zero, List.getElem_cons_succ, Act.put, List.setIfInBounds_toArray, List.set_cons_zero, List.set_cons_succ]
                              refine wpAnyH_take (i := 14) (v := ?_) rfl (by kernel_rfl) (by kernel_rfl) (by kernel_rfl) (fun _ _ _ h => h) (Or.inl ⟨by kernel_rfl, ?_⟩) (HCS.out _ HK.out) ?_
                              rotate_left
                              · (intro wq _; first | (go_simp; done) | (go_simp; with_reducible rfl))
                              try simp only [List.getElem_toArray, List.getElem_cons_zero, List.getElem_cons_succ, Act.put, List.setIfInBounds_toArray, List.set_cons_zero, List.set_cons_succ]
                              refine wpAnyH_take (i := 15) (v := ?_) rfl (by kernel_rfl) (by kernel_rfl) (by kernel_rfl) (fun _ _ _ h => h) (Or.inl ⟨by kernel_rfl, ?_⟩) (HCS.out _ HK.out) ?_
                              rotate_left
                              · (intro wq _; first | (go_simp; done) | (go_simp; with_reducible rfl))
                              try simp only [List.getElem_toArray, List.getElem_cons_zero, List.getElem_cons_succ, Act.put, List.setIfInBounds_toArray, List.set_cons_zero, List.set_cons_succ]
                              refine wpAnyH_take (i := 16) (v := ?_) rfl (by kernel_rfl) (by kernel_rfl) (by kernel_rfl) (fun _ _ _ h => h) (Or.inl ⟨by kernel_rfl, ?_⟩) (HCS.out _ HK.out) ?_
                              rotate_left
                              · (intro wq _; first | (go_simp; done) | (go_simp; with_reducible rfl))
                              try simp only [List.getElem_toArray, List.getElem_cons_zero, List.getElem_cons_succ, Act.put, List.setIfInBounds_toArray, List.set_cons_zero, List.set_cons_succ])))
                  all_goals (
                    refine wpAnyH_done (by kernel_rfl) ?_ _
                    refine NoPanic.normal ?_
                    obtain ⟨b0, b1, b2, b3⟩ := HB3.out _ (HV8.out.trans HK.out)
                    have p0 := blk_cell (HK.out.heap HP8.out) 0 (Value.string (bs ep)) rfl
                    have hdd : ((bs d).toList == (bs d).toList) = true := by simp
                    go_wp2_with (go_at_call 36; refine Hid.out ?_)
                    refine Lib.hid ?_
                    clear b0 b1 b2 b3 p0
                    refine (HNA.out _ (HX8.out.trans HK.out)).mono ?_
                    rintro E w9 ⟨aw, cw, X2, rfl, hs2, hp2, hO2, hx9⟩
                    have HP9 := Lib.hid ((HK.out.trans hx9).heap HP8.out)
                    have HV9 := Lib.hid (HV8.out.trans (HK.out.trans hx9))
                    clear hs2 hp2 hO2 hx9
                    have p2 := blk_cell HP9.out 2 (Value.bool false) rfl
                    go_wp2_with fail
                    go_loopw [150] (fun i wz => i = .int .i64 0 ∧ Hid (wz = w9)) (fun i _ => 0)
                    case atStart => exact ⟨rfl, Lib.hid rfl⟩
                    case round =>
                      obtain ⟨rfl, hwz⟩ := hrel
                      obtain rfl := hwz.out
                      clear hwz
                      go_wp2_with fail
                      go_roundw
                      case rel => exact ⟨r + 1, by go_num, by omega, HV9⟩
                      case measure => simp [intOf]; omega))
            · go_wp2_with fail
              rw [HR.out]
              exact ⟨rfl, HX3.out.trans HXZ.out⟩))
end Go.Proofs.YtldgpcmnmegioaaGreatDoor
