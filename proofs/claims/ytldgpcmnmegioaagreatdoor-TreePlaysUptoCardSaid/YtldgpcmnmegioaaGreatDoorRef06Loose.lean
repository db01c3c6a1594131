/- farrierref06.Loose: the numbers of files that stand nowhere, in order. -/
import Derived.Test.YtldgpcmnmegioaaGreatDoorRef06Ask
import Derived.Test.YtldgpcmnmegioaaGreatDoorInsSort
import Derived.Test.YtldgpcmnmegioaaGreatDoorM5
import Derived.BigQuiet
import Derived.Deep.QuietTactic
import Derived.Deep.DrawnRows
namespace Go.Proofs.YtldgpcmnmegioaaGreatDoor
open Go.RowKit
attribute [local go_sem ↓] Go.wp_at_zero Go.wp_at_succ
def looseIds (L : List EntD) (F : List (FilD × OpA)) : List Int := (F.map fun x => x.1.id).filter fun i => decide (linksL L i = 0)
theorem looseIds_take {L : List EntD} {F : List (FilD × OpA)} {k : Nat} (hk : k < F.length) : looseIds L (F.take (k + 1)) = looseIds L (F.take k) ++ if linksL L (F.getD k fz06).1.id = 0 then [(F.getD k fz06).1.id] else [] := by
  unfold looseIds
  rw [take_getD hk fz06, List.map_append, List.filter_append]
  congr 1
  by_cases h : linksL L (F.getD k fz06).1.id = 0
  · rw [if_pos h, List.map_cons, List.map_nil, List.filter_cons_of_pos (by rw [decide_eq_true h]), List.filter_nil]
  · rw [if_neg h, List.map_cons, List.map_nil, List.filter_cons_of_neg (by rw [decide_eq_false h]; simp), List.filter_nil]
theorem int_tr (x y z : Int) (h1 : x ≤ y) (h2 : y ≤ z) : x ≤ z := by omega
theorem intV_swap (Y : List Int) (j : Nat) : ((intV Y).set j (.int .i64 (Y.getD (j - 1) 0))).set (j - 1) (.int .i64 (Y.getD j 0)) = intV (swapL 0 Y j) := by
  unfold intV swapL; rw [List.map_set, List.map_set]
theorem intV_at {Y : List Int} {i : Nat} (hi : i < Y.length) : (intV Y)[i]? = some (.int .i64 (Y.getD i 0)) := by
  unfold intV; rw [List.getElem?_map]; simp [List.getD_eq_getElem?_getD, List.getElem?_eq_getElem hi]
theorem sort_unique {X Y : List Int} (h : Y.Perm X) (hs : Y.Pairwise (· ≤ ·)) : Y = X.mergeSort fun x y => decide (x ≤ y) := by
  have h1 : ∀ a b c : Int, decide (a ≤ b) = true → decide (b ≤ c) = true → decide (a ≤ c) = true := fun a b c h1 h2 => by simp only [decide_eq_true_eq] at *; omega
  have h2 : ∀ a b : Int, (decide (a ≤ b) || decide (b ≤ a)) = true := fun a b => by simp only [Bool.or_eq_true, decide_eq_true_eq]; omega
  have s1 := List.pairwise_mergeSort h1 h2 X
  exact (h.trans (List.mergeSort_perm X _).symm).eq_of_pairwise (le := fun a b => decide (a ≤ b) = true) (fun a b _ _ k1 k2 => by simp only [decide_eq_true_eq] at k1 k2; omega) (hs.imp fun hab => by simpa using hab) s1
set_option maxRecDepth 100000 in
set_option maxHeartbeats 12800000 in
theorem ref_loose (L : List EntD) (F : List (FilD × OpA)) (la : Option Addr) (lc : Nat) (fa : Option Addr) (fc : Nat) (nx q : Int) (w : World) (hEn : EntsR w la L) (hE : FilsR w fa F) (hl : L.length ≤ 1099511627776) (hf : F.length ≤ 1099511627776) :
    Calls Tryz.prog 34 #[.agg #[.slice la L.length lc, .slice fa F.length fc, .int .i64 nx, .int .i64 q]] w fun e w' => ∃ a c, e = .returned (.slice a ((looseIds L F).mergeSort fun x y => decide (x ≤ y)).length c) ∧ OwnIs w' w.heap.size a c ((looseIds L F).mergeSort fun x y => decide (x ≤ y)) ∧ Ext w w' := by
  obtain ⟨R, hR⟩ : ∃ R : Ending → World → Prop, R = fun e w' => ∃ a c, e = .returned (.slice a ((looseIds L F).mergeSort fun x y => decide (x ≤ y)).length c) ∧ OwnIs w' w.heap.size a c ((looseIds L F).mergeSort fun x y => decide (x ≤ y)) ∧ Ext w w' := ⟨_, rfl⟩
  rw [← hR]
  have HR := Lib.hid hR; clear hR
  have hls := fun id W (k : Ext w W) => ref_links L la lc fa F.length fc nx q id W (hEn.ext k) hl
  have HE := Lib.hid hE; clear hE hEn
  obtain ⟨ln, hln⟩ : ∃ n, n = L.length := ⟨_, rfl⟩
  obtain ⟨n, hn⟩ : ∃ n, n = F.length := ⟨_, rfl⟩
  rw [← hln] at hl hls ⊢
  rw [← hn] at hf hls ⊢
  have HLN := Lib.hid hln; clear hln
  have HN := Lib.hid hn; clear hn
  have HLS := Lib.hid hls; clear hls
  go_enter Tryz.func34, Tryz.ntmps34
  go_upto_region 2 with fail
  have hx_w1 : Ext w ((w.alloc (.cells #[.slice la ln lc, .slice fa n fc, .int .i64 nx, .int .i64 q] 30)).alloc (.cells #[] 3)) := ((Ext.alloc _ _).trans (Ext.alloc _ _))
  have hf_B := (Ext.alloc (w.alloc (.cells #[.slice la ln lc, .slice fa n fc, .int .i64 nx, .int .i64 q] 30)) (.cells #[] 3)).heap (heap_alloc_new w (.cells #[.slice la ln lc, .slice fa n fc, .int .i64 nx, .int .i64 q] 30))
  have hf_G := heap_alloc_new (w.alloc (.cells #[.slice la ln lc, .slice fa n fc, .int .i64 nx, .int .i64 q] 30)) (.cells #[] 3)
  simp only [World.size_alloc] at hf_G
  generalize (w.alloc (.cells #[.slice la ln lc, .slice fa n fc, .int .i64 nx, .int .i64 q] 30)).alloc (.cells #[] 3) = w1 at hx_w1 hf_B hf_G ⊢
  obtain ⟨B, h_B⟩ : ∃ x, x = w.heap.size := ⟨_, rfl⟩
  obtain ⟨G, h_G⟩ : ∃ x, x = w.heap.size + 1 := ⟨_, rfl⟩
  rw [← h_G] at hf_G
  rw [← h_B] at hf_B
  try rw [← h_G, ← h_B]
  have hs_B : w.heap.size ≤ B := by omega
  have hs_G : w.heap.size ≤ G := by omega
  have HB := Lib.hid hf_B; clear hf_B
  have hBG : B < G ∧ w.heap.size ≤ B := ⟨by omega, hs_B⟩
  have hO : OwnIs w1 G (some ⟨G, 0, none⟩) 0 [] := row_zero hf_G (Nat.le_refl _)
  have HSR0 : Hid (G ≤ w1.heap.size) := Lib.hid (Nat.le_of_lt (Array.getElem?_eq_some_iff.1 hf_G).1)
  have HO := Lib.hid hO; clear hO hf_G hs_G hs_B h_B h_G
  have HBG := Lib.hid hBG; clear hBG
  have HX := Lib.hid hx_w1; clear hx_w1
  go_wp2_with fail
  go_loopw [3, 4] (fun s i wr => ∃ (k : Nat) (X : List Int) (a : Option Addr) (c : Nat), s = .slice a X.length c ∧ i = .int .i64 k ∧ k ≤ n ∧ X.length ≤ k ∧ Hid (X = looseIds L (F.take k)) ∧ Hid (OwnIs wr G a c X) ∧ Hid (Ext w wr) ∧ Hid (wr.heap[B]? = some (.cells #[.slice la ln lc, .slice fa n fc, .int .i64 nx, .int .i64 q] 30 (0, 0))) ∧ Hid (G ≤ wr.heap.size)) (fun _ i _ => n - (intOf i).toNat)
  case atStart => exact ⟨0, [], some ⟨G, 0, none⟩, 0, rfl, rfl, Nat.zero_le _, Nat.le_refl _, Lib.hid (by simp [looseIds]), HO, HX, HB, HSR0⟩
  case round =>
    clear HO HX HB HSR0
    obtain ⟨k, X, a, c, rfl, rfl, hk, hXk, HXF, HO, HXR, HBR, HSR⟩ := hrel
    by_cases hlt : k < n
    · have hkL : k < F.length := by have := HN.out; omega
      have hfr := HE.out.ext HXR.out
      obtain ⟨g, off, rfl, hg, c0, _⟩ := hfr.at hkL
      have hT := looseIds_take (L := L) hkL
      have HT := Lib.hid hT; clear hT hfr
      generalize (F.getD k fz06).1.id = xi at c0 HT
      have hcs : ∀ W, Ext wr W → (W.cell? ⟨B, 0, none⟩ = some (.slice la ln lc) ∧ W.cell? ⟨B, 1, none⟩ = some (.slice (some ⟨g, off, none⟩) n fc) ∧ W.cell? ⟨B, 2, none⟩ = some (.int .i64 nx) ∧ W.cell? ⟨B, 3, none⟩ = some (.int .i64 q) ∧ W.cell? ⟨g, off + k * 2, none⟩ = some (.int .i64 xi)) := fun W k => ⟨blk_cell (k.heap HBR.out) 0 _ rfl, blk_cell (k.heap HBR.out) 1 _ rfl, blk_cell (k.heap HBR.out) 2 _ rfl, blk_cell (k.heap HBR.out) 3 _ rfl, k.cell c0⟩
      have HCS := Lib.hid hcs
      have HK := Lib.hid (Ext.refl wr).drew
      have e1 := (hcs wr (Ext.refl wr)).2.1
      have i1 : (k : Int) < (n : Int) := by omega
      have i0 : (0 : Int) ≤ (k : Int) := by omega
      go_upto_region 5 with fail
      clear hcs c0 e1
      refine wp_region_noPanic ?_
      refine wp_region_held_drew (S := (fun W => W.cell? ⟨B, 0, none⟩ = some (.slice la ln lc) ∧ W.cell? ⟨B, 1, none⟩ = some (.slice (some ⟨g, off, none⟩) n fc) ∧ W.cell? ⟨B, 2, none⟩ = some (.int .i64 nx) ∧ W.cell? ⟨B, 3, none⟩ = some (.int .i64 q) ∧ W.cell? ⟨g, off + k * 2, none⟩ = some (.int .i64 xi))) (by kernel_rfl) (HCS.out _ HK.out) (fun hHeld => ?_)
      clear hHeld
      generalize wr.drew = wc at HK ⊢
      refine wpAnyH_take (i := 0) (v := ?_) rfl (by kernel_rfl) (by kernel_rfl) (by kernel_rfl) (fun _ _ _ h => h) (Or.inl ⟨by kernel_rfl, ?_⟩) (HCS.out _ HK.out) ?_
      rotate_left
      · (intro wq hSw; (try dsimp only at hSw); first | (go_simp; done) | (go_simp; with_reducible rfl))
      try simp only [List.getElem_toArray, List.getElem_cons_zero, Act.put, List.setIfInBounds_toArray, List.set_cons_zero, List.set_cons_succ]
      refine wpAnyH_take (i := 1) (v := ?_) rfl (by kernel_rfl) (by kernel_rfl) (by kernel_rfl) (fun _ _ _ h => h) (Or.inl ⟨by kernel_rfl, ?_⟩) (HCS.out _ HK.out) ?_
      rotate_left
      · (intro wq _; first | (go_simp; done) | (go_simp; with_reducible rfl))
      try simp only [List.getElem_toArray, List.getElem_cons_zero, List.getElem_cons_succ, Act.put, List.setIfInBounds_toArray, List.set_cons_zero, List.set_cons_succ]
      refine wpAnyH_take (i := 2) (v := ?_) rfl (by kernel_rfl) (by kernel_rfl) (by kernel_rfl) (fun _ _ _ h => h) (Or.inl ⟨by kernel_rfl, ?_⟩) (HCS.out _ HK.out) ?_
      rotate_left
      · (intro wq hSw; (try dsimp only at hSw); first | (go_simp; done) | (go_simp; with_reducible rfl))
      try simp only [List.getElem_toArray, List.getElem_cons_zero, List.getElem_cons_succ, Act.put, List.setIfInBounds_toArray, List.set_cons_zero, List.set_cons_succ]
      refine wpAnyH_take (i := 3) (v := ?_) rfl (by kernel_rfl) (by kernel_rfl) (by kernel_rfl) (fun _ _ _ h => h) (Or.inl ⟨by kernel_rfl, ?_⟩) (HCS.out _ HK.out) ?_
      rotate_left
      · (intro wq _; first | (go_simp; done) | (go_simp; with_reducible rfl))
      try simp only [List.getElem_toArray, List.getElem_cons_zero, List.getElem_cons_succ, Act.put, List.setIfInBounds_toArray, List.set_cons_zero, List.set_cons_succ]
      refine wpAnyH_take (i := 4) (v := ?_) rfl (by kernel_rfl) (by kernel_rfl) (by kernel_rfl) (fun _ _ _ h => h) (Or.inl ⟨by kernel_rfl, ?_⟩) (HCS.out _ HK.out) ?_
      rotate_left
      · (intro wq _; first | (go_simp; done) | (go_simp; with_reducible rfl))
      try simp only [List.getElem_toArray, List.getElem_cons_zero, List.getElem_cons_succ, Act.put, List.setIfInBounds_toArray, List.set_cons_zero, List.set_cons_succ]
      refine wpAnyH_take (i := 5) (v := ?_) rfl (by kernel_rfl) (by kernel_rfl) (by kernel_rfl) (fun _ _ _ h => h) (Or.inl ⟨by kernel_rfl, ?_⟩) (HCS.out _ HK.out) ?_
      rotate_left
      · (intro wq _; first | (go_simp; done) | (go_simp; with_reducible rfl))
      try simp only [List.getElem_toArray, List.getElem_cons_zero, List.getElem_cons_succ, Act.put, List.setIfInBounds_toArray, List.set_cons_zero, List.set_cons_succ]
      refine wpAnyH_take (i := 6) (v := ?_) rfl (by kernel_rfl) (by kernel_rfl) (by kernel_rfl) (fun _ _ _ h => h) (Or.inl ⟨by kernel_rfl, ?_⟩) (HCS.out _ HK.out) ?_
      rotate_left
      · (intro wq hSw; (try dsimp only at hSw); first | (go_simp; done) | (go_simp; with_reducible rfl))
      try simp only [List.getElem_toArray, List.getElem_cons_zero, List.getElem_cons_succ, Act.put, List.setIfInBounds_toArray, List.set_cons_zero, List.set_cons_succ]
      all_goals (
        first
          | refine wpAnyH_ready (rs := [7]) (by decide +kernel) (by simp) ?_
        repeat' (first | exact AllReadyH.nil | (refine AllReadyH.cons rfl (fun K hK => ?_) ?_)))
      all_goals (
        first
          | (go_simp
             first
               | (go_at_call 33
                  refine (HLS.out xi wc (HXR.out.trans HK.out)).mono ?_
                  rintro E wn ⟨rfl, hx⟩
                  replace HK := Lib.hid (HK.out.trans hx)
                  clear hx
                  go_wp2_with fail
                  refine hK.out _ _ (HCS.out _ HK.out) (fun _ => ?_)
                  clear hK K
                  obtain ⟨wc, rfl⟩ : ∃ x : World, x = wn := ⟨_, rfl⟩
                  try simp only [List.getElem_toArray, List.getElem_cons_zero, List.getElem_cons_succ, Act.put, List.setIfInBounds_toArray, List.set_cons_zero, List.set_cons_succ]
                  refine wpAnyH_take (i := 8) (v := ?_) rfl (by kernel_rfl) (by kernel_rfl) (by kernel_rfl) (fun _ _ _ h => h) (Or.inl ⟨by kernel_rfl, ?_⟩) (HCS.out _ HK.out) ?_
                  rotate_left
                  · (intro wq _; first | (go_simp; done) | (go_simp; with_reducible rfl))
                  try simp only [List.getElem_toArray, List.getElem_cons_zero, List.getElem_cons_succ, Act.put, List.setIfInBounds_toArray, List.set_cons_zero, List.set_cons_succ])))
      all_goals (
        refine wpAnyH_done (by kernel_rfl) ?_ _
        refine NoPanic.normal ?_
        have HX5 := Lib.hid (HXR.out.trans HK.out)
        have hO5 : OwnIs wc G a c X := ownsRow_keep HO.out (Keep.of_ext (S := fun _ => True) HK.out) (fun _ _ _ _ _ => trivial)
        have HO5 := Lib.hid hO5; clear hO5
        have HB5 := Lib.hid (HK.out.heap HBR.out)
        have HS5 : Hid (G ≤ wc.heap.size) := Lib.hid (Nat.le_trans HSR.out HK.out.size)
        obtain ⟨e0, e1, e2, e3, e4⟩ := HCS.out _ HK.out
        have hT2 := HT.out
        by_cases h0 : linksL L xi = 0
        · rw [if_pos h0] at hT2
          have HT2 := Lib.hid hT2; clear hT2
          rw [h0]
          go_wp2_with (at_builtin; refine Hid.out ?_)
          refine Lib.hid ?_
          have hx6 := Ext.alloc wc (.cells #[.int .i64 xi] 3)
          have hb6 := heap_alloc_new wc (.cells #[.int .i64 xi] 3)
          have hO6 := ownsRow_keep HO5.out (Keep.of_ext (S := fun _ => True) hx6) (fun _ _ _ _ _ => trivial)
          generalize wc.alloc (.cells #[.int .i64 xi] 3) = w6 at hx6 hb6 hO6 ⊢
          have hS6 : G ≤ w6.heap.size := Nat.le_trans HS5.out hx6.size
          have hB6 := hx6.heap HB5.out
          refine wpList_append_any rfl _ _ 33 3 (.int .i64 0) 1 8 rfl Tryz.underlying33 info_intL rfl (by decide) G a X.length c (intV X) rfl hO6 (some ⟨wc.heap.size, 0, none⟩) 1 1 [.int .i64 xi] rfl rfl (run_blk hb6) (by intro u hu; simp only [List.mem_cons, List.not_mem_nil, or_false] at hu; rcases hu with rfl; rfl) (by omega) (by decide) hS6 (X.length + 1) rfl ?_
          intro a' c' w7 hown hkp hbl
          have hO7 : OwnIs w7 G a' c' (X ++ [xi]) := by
            unfold OwnIs intV
            rw [List.length_append, List.map_append]
            exact hown
          have hx7 : Ext w w7 := ((Keep.of_ext (S := fun j => j < w.heap.size) (HX5.out.trans hx6)).andThen (Keep.of_below hbl) (fun j _ hj => by have := HBG.out; show j < G; omega)).ext_lt
          have hB7 : w7.heap[B]? = some (.cells #[.slice la ln lc, .slice (some ⟨g, off, none⟩) n fc, .int .i64 nx, .int .i64 q] 30 (0, 0)) := (Keep.of_below hbl).heap HBG.out.1 hB6
          have HO7 := Lib.hid hO7
          have HX7 := Lib.hid hx7
          have HB7 := Lib.hid hB7
          have HS7 : Hid (G ≤ w7.heap.size) := Lib.hid (Nat.le_trans hS6 hkp.size)
          clear hown hkp hbl hO7 hx7 hB7 hO6 hb6 hx6 hS6 hB6 e0 e1 e2 e3 e4
          go_wp2_with fail
          go_roundw
          case rel => exact ⟨k + 1, X ++ [xi], a', c', by simp, by go_num, by omega, by simp; omega, Lib.hid (by rw [HT2.out, ← HXF.out]), HO7, HX7, HB7, HS7⟩
          case measure => simp [intOf]; omega
        · rw [if_neg h0, List.append_nil] at hT2
          have HT2 := Lib.hid hT2; clear hT2
          generalize linksL L xi = z at h0 ⊢
          have hz : ((z : Int) == 0) = false := by simp; omega
          clear e0 e1 e2 e3 e4
          go_wp2_with fail
          go_roundw
          case rel => exact ⟨k + 1, X, a, c, rfl, by go_num, by omega, by omega, Lib.hid (by rw [HT2.out]; exact HXF.out), HO5, HX5, HB5, HS5⟩
          case measure => simp [intOf]; omega)
    · have b1 := blk_cell HBR.out 1 (Value.slice fa n fc) rfl
      have hXE : X = looseIds L F := by
        have := HXF.out
        rw [List.take_of_length_le (by have := HN.out; omega)] at this
        exact this
      rw [← hXE] at HR
      clear hXE HXF HE HLS
      obtain ⟨N2, hN2⟩ : ∃ z, z = X.length := ⟨_, rfl⟩
      have hN2n : N2 ≤ n := by omega
      have HPS := Lib.hid (fun (Y : List Int) (h : Y.Perm X) (hs : Y.Pairwise (· ≤ ·)) => sort_unique h hs)
      generalize hXS : (X.mergeSort fun x y => decide (x ≤ y)) = XS at HR HPS
      clear hXS
      rw [← hN2] at hXk ⊢
      have HN2 := Lib.hid hN2; clear hN2
      go_wp2_with fail
      go_loopw [5] (fun i wz => ∃ (m : Nat) (Y : List Int), i = .int .i64 m ∧ m ≤ N2 ∧ Hid (Y.Perm X) ∧ Hid (SortTo (· ≤ ·) 0 Y m) ∧ Hid (OwnIs wz G a c Y) ∧ Hid (Ext w wz) ∧ Hid (G ≤ wz.heap.size)) (fun i _ => N2 - (intOf i).toNat)
      case atStart => exact ⟨0, X, rfl, Nat.zero_le _, Lib.hid (List.Perm.refl _), Lib.hid (fun a b h1 h2 => by omega), HO, HXR, HSR⟩
      case round =>
        clear HO HXR HSR HBR b1
        obtain ⟨m, Y, rfl, hm, HP, HST, HOY, HXZ, HSZ⟩ := hrel
        have hYl : Y.length = N2 := by rw [HP.out.length_eq, HN2.out]
        have HYL := Lib.hid hYl; clear hYl
        by_cases hlt2 : m < N2
        · go_wp2_with fail
          go_loopw [6] (fun i wy => ∃ (j : Nat) (Z : List Int), i = .int .i64 j ∧ j ≤ m ∧ Hid (Z.Perm X) ∧ Hid (InsInv (· ≤ ·) 0 Z m j) ∧ Hid (OwnIs wy G a c Z) ∧ Hid (Ext w wy) ∧ Hid (G ≤ wy.heap.size)) (fun i _ => (intOf i).toNat)
          case atStart => exact ⟨m, Y, rfl, Nat.le_refl _, HP, Lib.hid HST.out.ins, HOY, HXZ, HSZ⟩
          case round =>
            clear HP HST HOY HXZ HSZ HYL
            obtain ⟨j, Z, rfl, hj, HP, HIN, HOZ, HXY, HSY⟩ := hrel
            have hZl : Z.length = N2 := by rw [HP.out.length_eq, HN2.out]
            have HZL := Lib.hid hZl; clear hZl
            by_cases hj0 : j = 0
            · have hd0 : decide ((0 : Int) < (j : Int)) = false := decide_eq_false (by omega)
              have hd1 : decide (0 < j) = false := decide_eq_false (by omega)
              go_upto_region 11 with fail
              go_quiet (fail)
              go_wp2_with fail
              go_roundw
              case rel => exact ⟨m + 1, Z, by go_num, by omega, HP, Lib.hid (HIN.out.done int_tr (Or.inl hj0)), Lib.hid (ownsRow_keep HOZ.out ((Keep.refl (fun _ => True) _).drewN _) (fun _ _ _ _ _ => trivial)), Lib.hid (HXY.out.drewN _), HSY⟩
              case measure => simp [intOf]; omega
            · obtain ⟨j', rfl⟩ : ∃ j', j = j' + 1 := ⟨j - 1, by omega⟩
              obtain ⟨g, rfl, hgb, hgs, hfz, hcell, hset⟩ := own_set HOZ.out (i := j' + 1) (by have := HZL.out; omega)
              have z1 := hcell (j' + 1) _ (intV_at (by have := HZL.out; omega))
              have z0 := hcell j' _ (intV_at (by have := HZL.out; omega))
              have hI := HIN.out
              obtain ⟨y1, hy1⟩ : ∃ y, y = Z.getD (j' + 1) 0 := ⟨_, rfl⟩
              obtain ⟨y0, hy0⟩ : ∃ y, y = Z.getD j' 0 := ⟨_, rfl⟩
              rw [← hy1] at z1
              rw [← hy0] at z0
              have HY := Lib.hid (And.intro hy1 hy0); clear hy1 hy0
              have hd0 : decide ((0 : Int) < ((j' + 1 : Nat) : Int)) = true := decide_eq_true (by omega)
              have hd1 : decide (0 < j' + 1) = true := decide_eq_true (by omega)
              have hd2 : decide ((0 : Int) < (j' : Int) + 1) = true := decide_eq_true (by omega)
              have i1 : (j' : Int) < (N2 : Int) := by omega
              have i2 : (j' : Int) + 1 < (N2 : Int) := by omega
              have i3 : (0 : Int) ≤ (j' : Int) := by omega
              have i4 : (0 : Int) ≤ (j' : Int) + 1 := by omega
              go_upto_region 11 with fail
              go_quiet (fail)
              clear z0 z1 hfz hcell hset hgs hI
              have hOd : OwnIs (wr.drewN nq) G (some ⟨g, 0, none⟩) c Z := ownsRow_keep HOZ.out ((Keep.refl (fun _ => True) _).drewN _) (fun _ _ _ _ _ => trivial)
              have hXd : Ext w (wr.drewN nq) := HXY.out.drewN _
              have hSd : G ≤ (wr.drewN nq).heap.size := HSY.out
              generalize wr.drewN nq = wd at hOd hXd hSd ⊢
              clear HOZ HXY HSY
              by_cases hgt : y1 < y0
              · obtain ⟨g', hg', _, _, hfz, hcell, hset⟩ := own_set hOd (i := j' + 1) (by have := HZL.out; omega)
                cases hg'
                have z1 := hcell (j' + 1) _ (intV_at (by have := HZL.out; omega))
                have z0 := hcell j' _ (intV_at (by have := HZL.out; omega))
                rw [← HY.out.1] at z1
                rw [← HY.out.2] at z0
                obtain ⟨hr1, hb1⟩ := hset (.int .i64 y0)
                have HR1 := Lib.hid hr1
                have HB1 := Lib.hid hb1
                clear hcell hset hr1 hb1 hOd
                go_upto_region 15 with fail
                have hx2 : Keep (fun j => j < w.heap.size) wd (wd.setCell ⟨g, j' + 1, none⟩ (.int .i64 y0)) := (Keep.of_but HB1.out).mono (fun j _ hj => by have := HBG.out; show j ≠ g; omega)
                have hs2 := HB1.out.size
                have hr2 := HR1.out
                generalize wd.setCell ⟨g, j' + 1, none⟩ (.int .i64 y0) = w2 at hx2 hs2 hr2 ⊢
                clear z0 z1 hfz HR1 HB1
                obtain ⟨g', hg', _, _, hfz, hcell, hset⟩ := own_set hr2 (i := j') (by have := HZL.out; omega)
                cases hg'
                have z0 := hcell j' (.int .i64 y0) (by
                  rw [List.getElem?_set, if_neg (by omega), intV_at (by have := HZL.out; omega), ← HY.out.2])
                obtain ⟨hr3, hb3⟩ := hset (.int .i64 y1)
                have HR3 := Lib.hid hr3
                have HB3 := Lib.hid hb3
                clear hcell hset hr3 hb3 hr2
                go_wp2_with fail
                go_roundw
                case rel =>
                  have hrow := HR3.out
                  have e : ((intV Z).set (j' + 1) (.int .i64 y0)).set j' (.int .i64 y1) = intV (swapL 0 Z (j' + 1)) := by
                    rw [← intV_swap, Nat.add_sub_cancel, ← HY.out.1, ← HY.out.2]
                  rw [e] at hrow
                  refine ⟨j', swapL 0 Z (j' + 1), by go_num, by omega, Lib.hid ((swapL_perm (by have := HZL.out; omega)).trans HP.out), Lib.hid ?_, Lib.hid ?_, Lib.hid ?_, Lib.hid (Nat.le_trans hSd (Nat.le_trans hs2 HB3.out.size))⟩
                  · have := HIN.out.swap (by omega) hj (by have := HZL.out; omega) (by rw [Nat.add_sub_cancel, ← HY.out.1, ← HY.out.2]; show y1 ≤ y0; omega)
                    rwa [Nat.add_sub_cancel] at this
                  · unfold OwnIs
                    rw [swapL_len]
                    exact hrow
                  · exact ((Keep.of_ext (S := fun j => j < w.heap.size) hXd).trans (hx2.andThen (Keep.of_but HB3.out) (fun j _ hj => by have := HBG.out; show j ≠ g; omega))).ext_lt
                case measure => simp [intOf]
              · go_wp2_with fail
                go_roundw
                case rel => exact ⟨m + 1, Z, by go_num, by omega, HP, Lib.hid (HIN.out.done int_tr (Or.inr (by rw [Nat.add_sub_cancel, ← HY.out.1, ← HY.out.2]; show y0 ≤ y1; omega))), Lib.hid hOd, Lib.hid hXd, Lib.hid hSd⟩
                case measure => simp [intOf]; omega
        · have hmn : m = N2 := by omega
          have hXS := HPS.out Y HP.out (by
            have h1 := HST.out
            rw [hmn, ← HYL.out] at h1
            exact h1.pairwise)
          have HXS := Lib.hid hXS; clear hXS
          go_wp2_with fail
          rw [HR.out, ← HXS.out]
          exact ⟨a, c, by rw [HYL.out]; rfl, ownsRow_base_a HOY.out (by have := HBG.out; omega), HXZ.out⟩
end Go.Proofs.YtldgpcmnmegioaaGreatDoor
