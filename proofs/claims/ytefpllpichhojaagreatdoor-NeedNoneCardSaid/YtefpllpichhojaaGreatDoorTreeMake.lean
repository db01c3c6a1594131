/- tree.make: a node more. -/
import Derived.Test.YtefpllpichhojaaGreatDoorM4
import Derived.Test.YtefpllpichhojaaGreatDoorM14
namespace Go.Proofs.YtefpllpichhojaaGreatDoor
open Go.RowKit
section
variable {base tb mb N : Nat} {T : TreeD} {A : Int → NodeA}
def MakeR (base tb mb N : Nat) (T : TreeD) (A : Int → NodeA) (n : NodeD) (a : NodeA) (d : Int) (x : By) (w : World) (e : Ending) (w' : World) : Prop :=
 e = .returned (.tuple #[]) ∧ TreeM w' base tb mb (N + 2) (bindT (addT T n) d x T.next) (fun j => if j = T.next then a else A j) ∧ Keep (· < base) w w'
set_option maxRecDepth 100000 in
set_option maxHeartbeats 6400000 in
theorem tree_make (n : NodeD) (a : NodeA) (d : Int) (x : By) (w : World) (hT : TreeM w base tb mb N T A) (hg : GoodT T) (hf : T.next ≤ 4611686018427387904) (hK : N ≤ 1000000000) (hd : d ∈ T.ids) (hdd : (T.node d).dir = true) (hx : x.length ≤ 100000)
 (hn : NodeM w N n a) (hb : ∀ j ∈ T.ids, a.blk ≠ (A j).blk) (hk : ∀ j ∈ T.ids, ∀ b, a.kb = some b → (A j).kb ≠ some b) (hkm : a.kb ≠ some mb) (hnd : n.dir = true → ∃ b, a.kb = some b) (hlo : base ≤ a.blk ∧ ∀ b, a.kb = some b → base ≤ b) :
 Calls Tryz.prog 166 #[.pointer (some ⟨tb, 0, none⟩), .pointer (some ⟨(A d).blk, 0, none⟩), .string (bs x), .pointer (some ⟨a.blk, 0, none⟩)] w (MakeR base tb mb N T A n a d x w) := by
 obtain ⟨R, hR⟩ : ∃ R, R = MakeR base tb mb N T A n a d x w := ⟨_, rfl⟩
 rw [← hR]
 have HR := Lib.hid hR; clear hR
 have h1 := hg.low 1 hg.root
 have hkey := key_int (i := T.next) (by omega) (by omega)
 have hkx := key_by hx
 have HT := Lib.hid hT
 have HG := Lib.hid hg; clear hg
 have HN := Lib.hid hn; clear hn
 have HB := Lib.hid hb; clear hb
 have HKK := Lib.hid hk; clear hk
 have HKM := Lib.hid hkm; clear hkm
 have HND := Lib.hid hnd; clear hnd
 have HLO := Lib.hid hlo; clear hlo
 have hcs : ∀ W, Ext w W → (W.cell? ⟨tb, 0, none⟩ = some (.map (some mb)) ∧ W.cell? ⟨tb, 1, none⟩ = some (.int .i64 T.next)) := fun W k => ⟨blk_cell (HT.out.ext k).top 0 _ rfl, blk_cell (HT.out.ext k).top 1 _ rfl⟩
 have HCS := Lib.hid hcs; clear hcs
 clear hT
 go_enter Tryz.func166, Tryz.ntmps166
 go_upto_region 0 with fail
 have HK := Lib.hid ((Ext.refl w).drew)
 refine wp_region_noPanic ?_
 refine wp_region_held_drew (S := (fun W => W.cell? ⟨tb, 0, none⟩ = some (.map (some mb)) ∧ W.cell? ⟨tb, 1, none⟩ = some (.int .i64 T.next))) (by kernel_rfl) (HCS.out _ HK.out) (fun hHeld => ?_)
 clear hHeld
 generalize w.drew = wc at HK ⊢
 refine wpAnyH_take (i := 0) (v := ?_) rfl (by kernel_rfl) (by kernel_rfl) (by kernel_rfl) (fun _ _ _ h => h) (Or.inl ⟨by kernel_rfl, ?_⟩) (HCS.out _ HK.out) ?_
 rotate_left
 · (intro wq _; first | (go_simp; done) | (go_simp; with_reducible rfl))
 try simp only [List.getElem_toArray, List.getElem_cons_zero, Act.put, List.setIfInBounds_toArray, List.set_cons_zero, List.set_cons_succ]
 refine wpAnyH_take (i := 1) (v := ?_) rfl (by kernel_rfl) (by kernel_rfl) (by kernel_rfl) (fun _ _ _ h => h) (Or.inl ⟨by kernel_rfl, ?_⟩) (HCS.out _ HK.out) ?_
 rotate_left
 · (intro wq _; first | (go_simp; done) | (go_simp; with_reducible rfl))
 try simp only [List.getElem_toArray, List.getElem_cons_zero, List.getElem_cons_succ, Act.put, List.setIfInBounds_toArray, List.set_cons_zero, List.set_cons_succ]
 refine wpAnyH_take (i := 2) (v := ?_) rfl (by kernel_rfl) (by kernel_rfl) (by kernel_rfl) (fun _ _ _ h => h) (Or.inl ⟨by kernel_rfl, ?_⟩) (HCS.out _ HK.out) ?_
 rotate_left
 · (intro wq _; first | (go_simp; done) | (go_simp; with_reducible rfl))
 try simp only [List.getElem_toArray, List.getElem_cons_zero, List.getElem_cons_succ, Act.put, List.setIfInBounds_toArray, List.set_cons_zero, List.set_cons_succ]
 refine wpAnyH_take (i := 3) (v := ?_) rfl (by kernel_rfl) (by kernel_rfl) (by kernel_rfl) (fun _ _ _ h => h) (Or.inl ⟨by kernel_rfl, ?_⟩) (HCS.out _ HK.out) ?_
 rotate_left
 · (intro wq hSw; (try dsimp only at hSw); first | (go_simp; done) | (go_simp; with_reducible rfl))
 try simp only [List.getElem_toArray, List.getElem_cons_zero, List.getElem_cons_succ, Act.put, List.setIfInBounds_toArray, List.set_cons_zero, List.set_cons_succ]
 refine wpAnyH_take (i := 4) (v := ?_) rfl (by kernel_rfl) (by kernel_rfl) (by kernel_rfl) (fun _ _ _ h => h) (Or.inl ⟨by kernel_rfl, ?_⟩) (HCS.out _ HK.out) ?_
 rotate_left
 · (intro wq _; first | (go_simp; done) | (go_simp; with_reducible rfl))
 try simp only [List.getElem_toArray, List.getElem_cons_zero, List.getElem_cons_succ, Act.put, List.setIfInBounds_toArray, List.set_cons_zero, List.set_cons_succ]
 refine wpAnyH_take (i := 5) (v := ?_) rfl (by kernel_rfl) (by kernel_rfl) (by kernel_rfl) (fun _ _ _ h => h) (Or.inl ⟨by kernel_rfl, ?_⟩) (HCS.out _ HK.out) ?_
 rotate_left
 · (intro wq _; first | (go_simp; done) | (go_simp; with_reducible rfl))
 try simp only [List.getElem_toArray, List.getElem_cons_zero, List.getElem_cons_succ, Act.put, List.setIfInBounds_toArray, List.set_cons_zero, List.set_cons_succ]
 refine wpAnyH_take (i := 6) (v := ?_) rfl (by kernel_rfl) (by kernel_rfl) (by kernel_rfl) (fun _ _ _ h => h) (Or.inl ⟨by kernel_rfl, ?_⟩) (HCS.out _ HK.out) ?_
 rotate_left
 · (intro wq _; first | (go_simp; done) | (go_simp; with_reducible rfl))
 try simp only [List.getElem_toArray, List.getElem_cons_zero, List.getElem_cons_succ, Act.put, List.setIfInBounds_toArray, List.set_cons_zero, List.set_cons_succ]
 refine wpAnyH_take (i := 7) (v := ?_) rfl (by kernel_rfl) (by kernel_rfl) (by kernel_rfl) (fun _ _ _ h => h) (Or.inl ⟨by kernel_rfl, ?_⟩) (HCS.out _ HK.out) ?_
 rotate_left
 · (intro wq hSw; (try dsimp only at hSw); first | (go_simp; done) | (go_simp; with_reducible rfl))
 try simp only [List.getElem_toArray, List.getElem_cons_zero, List.getElem_cons_succ, Act.put, List.setIfInBounds_toArray, List.set_cons_zero, List.set_cons_succ]
 refine wpAnyH_take (i := 8) (v := ?_) rfl (by kernel_rfl) (by kernel_rfl) (by kernel_rfl) (fun _ _ _ h => h) (Or.inl ⟨by kernel_rfl, ?_⟩) (HCS.out _ HK.out) ?_
 rotate_left
 · (intro wq _; first | (go_simp; done) | (go_simp; with_reducible rfl))
 try simp only [List.getElem_toArray, List.getElem_cons_zero, List.getElem_cons_succ, Act.put, List.setIfInBounds_toArray, List.set_cons_zero, List.set_cons_succ]
 all_goals (
  refine wpAnyH_ready (rs := [9]) (by kernel_rfl) (by simp) ?_
  refine AllReadyH.cons rfl (fun K hK => ?_) AllReadyH.nil
  have hTc := HT.out.ext HK.out
  obtain ⟨w1, hrun, hm1, hk1⟩ := hTc.map.store (t := 201) int_keyedA Tryz.underlying201 (by unfold maxLen; omega) keyI_inj (.pointer (some ⟨a.blk, 0, none⟩)) hkey
  have hT1 := hTc.put T.next hk1 (HN.out.ext HK.out) HB.out HKK.out HKM.out HND.out HLO.out (Nat.le_succ N) hm1 (I := T.ids ++ [T.next]) (fun j => by rw [List.mem_append, List.mem_singleton]; exact Or.comm)
  have hkw : Keep (· < base) w w1 := (Keep.of_ext HK.out).andThen hk1 (fun j _ (hj : j < base) => by have := hTc.low.2.1; show j ≠ mb; omega)
  go_simp
  refine hK.out _ _ ⟨blk_cell hT1.top 0 _ rfl, blk_cell hT1.top 1 _ rfl⟩ (fun _ => ?_)
  clear hK K hrun hm1 hk1 hTc HK
  try simp only [List.getElem_toArray, List.getElem_cons_zero, List.getElem_cons_succ, Act.put, List.setIfInBounds_toArray, List.set_cons_zero, List.set_cons_succ])
 all_goals (
  refine wpAnyH_done (by kernel_rfl) ?_ _
  refine NoPanic.normal ?_
  have HT1 := Lib.hid hT1; clear hT1
  have HKW := Lib.hid hkw; clear hkw
  clear HT HCS HN HB HKK HKM HND HLO hkey)
 have hdn : d ≠ T.next := fun e => by have := (HG.out.low d hd).2; omega
 have hAd : (if d = T.next then a else A d) = A d := if_neg hdn
 have hNd : (if d = T.next then n else T.node d) = T.node d := if_neg hdn
 obtain ⟨kb, hkb⟩ := HT1.out.kbd d (List.mem_append_left _ hd) (by show (if d = T.next then n else T.node d).dir = true; rw [hNd]; exact hdd)
 simp only [hAd] at hkb
 have HKB := Lib.hid hkb; clear hkb
 have hcs : ∀ W, Ext w1 W → (W.cell? ⟨(A d).blk, 3, none⟩ = some (.map (some kb)) ∧ W.cell? ⟨tb, 1, none⟩ = some (.int .i64 T.next)) := fun W k => by
  have hq := HT1.out.ext k
  have hq1 := (hq.node d (List.mem_append_left _ hd)).1
  simp only [hAd, hNd] at hq1
  refine ⟨blk_cell hq1 3 _ ?_, blk_cell hq.top 1 _ rfl⟩
  show some (Value.map (A d).kb) = _
  rw [HKB.out]
 have HCS := Lib.hid hcs; clear hcs
 go_upto_region 1 with fail
 have HK := Lib.hid ((Ext.refl w1).drew)
 refine wp_region_noPanic ?_
 refine wp_region_held_drew (S := (fun W => W.cell? ⟨(A d).blk, 3, none⟩ = some (.map (some kb)) ∧ W.cell? ⟨tb, 1, none⟩ = some (.int .i64 T.next))) (by kernel_rfl) (HCS.out _ HK.out) (fun hHeld => ?_)
 clear hHeld
 generalize w1.drew = wc at HK ⊢
 refine wpAnyH_take (i := 0) (v := ?_) rfl (by kernel_rfl) (by kernel_rfl) (by kernel_rfl) (fun _ _ _ h => h) (Or.inl ⟨by kernel_rfl, ?_⟩) (HCS.out _ HK.out) ?_
 rotate_left
 · (intro wq _; first | (go_simp; done) | (go_simp; with_reducible rfl))
 try simp only [List.getElem_toArray, List.getElem_cons_zero, Act.put, List.setIfInBounds_toArray, List.set_cons_zero, List.set_cons_succ]
 refine wpAnyH_take (i := 1) (v := ?_) rfl (by kernel_rfl) (by kernel_rfl) (by kernel_rfl) (fun _ _ _ h => h) (Or.inl ⟨by kernel_rfl, ?_⟩) (HCS.out _ HK.out) ?_
 rotate_left
 · (intro wq _; first | (go_simp; done) | (go_simp; with_reducible rfl))
 try simp only [List.getElem_toArray, List.getElem_cons_zero, List.getElem_cons_succ, Act.put, List.setIfInBounds_toArray, List.set_cons_zero, List.set_cons_succ]
 refine wpAnyH_take (i := 2) (v := ?_) rfl (by kernel_rfl) (by kernel_rfl) (by kernel_rfl) (fun _ _ _ h => h) (Or.inl ⟨by kernel_rfl, ?_⟩) (HCS.out _ HK.out) ?_
 rotate_left
 · (intro wq _; first | (go_simp; done) | (go_simp; with_reducible rfl))
 try simp only [List.getElem_toArray, List.getElem_cons_zero, List.getElem_cons_succ, Act.put, List.setIfInBounds_toArray, List.set_cons_zero, List.set_cons_succ]
 refine wpAnyH_take (i := 3) (v := ?_) rfl (by kernel_rfl) (by kernel_rfl) (by kernel_rfl) (fun _ _ _ h => h) (Or.inl ⟨by kernel_rfl, ?_⟩) (HCS.out _ HK.out) ?_
 rotate_left
 · (intro wq hSw; (try dsimp only at hSw); first | (go_simp; done) | (go_simp; with_reducible rfl))
 try simp only [List.getElem_toArray, List.getElem_cons_zero, List.getElem_cons_succ, Act.put, List.setIfInBounds_toArray, List.set_cons_zero, List.set_cons_succ]
 refine wpAnyH_take (i := 4) (v := ?_) rfl (by kernel_rfl) (by kernel_rfl) (by kernel_rfl) (fun _ _ _ h => h) (Or.inl ⟨by kernel_rfl, ?_⟩) (HCS.out _ HK.out) ?_
 rotate_left
 · (intro wq _; first | (go_simp; done) | (go_simp; with_reducible rfl))
 try simp only [List.getElem_toArray, List.getElem_cons_zero, List.getElem_cons_succ, Act.put, List.setIfInBounds_toArray, List.set_cons_zero, List.set_cons_succ]
 refine wpAnyH_take (i := 5) (v := ?_) rfl (by kernel_rfl) (by kernel_rfl) (by kernel_rfl) (fun _ _ _ h => h) (Or.inl ⟨by kernel_rfl, ?_⟩) (HCS.out _ HK.out) ?_
 rotate_left
 · (intro wq _; first | (go_simp; done) | (go_simp; with_reducible rfl))
 try simp only [List.getElem_toArray, List.getElem_cons_zero, List.getElem_cons_succ, Act.put, List.setIfInBounds_toArray, List.set_cons_zero, List.set_cons_succ]
 refine wpAnyH_take (i := 6) (v := ?_) rfl (by kernel_rfl) (by kernel_rfl) (by kernel_rfl) (fun _ _ _ h => h) (Or.inl ⟨by kernel_rfl, ?_⟩) (HCS.out _ HK.out) ?_
 rotate_left
 · (intro wq _; first | (go_simp; done) | (go_simp; with_reducible rfl))
 try simp only [List.getElem_toArray, List.getElem_cons_zero, List.getElem_cons_succ, Act.put, List.setIfInBounds_toArray, List.set_cons_zero, List.set_cons_succ]
 refine wpAnyH_take (i := 7) (v := ?_) rfl (by kernel_rfl) (by kernel_rfl) (by kernel_rfl) (fun _ _ _ h => h) (Or.inl ⟨by kernel_rfl, ?_⟩) (HCS.out _ HK.out) ?_
 rotate_left
 · (intro wq _; first | (go_simp; done) | (go_simp; with_reducible rfl))
 try simp only [List.getElem_toArray, List.getElem_cons_zero, List.getElem_cons_succ, Act.put, List.setIfInBounds_toArray, List.set_cons_zero, List.set_cons_succ]
 refine wpAnyH_take (i := 8) (v := ?_) rfl (by kernel_rfl) (by kernel_rfl) (by kernel_rfl) (fun _ _ _ h => h) (Or.inl ⟨by kernel_rfl, ?_⟩) (HCS.out _ HK.out) ?_
 rotate_left
 · (intro wq hSw; (try dsimp only at hSw); first | (go_simp; done) | (go_simp; with_reducible rfl))
 try simp only [List.getElem_toArray, List.getElem_cons_zero, List.getElem_cons_succ, Act.put, List.setIfInBounds_toArray, List.set_cons_zero, List.set_cons_succ]
 all_goals (
  refine wpAnyH_ready (rs := [9]) (by kernel_rfl) (by simp) ?_
  refine AllReadyH.cons rfl (fun K hK => ?_) AllReadyH.nil
  have hTc := HT1.out.ext HK.out
  have hdm : d ∈ T.ids ++ [T.next] := List.mem_append_left _ hd
  have hkm := (hTc.node d hdm).2.2.2
  simp only [hAd, hNd] at hkm
  have hmk : MapF keyS wc 9 kb (N + 1) (kidsF (T.node d).kids) := by
   rcases hkm with ⟨e, _⟩ | ⟨b, e, hm⟩
   · rw [HKB.out] at e; cases e
   · rw [HKB.out] at e; cases e; exact hm
  obtain ⟨w2, hrun, hm2, hk2⟩ := hmk.store (t := 65) str_keyed Tryz.underlying65 (by unfold maxLen; omega) keyS_inj (.int .i64 T.next) hkx
  rw [kidsF_with] at hm2
  have hT2 := (hTc.mono (Nat.le_succ (N + 1))).set_kids hdm (by simp only [hAd]; exact HKB.out) hk2 (Nat.le_refl _) hm2
  have hkw : Keep (· < base) w w2 := (HKW.out.trans (Keep.of_ext HK.out)).andThen hk2 (fun j _ (hj : j < base) => by have := (hTc.low.2.2 d hdm).2 kb (by simp only [hAd]; exact HKB.out); show j ≠ kb; omega)
  go_simp
  refine hK.out _ _ ⟨?_, blk_cell hT2.top 1 _ rfl⟩ (fun _ => ?_)
  · have hq1 := (hT2.node d hdm).1
    simp only [hAd] at hq1
    refine blk_cell hq1 3 _ ?_
    show some (Value.map (A d).kb) = _
    rw [HKB.out]
  clear hK K hrun hm2 hk2 hTc HK hmk hkm
  try simp only [List.getElem_toArray, List.getElem_cons_zero, List.getElem_cons_succ, Act.put, List.setIfInBounds_toArray, List.set_cons_zero, List.set_cons_succ])
 all_goals (
  refine wpAnyH_done (by kernel_rfl) ?_ _
  refine NoPanic.normal ?_
  have HT2 := Lib.hid hT2; clear hT2
  have HKW2 := Lib.hid hkw; clear hkw HKW HT1)
 have hT2 := HT2.out
 have c1 := blk_cell hT2.top 1 (Value.int .i64 T.next) rfl
 have f1 := blk_free hT2.top 1
 have HFT := Lib.hid (And.intro (HT2.out.set_next (T.next + 1)) HKW2.out)
 clear hT2 HT2 HKW2
 go_wp2_with fail
 go_end0
 rw [HR.out]
 obtain ⟨hT3, hk3⟩ := HFT.out
 refine ⟨rfl, ?_, hk3.setCell (fun j (hj : j < base) => by have := hT3.low.1; omega) 1 _⟩
 simp only [setT, hNd] at hT3
 unfold bindT setT addT
 simp only [hNd]
 exact hT3
end
end Go.Proofs.YtefpllpichhojaaGreatDoor
