/- vol's again: the operations of a record are done. -/
import Derived.Test.YtlpjmkkinlcbnaaGreatDoorVolDo
import Derived.Test.YtlpjmkkinlcbnaaGreatDoorLogPut
import Derived.Test.YtlpjmkkinlcbnaaGreatDoorM4
import Derived.Test.YtlpjmkkinlcbnaaGreatDoorVolTrees
namespace Go.Proofs.YtlpjmkkinlcbnaaGreatDoor
open Go.RowKit
variable [Low]
theorem RowsM.keepC {ts : List TypeId} {X : Nat → Prop} {w w' : World} {base : Nat} {a : Option Addr} {c : Nat} {D : List (List UInt8)} (h : RowsM w base a c D) (k : KeepX ts X w w') (h1 : 5 ∉ ts) (h2 : 22 ∉ ts) : RowsM w' base a c D :=
  h.keep k (fun _ cs fr hg => Or.inr (Or.inr ⟨cs, _, fr, hg, h1⟩)) (fun _ cs fr hg => Or.inr (Or.inr ⟨cs, _, fr, hg, h2⟩))
noncomputable def againT (T : TreeD) (l : List OpD) : TreeD := reapsT (doT T l).1 (looseT (doT T l).1)
section
variable {X : Nat → Prop} {w w' : World} {vb db kb n N : Nat} {V : VolD}
theorem LogC.keepCN {ts : List TypeId} {lb db kb n : Nat} {img : Img} {C : List (Nat × List UInt8)} {L : LogD} (h : LogC w lb db kb n img C L) (k : KeepX ts X w w') (h1 : ∀ t ∈ logT, t ∉ ts) (h2 : 5 ∉ ts) : LogC w' lb db kb n img C L := by
  obtain ⟨⟨la, lc, ht, hr⟩, hd, hl⟩ := h
  exact ⟨⟨la, lc, k.heap ht (h1 _ (by decide)), hr.keepC k h2 (h1 _ (by decide))⟩, hd.keep k fun g cs t fr hg ht => Or.inr (Or.inr ⟨cs, t, fr, hg, h1 t (disk_log t ht)⟩), hl⟩
omit [Low] in
theorem runs_ints {base c : Nat} {a : Option Addr} {X : List Int} (h : OwnIs w base a c X) : RunM w a (intV X) := by
  rcases h.2 with ⟨h1, h2⟩ | ⟨g, c', cur, h1, hbg, hg, hn, hmx, hs, ht⟩
  · have h0 : X = [] := List.eq_nil_of_length_eq_zero h2
    subst h0; exact Or.inl rfl
  · obtain ⟨rfl, rfl⟩ : a = some ⟨g, 0, none⟩ ∧ c = c' := by cases h1; exact ⟨rfl, rfl⟩
    refine Or.inr ⟨g, 0, rfl, (Array.getElem?_eq_some_iff.1 hg).1, fun j u hj => ?_⟩
    rw [Nat.mul_one] at ht
    rw [cell_of_row _ _ _ _ _ _ hg, Nat.zero_add]
    have hjl := (List.getElem?_eq_some_iff.1 hj).1
    rw [show (intV X).length = X.length by simp [intV]] at hjl
    rw [← Array.getElem?_toList, ← hj, ← ht, List.getElem?_take_of_lt hjl]
/-- Behind a record's operations. -/
theorem VolB.again {tb lb hb mb : Nat} {A : Int → NodeA} {w1 w2 wc wn : World} {M mb' : Nat} {A' : Int → NodeA} {T1 : TreeD} {D : List Int} (h : VolB X w vb db kb n N tb lb hb mb A V) (hx1 : Ext w w1) (hk2 : Keep (· ≠ tb) w1 w2) (hx : Ext w2 wc) (hkn : Keep (· ≠ mb') wc wn)
    (hM : N ≤ M) (h2 : TreeM w2 Low.low tb mb' M T1 A') (hn : TreeM wn Low.low tb mb' M (reapsT T1 D) A') (hfr : FreshT mb A V.T w1.heap.size T1 mb' A') (hg : GoodT (reapsT T1 D)) (hf : FitT T1 M) :
    VolM X wn vb db kb n M { V with T := reapsT T1 D } ∧ KeepX [72] X w wn := by
  obtain ⟨es, cl, hmm⟩ := h2.map.block
  have hmw := hx.heap hmm
  have hxm : ¬ X mb' := fun e => by
    have h5 := h.out.2.2 _ e
    rcases hfr with ⟨rfl, _, _⟩ | ⟨h3, _⟩
    · exact h.out.2.1 e
    · have := hx1.size; omega
  have hk : KeepX [72] X w wn := (KeepX.of_ext hx1).trans ((KeepX.of_cells hk2 (hx1.heap h.tree.top) (by decide) h.tree.low.1).trans ((KeepX.of_ext hx).trans (KeepX.of_map hkn h2.low.2.1 hxm hmw)))
  obtain ⟨es2, cl2, hmh⟩ := h.held.block
  have hh1 := hx1.heap hmh
  have hhl := (Array.getElem?_eq_some_iff.1 hh1).1
  have hne : hb ≠ mb' ∧ ∀ i ∈ T1.ids, (A' i).kb ≠ some hb := by
    rcases hfr with ⟨rfl, rfl, rfl⟩ | ⟨h3, h4⟩
    · exact h.ne
    · exact ⟨by omega, fun i hi e => by have := h4 i hi hb e; omega⟩
  have hbt : hb ≠ tb := fun e => by rw [e, h.tree.top] at hmh; cases hmh
  have hheld : MapF keyI wn 3 hb M (heldV V.hd) := ((((h.held.ext hx1).keep hk2 hbt).ext hx).keep hkn hne.1).mono hM
  exact ⟨⟨tb, lb, hb, mb', A', hk.heap h.top (by decide), hn, h.log.keepCN hk (by decide) (by decide), hheld, ⟨hne.1, fun i hi => hne.2 i (reapsT_idsV _ hi)⟩, hg, reapsT_fitV _ hf, h.glog, ⟨h.out.1, hxm, fun g hg => Nat.lt_of_lt_of_le (h.out.2.2 g hg) hk.size⟩, h.lows⟩, hk⟩
set_option maxRecDepth 100000 in
set_option maxHeartbeats 12800000 in
theorem vol_again (hE : Env w) (h : VolM X w vb db kb n N V) {a : Option Addr} {c : Nat} {ops : List OpD} (hb : DataM w a (doneB ops)) (hbc : (doneB ops).length ≤ c) (hfo : ∀ o ∈ ops, FitOp o) (hok : (doT V.T ops).2 = 0) (hpk : (packOps ops).length ≤ 4095) (hN : N + 2 * ops.length ≤ 1000000000) (hg : GoodT (againT V.T ops)) :
    Calls Tryz.prog 21 #[.pointer (some ⟨vb, 0, none⟩), .slice a (doneB ops).length c] w fun e w' => e = .returned (.int .i64 0) ∧ VolM X w' vb db kb n (N + 2 * ops.length) { V with T := againT V.T ops } ∧ KeepX [72] X w w' := by
  obtain ⟨R, hR⟩ : ∃ R : Ending → World → Prop, R = fun e w' => e = .returned (.int .i64 0) ∧ VolM X w' vb db kb n (N + 2 * ops.length) { V with T := againT V.T ops } ∧ KeepX [72] X w w' := ⟨_, rfl⟩
  rw [← hR]
  have HR := Lib.hid hR; clear hR
  obtain ⟨tb, lb, hb', mb, A, h⟩ := h
  have HV := Lib.hid h
  have c0 := blk_cell h.top 0 (.pointer (some ⟨tb, 0, none⟩)) rfl
  have HT := Lib.hid h.tree; have HG := Lib.hid h.good; have HF := Lib.hid h.fit
  have HTOP := Lib.hid h.top
  have hnt : vb ≠ tb := fun e => by
    have h1 := h.top
    rw [e, h.tree.top] at h1
    injection (Option.some.inj h1) with _ h2
    exact absurd h2 (by decide)
  have HNT := Lib.hid hnt; clear hnt
  have HG2 := Lib.hid (doT_good h.good ops)
  have HF2 : Hid (FitT (doT V.T ops).1 (N + 2 * ops.length)) := Lib.hid ((doT_fit h.fit ops).mono (by omega))
  have HL2 : Hid ((looseT (doT V.T ops).1).length ≤ 1099511627776) := Lib.hid (Nat.le_trans (looseT_len _) (Nat.le_trans HF2.out.count (by omega)))
  have HB2 : Hid (∀ x ∈ looseT (doT V.T ops).1, -9223372036854775808 ≤ x ∧ x ≤ 9223372036854775807) := Lib.hid fun x hx => by
    have h1 := HG2.out.low x (mem_looseT hx)
    have h2 := HF2.out.next
    omega
  have HE := Lib.hid hE; have HOK := Lib.hid hok; have HGG := Lib.hid hg
  have hlen : (doneB ops).length = (packOps ops).length + 1 := rfl
  have hcut := data_cut (tk := 1) (cc := c) hb (by omega) hbc
  rw [show (doneB ops).drop 1 = packOps ops from rfl] at hcut
  have hback := unpack_back hfo
  have hup : ∀ ad cap W, DataM W ad (packOps ops) → Calls Tryz.prog 48 #[.slice ad (packOps ops).length cap] W fun e w' => ∃ xa xc X, e = .returned (.tuple #[.slice xa X.length xc, .int .i64 0]) ∧ X.map Prod.fst = ops ∧ OpsL w' xa X ∧ Ext W w' := fun ad cap W hd => by
    refine (tree_Unpack ad cap (packOps ops) W hd.bytes (by omega)).mono ?_
    rintro e w' ⟨hu, hx⟩
    rw [hback] at hu
    obtain ⟨xa, xc, X, h1, h2, h3⟩ := (if_pos (rfl : rDone (([] : By), false) = true)).mp hu
    exact ⟨xa, xc, X, h1, h2, h3, hx⟩
  obtain ⟨g, off, cs, fr, ha, hgb, hcb⟩ := hb.resolve_left (by unfold doneB; simp)
  subst ha
  have cb := hcb 0 (.int .u8 2) rfl
  rw [Nat.add_zero] at cb
  have hdo : ∀ W (X : List (OpD × OpA)) xa xc, Ext w W → X.map Prod.fst = ops → OpsL W xa X → Calls Tryz.prog 23 #[.pointer (some ⟨tb, 0, none⟩), .slice xa X.length xc] W fun e w' => e = .returned (.int .i64 0) ∧ (∃ mb' A', TreeM w' Low.low tb mb' (N + 2 * ops.length) (doT V.T ops).1 A' ∧ FreshT mb A V.T W.heap.size (doT V.T ops).1 mb' A') ∧ Keep (· ≠ tb) W w' := fun W X xa xc k hX hL => by
    subst hX
    rw [List.length_map] at hN ⊢
    refine (tree_DoF xa xc X W (hE.ext k) (h.tree.ext k) h.good h.fit (Nat.le_refl _) hN hL).mono ?_
    rintro e w' ⟨he, h2⟩
    rw [hok] at he
    exact ⟨he, h2⟩
  have hc1 : c = 1 → DataM w (some ⟨g, off, none⟩) (packOps ops) := fun e => by rw [if_pos e] at hcut; exact hcut
  have hc2 : ¬ c = 1 → DataM w (some ⟨g, off + 1, none⟩) (packOps ops) := fun e => by rw [if_neg e, Option.map_some, addr_plus] at hcut; exact hcut
  have HUP := Lib.hid hup; have HC1 := Lib.hid hc1; have HC2 := Lib.hid hc2; have HDO := Lib.hid hdo
  obtain ⟨bt, hbt⟩ : ∃ t, t = (packOps ops).length := ⟨_, rfl⟩
  rw [← hbt] at hlen hpk HUP
  rw [hlen] at hbc ⊢
  have HBT := Lib.hid hbt
  clear h hE hok hg hup hback hcut hgb hcb hb hbt hlen hdo hc1 hc2
  go_enter Tryz.func21, Tryz.ntmps21
  go_upto_region 6 with (first
    | (go_at_call 48; refine (HUP.out _ _ _ (by first | exact HC1.out ‹_› | exact HC2.out ‹_›)).mono ?_; rintro e w1 ⟨xa, xc, X, rfl, hXm, hXL, hx1⟩; have c0 := hx1.cell c0; have HXM := Lib.hid hXm; have HXL := Lib.hid hXL; have HX1 := Lib.hid hx1; clear hXm hXL hx1)
    | (go_at_call 23; refine (HDO.out _ _ _ _ HX1.out HXM.out HXL.out).mono ?_; rintro e w2 ⟨rfl, ⟨mb', A', hT2, hfr⟩, hk2⟩; have HT2 := Lib.hid hT2; have HFR := Lib.hid hfr; have HK2 := Lib.hid hk2; clear hT2 hfr hk2))
  all_goals (
   have hcs : ∀ W, Ext w2 W → W.cell? ⟨vb, 0, none⟩ = some (.pointer (some ⟨tb, 0, none⟩)) := fun W k => k.cell (HK2.out.cell HNT.out c0)
   have HCS := Lib.hid hcs; clear hcs
   have HK := Lib.hid ((Ext.refl w2).drew)
   refine wp_region_noPanic ?_
   refine wp_region_held_drew (S := (fun W => W.cell? ⟨vb, 0, none⟩ = some (.pointer (some ⟨tb, 0, none⟩)))) (by kernel_rfl) (HCS.out _ HK.out) (fun hHeld => ?_)
   clear hHeld
   generalize w2.drew = wc at HK ⊢
   refine wpAnyH_take (i := 0) (v := ?_) rfl (by kernel_rfl) (by kernel_rfl) (by kernel_rfl) (fun _ _ _ h => h) (Or.inl ⟨by kernel_rfl, ?_⟩) (HCS.out _ HK.out) ?_
   rotate_left
   · (intro wq _; first | (go_simp; done) | (go_simp; with_reducible rfl))
   try simp only [List.getElem_toArray, List.getElem_cons_zero, Act.put, List.setIfInBounds_toArray, List.set_cons_zero, List.set_cons_succ]
   refine wpAnyH_take (i := 1) (v := ?_) rfl (by kernel_rfl) (by kernel_rfl) (by kernel_rfl) (fun _ _ _ h => h) (Or.inl ⟨by kernel_rfl, ?_⟩) (HCS.out _ HK.out) ?_
   rotate_left
   · (intro wq _; first | (go_simp; done) | (go_simp; with_reducible rfl))
   try simp only [List.getElem_toArray, List.getElem_cons_zero, List.getElem_cons_succ, Act.put, List.setIfInBounds_toArray, List.set_cons_zero, List.set_cons_succ]
   refine wpAnyH_take (i := 2) (v := ?_) rfl (by kernel_rfl) (by kernel_rfl) (by kernel_rfl) (fun _ _ _ h => h) (Or.inl ⟨by kernel_rfl, ?_⟩) (HCS.out _ HK.out) ?_
   rotate_left
   · (intro wq _; first | (go_simp; done) | (go_simp; with_reducible rfl))
   try simp only [List.getElem_toArray, List.getElem_cons_zero, List.getElem_cons_succ, Act.put, List.setIfInBounds_toArray, List.set_cons_zero, List.set_cons_succ]
   refine wpAnyH_take (i := 3) (v := ?_) rfl (by kernel_rfl) (by kernel_rfl) (by kernel_rfl) (fun _ _ _ h => h) (Or.inl ⟨by kernel_rfl, ?_⟩) (HCS.out _ HK.out) ?_
   rotate_left
   · (intro wq hSw; (try dsimp only at hSw); first | (go_simp; done) | (go_simp; with_reducible rfl))
   try simp only [List.getElem_toArray, List.getElem_cons_zero, List.getElem_cons_succ, Act.put, List.setIfInBounds_toArray, List.set_cons_zero, List.set_cons_succ]
   refine wpAnyH_take (i := 4) (v := ?_) rfl (by kernel_rfl) (by kernel_rfl) (by kernel_rfl) (fun _ _ _ h => h) (Or.inl ⟨by kernel_rfl, ?_⟩) (HCS.out _ HK.out) ?_
   rotate_left
   · (intro wq _; first | (go_simp; done) | (go_simp; with_reducible rfl))
   try simp only [List.getElem_toArray, List.getElem_cons_zero, List.getElem_cons_succ, Act.put, List.setIfInBounds_toArray, List.set_cons_zero, List.set_cons_succ]
   refine wpAnyH_take (i := 5) (v := ?_) rfl (by kernel_rfl) (by kernel_rfl) (by kernel_rfl) (fun _ _ _ h => h) (Or.inl ⟨by kernel_rfl, ?_⟩) (HCS.out _ HK.out) ?_
   rotate_left
   · (intro wq _; first | (go_simp; done) | (go_simp; with_reducible rfl))
   try simp only [List.getElem_toArray, List.getElem_cons_zero, List.getElem_cons_succ, Act.put, List.setIfInBounds_toArray, List.set_cons_zero, List.set_cons_succ]
   refine wpAnyH_take (i := 6) (v := ?_) rfl (by kernel_rfl) (by kernel_rfl) (by kernel_rfl) (fun _ _ _ h => h) (Or.inl ⟨by kernel_rfl, ?_⟩) (HCS.out _ HK.out) ?_
   rotate_left
   · (intro wq _; first | (go_simp; done) | (go_simp; with_reducible rfl))
   try simp only [List.getElem_toArray, List.getElem_cons_zero, List.getElem_cons_succ, Act.put, List.setIfInBounds_toArray, List.set_cons_zero, List.set_cons_succ]
   refine wpAnyH_take (i := 7) (v := ?_) rfl (by kernel_rfl) (by kernel_rfl) (by kernel_rfl) (fun _ _ _ h => h) (Or.inl ⟨by kernel_rfl, ?_⟩) (HCS.out _ HK.out) ?_
   rotate_left
   · (intro wq hSw; (try dsimp only at hSw); first | (go_simp; done) | (go_simp; with_reducible rfl))
   try simp only [List.getElem_toArray, List.getElem_cons_zero, List.getElem_cons_succ, Act.put, List.setIfInBounds_toArray, List.set_cons_zero, List.set_cons_succ]
   all_goals (
     first
       | refine wpAnyH_ready (rs := [8]) (by decide +kernel) (by simp) ?_
     repeat' (first | exact AllReadyH.nil | (refine AllReadyH.cons rfl (fun K hK => ?_) ?_)))
   all_goals (
     first
       | (go_simp
          first
            | (go_at_call 12
               refine (tree_Loose wc (HT2.out.ext HK.out) HG2.out HF2.out hN).mono ?_
               rintro E wn ⟨a8, c8, rfl, hO8, hx⟩
               have HO8 := Lib.hid (runs_ints hO8)
               replace HK := Lib.hid (HK.out.trans hx)
               clear hx hO8
               go_wp2_with fail
               refine hK.out _ _ (HCS.out _ HK.out) (fun _ => ?_)
               clear hK K
               obtain ⟨wc, rfl⟩ : ∃ x : World, x = wn := ⟨_, rfl⟩
               try simp only [List.getElem_toArray, List.getElem_cons_zero, List.getElem_cons_succ, Act.put, List.setIfInBounds_toArray, List.set_cons_zero, List.set_cons_succ])))
   all_goals (
     first
       | refine wpAnyH_ready (rs := [9]) (by decide +kernel) (by simp) ?_
     repeat' (first | exact AllReadyH.nil | (refine AllReadyH.cons rfl (fun K hK => ?_) ?_)))
   all_goals (
     first
       | (go_simp
          first
            | (go_at_call 49
               refine (tree_Reap _ a8 c8 wc (HT2.out.ext HK.out) HO8.out HB2.out HL2.out).mono ?_
               rintro E wn ⟨rfl, hTn, hkn⟩
               have HTN := Lib.hid hTn
               have HKN := Lib.hid hkn
               have HK8 := HK
               have hnm : vb ≠ mb' := fun e => by (obtain ⟨es, cl, hm⟩ := (HT2.out.ext HK.out).map.block; have h1 := blk_of_cell (HCS.out _ HK.out); rw [e, hm] at h1; obtain ⟨_, _, _, h1⟩ := h1; cases h1)
               have hs9 := hkn.cell hnm (HCS.out _ HK.out)
               clear hTn hkn
               go_wp2_with fail
               refine hK.out _ _ hs9 (fun _ => ?_)
               clear hK K hs9 hnm
               try simp only [List.getElem_toArray, List.getElem_cons_zero, List.getElem_cons_succ, Act.put, List.setIfInBounds_toArray, List.set_cons_zero, List.set_cons_succ])))
   all_goals (
     refine wpAnyH_done (by kernel_rfl) ?_ _
     refine NoPanic.normal ?_
     have hfin := HV.out.again (D := looseT (doT V.T ops).1) HX1.out HK2.out HK8.out HKN.out (M := N + 2 * ops.length) (by omega) HT2.out HTN.out HFR.out HGG.out HF2.out
     go_wp2_with fail
     rw [HR.out]
     exact ⟨rfl, hfin.1, hfin.2⟩)
   )
end
end Go.Proofs.YtlpjmkkinlcbnaaGreatDoor
