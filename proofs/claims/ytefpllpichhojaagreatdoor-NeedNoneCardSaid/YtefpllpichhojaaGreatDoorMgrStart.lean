/- mgr.Start. -/
import Derived.Test.YtefpllpichhojaaGreatDoorMgrSys
import Derived.Test.YtefpllpichhojaaGreatDoorM14
namespace Go.Proofs.YtefpllpichhojaaGreatDoor
open Go.RowKit
variable [Low]
section
variable {X : Nat → Prop} {w w' : World} {mb tb gb lm N vb db kb n off top : Nat} {q : Int} {la : Option Addr} {lc : Nat} {A : Bs → StA} {S : SysD} {G : GraphD}
def MgrR (X : Nat → Prop) (mb tb vb gb db kb n N off top : Nat) (q : Int) (lm : Nat) (r : SysD × Int) (w : World) (e : Ending) (w' : World) : Prop :=
 e = .returned (.int .i64 r.2) ∧ ∃ la' lc' A', SysB X w' mb tb vb gb db kb n N off top q lm la' lc' A' r.1 ∧ KeepM X w w'
omit [Low] in
theorem spawnF_pid (F : FileS) (P : TabD) (u : Bs) (fs : List Bs) : (spawnF F P u fs).2.2 = 0 → (spawnF F P u fs).2.1 = P.next := by
 unfold spawnF
 split
 · intro h; cases h
 split
 · intro h; cases h
 split
 · intro _; rfl
 · intro h; exact absurd h (by assumption)
theorem SysB.next (h : SysB X w mb tb vb gb db kb n N off top q lm la lc A S) : GoodP S.P ∧ S.P.next ≤ (N : Int) := by
 obtain ⟨pm, A, hb, _, _⟩ := h.2
 exact ⟨hb.good, hb.next⟩
set_option maxRecDepth 100000 in
set_option maxHeartbeats 12800000 in
theorem mgr_StartB (hE : EnvL w) (h : SysB X w mb tb vb gb db kb n N off top q lm la lc A S) (hg : GraphM X w gb 100000 G) (hs : ∀ n u, getU G.units n = some u → SmallU u) (m : Bs) (hn : m.length ≤ 100000) (hl : S.M.log.length ≤ 900000) (hlw : Low.low ≤ w.heap.size) (hN : N + 30 ≤ 1000000) :
 Calls Tryz.prog 29 #[.pointer (some ⟨mb, 0, none⟩), .string (bs m)] w (MgrR X mb tb vb gb db kb n (N + 30) off top q lm (startM G.units S m) w) := by
 obtain ⟨R, hR⟩ : ∃ R, R = MgrR X mb tb vb gb db kb n (N + 30) off top q lm (startM G.units S m) w := ⟨_, rfl⟩
 rw [← hR]
 have HR := Lib.hid hR; clear hR
 have c1 := blk_cell h.1.top 1 (.pointer (some ⟨gb, 0, none⟩)) rfl
 have HGET := Lib.hid (graph_GetM hg hs m hn)
 have HOF := Lib.hid fun W (k : Ext w W) => mgr_of (h.1.ext k) m hn
 have HMET := Lib.hid fun W (k : Ext w W) => mgr_met (h.1.ext k) (hg.ext k) hs m hn
 have hsm := small_get hs m
 have hst : startM G.units S m = match getU G.units m with
  | none => (S, 8)
  | some u => if (stM S.M m).st ≠ 0 ∧ (stM S.M m).st ≠ 4 then (S, 20) else if metM G.units S.M m = false then (S, 16)
    else if (spawnF S.F S.P m u.files).2.2 = 0 then (⟨(spawnF S.F S.P m u.files).1.1, (spawnF S.F S.P m u.files).1.2, logM (setM S.M m ⟨1, (spawnF S.F S.P m u.files).2.1, u.files, 0⟩) 0 m⟩, 0)
    else (⟨(spawnF S.F S.P m u.files).1.1, (spawnF S.F S.P m u.files).1.2, logM (setM S.M m failD) 4 m⟩, (spawnF S.F S.P m u.files).2.2) := rfl
 have hok : hasU G.units m = (getU G.units m).isSome := rfl
 unfold GetU at HGET
 rw [hok] at HGET
 obtain ⟨st, hst0⟩ : ∃ st, st = stM S.M m := ⟨_, rfl⟩
 rw [← hst0] at hst
 have HH := Lib.hid h; have HGG := Lib.hid hg; have HSS := Lib.hid hs; have HLW := Lib.hid hlw; have HL := Lib.hid hl; have HST0 := Lib.hid hst0; have HE := Lib.hid hE
 clear h hg hs hlw hok hst0 hE hl
 cases hgu : getU G.units m with
 | none =>
   rw [hgu] at hst HGET
   have HST := Lib.hid hst
   clear hst hgu hsm HMET
   dsimp only [Option.getD, Option.isSome] at HGET
   go_enter Tryz.func29, Tryz.ntmps29
   go_wp2_with (first
    | (go_at_call 84; refine HGET.out.mono ?_; rintro e w1 ⟨AV, CV, rfl, hO, hx1⟩; unfold unitV uzD; have HX1 := Lib.hid hx1; clear hO hx1)
    | (go_at_call 85; refine (HOF.out _ (HX1.out.trans (Ext.alloc _ _))).mono ?_; rintro e w3 ⟨p, B, rfl, hb, _, hx3⟩; have HX3 := Lib.hid ((HX1.out.trans (Ext.alloc _ _)).trans hx3); clear hb hx3))
   rw [HR.out, HST.out]
   exact ⟨rfl, la, lc, A, (HH.out.ext HX3.out).mono (by omega), KeepM.of_ext HX3.out⟩
 | some u =>
   rw [hgu] at hst HGET hsm
   dsimp only [Option.getD, Option.isSome] at HGET hsm hst
   have HSM := Lib.hid hsm
   clear hsm hgu
   by_cases hbad : st.st ≠ 0 ∧ st.st ≠ 4
   · rw [if_pos hbad] at hst
     have n0 : ((st.st : Int) != 0) = true := by simp; omega
     have n4 : ((st.st : Int) != 4) = true := by simp; omega
     have HST := Lib.hid hst
     clear hst HMET hbad
     go_enter Tryz.func29, Tryz.ntmps29
     go_wp2_with (first
      | (go_at_call 84; refine HGET.out.mono ?_; rintro e w1 ⟨AV, CV, rfl, hO, hx1⟩; unfold unitV; have HX1 := Lib.hid hx1; clear hO hx1)
      | (go_at_call 85; refine (HOF.out _ (HX1.out.trans (Ext.alloc _ _))).mono ?_; rintro e w3 ⟨p, B, rfl, hb, _, hx3⟩; rw [← HST0.out] at hb; have c0 := blk_cell hb 0 (.int .i64 (st.st : Nat)) rfl; have HX3 := Lib.hid ((HX1.out.trans (Ext.alloc _ _)).trans hx3); clear hb hx3))
     rw [HR.out, HST.out]
     exact ⟨rfl, la, lc, A, (HH.out.ext HX3.out).mono (by omega), KeepM.of_ext HX3.out⟩
   rw [if_neg hbad] at hst
   obtain ⟨g0, g4, n0, n4, hor⟩ : ∃ g0 g4 : Bool, ((st.st : Int) != 0) = g0 ∧ ((st.st : Int) != 4) = g4 ∧ ((g0 = false ∧ g4 = true) ∨ (g0 = true ∧ g4 = false)) := by
    refine ⟨_, _, rfl, rfl, ?_⟩
    by_cases e : st.st = 0
    · left; rw [e]; exact ⟨rfl, rfl⟩
    · right
      have e4 : st.st = 4 := Classical.byContradiction fun h => hbad ⟨e, h⟩
      rw [e4]; exact ⟨rfl, rfl⟩
   obtain ⟨met, hmet⟩ : ∃ b, b = metM G.units S.M m := ⟨_, rfl⟩
   rw [← hmet] at hst HMET
   clear hmet hbad
   cases met with
   | false =>
     rw [if_pos rfl] at hst
     have HST := Lib.hid hst
     clear hst
     go_enter Tryz.func29, Tryz.ntmps29
     rcases hor with ⟨rfl, rfl⟩ | ⟨rfl, rfl⟩
     all_goals (
      go_wp2_with (first
       | (go_at_call 84; refine HGET.out.mono ?_; rintro e w1 ⟨AV, CV, rfl, hO, hx1⟩; unfold unitV; have HX1 := Lib.hid hx1; clear hO hx1)
       | (go_at_call 85; refine (HOF.out _ (HX1.out.trans (Ext.alloc _ _))).mono ?_; rintro e w3 ⟨p, B, rfl, hb, _, hx3⟩; rw [← HST0.out] at hb; have c0 := blk_cell hb 0 (.int .i64 (st.st : Nat)) rfl; have HX3 := Lib.hid ((HX1.out.trans (Ext.alloc _ _)).trans hx3); clear hb hx3)
       | (go_at_call 86; refine (HMET.out _ HX3.out).mono ?_; rintro e w4 ⟨rfl, hx4⟩; have HX4 := Lib.hid (HX3.out.trans hx4); clear hx4))
      rw [HR.out, HST.out]
      exact ⟨rfl, la, lc, A, (HH.out.ext HX4.out).mono (by omega), KeepM.of_ext HX4.out⟩)
   | true =>
     rw [if_neg (by simp)] at hst
     have HST := Lib.hid hst
     clear hst
     go_enter Tryz.func29, Tryz.ntmps29
     rcases hor with ⟨rfl, rfl⟩ | ⟨rfl, rfl⟩
     all_goals (
      go_upto_region 9 with (first
       | (go_at_call 84; refine HGET.out.mono ?_; rintro e w1 ⟨AV, CV, rfl, hO, hx1⟩; unfold unitV; have HX1 := Lib.hid hx1; have HO1 := Lib.hid hO; clear hO hx1)
       | (go_at_call 85; refine (HOF.out _ (HX1.out.trans (Ext.alloc _ _))).mono ?_; rintro e w3 ⟨p, B, rfl, hb, _, hx3⟩; rw [← HST0.out] at hb; have c0 := blk_cell hb 0 (.int .i64 (st.st : Nat)) rfl; have HX3 := Lib.hid hx3; clear hb hx3)
       | (go_at_call 86; refine (HMET.out _ ((HX1.out.trans (Ext.alloc _ _)).trans HX3.out)).mono ?_; rintro e w4 ⟨rfl, hx4⟩; have HX4 := Lib.hid hx4; clear hx4))
      clear c0 n0 n4 c1
      have hxa : Ext w1 (w1.alloc (.cells #[.string (bs u.name), .slice (AV 1) u.files.length (CV 1), .slice (AV 2) u.after.length (CV 2), .slice (AV 3) u.before.length (CV 3), .slice (AV 4) u.reqs.length (CV 4), .slice (AV 5) u.wants.length (CV 5), .slice (AV 6) u.partof.length (CV 6), .int .i64 u.retry] 84)) := Ext.alloc _ _
      have hb5 := (HX3.out.trans HX4.out).heap (heap_alloc_new w1 (.cells #[.string (bs u.name), .slice (AV 1) u.files.length (CV 1), .slice (AV 2) u.after.length (CV 2), .slice (AV 3) u.before.length (CV 3), .slice (AV 4) u.reqs.length (CV 4), .slice (AV 5) u.wants.length (CV 5), .slice (AV 6) u.partof.length (CV 6), .int .i64 u.retry] 84))
      have hx9 : Ext w w4 := ((HX1.out.trans hxa).trans HX3.out).trans HX4.out
      have hof : OwnS w4 w.heap.size (AV 1) (CV 1) u.files := (HO1.out 1 (by omega) (by omega)).1.ext ((hxa.trans HX3.out).trans HX4.out)
      obtain ⟨B5, hB5⟩ : ∃ b, b = w1.heap.size := ⟨_, rfl⟩
      obtain ⟨fa, hfa⟩ : ∃ b, b = AV 1 := ⟨_, rfl⟩
      obtain ⟨fc, hfc⟩ : ∃ b, b = CV 1 := ⟨_, rfl⟩
      rw [← hfa, ← hfc] at hof
      rw [← hB5, ← hfa, ← hfc] at hb5
      rw [← hB5, ← hfa, ← hfc]
      have hfl : u.files.length ≤ 1000 := (HSM.out.rows 1 (by omega) (by omega)).1
      have hB4 := HH.out.ext hx9
      obtain ⟨r, hr⟩ : ∃ r, r = spawnF S.F S.P m u.files := ⟨_, rfl⟩
      have hst := HST.out
      rw [← hr] at hst
      have hsp : ∀ W, Ext w4 W → Calls Tryz.prog 15 #[.pointer (some ⟨tb, 0, none⟩), .string (bs m), .slice fa u.files.length fc] W fun e w' => e = .returned (.tuple #[.int .i64 r.2.1, .int .i64 r.2.2]) ∧ SysP (AndM X lm) w' tb vb db kb n (N + 20) off top q r.1.1 r.1.2 ∧ KeepP (AndM X lm) W w' := fun W k => by
       rw [hr]
       exact proc_Spawn (HE.out.ext (hx9.trans k)) (hB4.ext k).2 (Nat.le_trans HLW.out (hx9.trans k).size) m u.files fa fc (fun W' kk => (OwnS.strs ((hof.ext k).keepVol kk)).1) (by omega) (by omega)
      have hrp : r.2.2 = 0 → r.2.1 = S.P.next := by rw [hr]; exact spawnF_pid _ _ _ _
      have hpn := HH.out.next
      obtain ⟨pid, hpid⟩ : ∃ x, x = r.2.1 := ⟨_, rfl⟩
      obtain ⟨ez, hez⟩ : ∃ x, x = r.2.2 := ⟨_, rfl⟩
      rw [← hpid, ← hez] at hrp
      have hsp2 : ∀ W, Ext w4 W → Calls Tryz.prog 15 #[.pointer (some ⟨tb, 0, none⟩), .string (bs m), .slice fa u.files.length fc] W fun e w' => e = .returned (.tuple #[.int .i64 pid, .int .i64 ez]) ∧ SysP (AndM X lm) w' tb vb db kb n (N + 20) off top q r.1.1 r.1.2 ∧ KeepP (AndM X lm) W w' := by rw [hpid, hez]; exact hsp
      rw [← hpid, ← hez] at hst
      have HST := Lib.hid hst; have HSP := Lib.hid hsp2; have HRP := Lib.hid hrp; have HPN := Lib.hid hpn; have HB4 := Lib.hid hB4; have HX9 := Lib.hid hx9; have HOF := Lib.hid hof; have HB5 := Lib.hid hb5; have HFL := Lib.hid hfl
      have HNL := Lib.hid hn
      have hsn : ∀ a b, Ext w4 a → KeepP (AndM X lm) a b → b.cell? ⟨mb, 0, none⟩ = some (.pointer (some ⟨tb, 0, none⟩)) ∧ b.cell? ⟨B5, 1, none⟩ = some (.slice fa u.files.length fc) := fun a b k kk =>
       ⟨blk_cell (Keep.heap kk (Or.inr (Or.inr ⟨_, _, _, k.heap HB4.out.1.top, by decide⟩)) (k.heap HB4.out.1.top)) 0 _ rfl, blk_cell (Keep.heap kk (Or.inr (Or.inr ⟨_, _, _, k.heap HB5.out, by decide⟩)) (k.heap HB5.out)) 1 _ rfl⟩
      have HSN := Lib.hid hsn
      have HCS := Lib.hid fun W (k : Ext w4 W) => hsn W W k (KeepP.refl _ _)
      clear hst hsp hsp2 hrp hpn hB4 hx9 hof hb5 hfl hsn hxa hr hpid hez hB5 hfa hfc HX1 HX3 HX4 HO1
      have HK := Lib.hid ((Ext.refl w4).drew)
      refine wp_region_noPanic ?_
      refine wp_region_held_drew (S := (fun W => W.cell? ⟨mb, 0, none⟩ = some (.pointer (some ⟨tb, 0, none⟩)) ∧ W.cell? ⟨B5, 1, none⟩ = some (.slice fa u.files.length fc))) (by kernel_rfl) (HCS.out _ HK.out) (fun hHeld => ?_)
      clear hHeld
      generalize w4.drew = wc at HK ⊢
      refine wpAnyH_take (i := 0) (v := ?_) rfl (by kernel_rfl) (by kernel_rfl) (by kernel_rfl) (fun _ _ _ h => h) (Or.inl ⟨by kernel_rfl, ?_⟩) (HCS.out _ HK.out) ?_
      rotate_left
      · (intro wq _; first | (go_simp; done) | (go_simp; with_reducible rfl))
      try simp only [List.getElem_toArray, List.getElem_cons_zero, Act.put, List.setIfInBounds_toArray, List.set_cons_zero, List.set_cons_succ]
      refine wpAnyH_take (i := 1) (v := ?_) rfl (by kernel_rfl) (by kernel_rfl) (by kernel_rfl) (fun _ _ _ h => h) (Or.inl ⟨by kernel_rfl, ?_⟩) (HCS.out _ HK.out) ?_
      rotate_left
      · (intro wq _; first | (go_simp; done) | (go_simp; with_reducible rfl))
      try simp only [List.getElem_toArray, List.getElem_cons_zero, List.getElem_cons_succ, Act.put, List.setIfInBounds_toArray, List.set_cons_zero, List.set_cons_succ]
      refine wpAnyH_take (i := 2) (v := ?_) rfl (by kernel_rfl) (by kernel_rfl) (by kernel_rfl) (fun _ _ _ h => h) (Or.inl ⟨by kernel_rfl, ?_⟩) (HCS.out _ HK.out) ?_
      rotate_left
      · (intro wq _; first | (go_simp; done) | (go_simp; with_reducible rfl))
      try simp only [List.getElem_toArray, List.getElem_cons_zero, List.getElem_cons_succ, Act.put, List.setIfInBounds_toArray, List.set_cons_zero, List.set_cons_succ]
      refine wpAnyH_take (i := 3) (v := ?_) rfl (by kernel_rfl) (by kernel_rfl) (by kernel_rfl) (fun _ _ _ h => h) (Or.inl ⟨by kernel_rfl, ?_⟩) (HCS.out _ HK.out) ?_
      rotate_left
      · (intro wq hSw; (try dsimp only at hSw); first | (go_simp; done) | (go_simp; with_reducible rfl))
      try simp only [List.getElem_toArray, List.getElem_cons_zero, List.getElem_cons_succ, Act.put, List.setIfInBounds_toArray, List.set_cons_zero, List.set_cons_succ]
      refine wpAnyH_take (i := 4) (v := ?_) rfl (by kernel_rfl) (by kernel_rfl) (by kernel_rfl) (fun _ _ _ h => h) (Or.inl ⟨by kernel_rfl, ?_⟩) (HCS.out _ HK.out) ?_
      rotate_left
      · (intro wq _; first | (go_simp; done) | (go_simp; with_reducible rfl))
      try simp only [List.getElem_toArray, List.getElem_cons_zero, List.getElem_cons_succ, Act.put, List.setIfInBounds_toArray, List.set_cons_zero, List.set_cons_succ]
      refine wpAnyH_take (i := 5) (v := ?_) rfl (by kernel_rfl) (by kernel_rfl) (by kernel_rfl) (fun _ _ _ h => h) (Or.inl ⟨by kernel_rfl, ?_⟩) (HCS.out _ HK.out) ?_
      rotate_left
      · (intro wq _; first | (go_simp; done) | (go_simp; with_reducible rfl))
      try simp only [List.getElem_toArray, List.getElem_cons_zero, List.getElem_cons_succ, Act.put, List.setIfInBounds_toArray, List.set_cons_zero, List.set_cons_succ]
      refine wpAnyH_take (i := 6) (v := ?_) rfl (by kernel_rfl) (by kernel_rfl) (by kernel_rfl) (fun _ _ _ h => h) (Or.inl ⟨by kernel_rfl, ?_⟩) (HCS.out _ HK.out) ?_
      rotate_left
      · (intro wq hSw; (try dsimp only at hSw); first | (go_simp; done) | (go_simp; with_reducible rfl))
      try simp only [List.getElem_toArray, List.getElem_cons_zero, List.getElem_cons_succ, Act.put, List.setIfInBounds_toArray, List.set_cons_zero, List.set_cons_succ]
      all_goals (
       first
        | refine wpAnyH_ready (rs := [7]) (by decide +kernel) (by simp) ?_
       repeat' (first | exact AllReadyH.nil | (refine AllReadyH.cons rfl (fun K hK => ?_) ?_)))
      all_goals (
       first
        | (go_simp
           first
            | (go_at_call 15
               refine (HSP.out _ HK.out).mono ?_
               rintro E wn ⟨rfl, hsp, hkp⟩
               have HSP2 := Lib.hid hsp
               have HKP := Lib.hid hkp
               clear hsp hkp
               go_wp2_with fail
               refine hK.out _ _ (HSN.out _ _ HK.out HKP.out) (fun _ => ?_)
               clear hK K
               obtain ⟨wd, hwd⟩ : ∃ x : World, x = wc := ⟨_, rfl⟩
               rw [← hwd] at HK HKP
               clear hwd
               obtain ⟨wc, rfl⟩ : ∃ x : World, x = wn := ⟨_, rfl⟩
               try simp only [List.getElem_toArray, List.getElem_cons_zero, List.getElem_cons_succ, Act.put, List.setIfInBounds_toArray, List.set_cons_zero, List.set_cons_succ])))
      all_goals (
       refine wpAnyH_take (i := 8) (v := ?_) rfl (by kernel_rfl) (by kernel_rfl) (by kernel_rfl) (fun _ _ _ h => h) (Or.inl ⟨by kernel_rfl, ?_⟩) (HSN.out _ _ HK.out HKP.out) ?_
       rotate_left
       · (intro wq _; first | (go_simp; done) | (go_simp; with_reducible rfl))
       try simp only [List.getElem_toArray, List.getElem_cons_zero, List.getElem_cons_succ, Act.put, List.setIfInBounds_toArray, List.set_cons_zero, List.set_cons_succ]
       refine wpAnyH_take (i := 9) (v := ?_) rfl (by kernel_rfl) (by kernel_rfl) (by kernel_rfl) (fun _ _ _ h => h) (Or.inl ⟨by kernel_rfl, ?_⟩) (HSN.out _ _ HK.out HKP.out) ?_
       rotate_left
       · (intro wq _; first | (go_simp; done) | (go_simp; with_reducible rfl))
       try simp only [List.getElem_toArray, List.getElem_cons_zero, List.getElem_cons_succ, Act.put, List.setIfInBounds_toArray, List.set_cons_zero, List.set_cons_succ]
       refine wpAnyH_take (i := 10) (v := ?_) rfl (by kernel_rfl) (by kernel_rfl) (by kernel_rfl) (fun _ _ _ h => h) (Or.inl ⟨by kernel_rfl, ?_⟩) (HSN.out _ _ HK.out HKP.out) ?_
       rotate_left
       · (intro wq _; first | (go_simp; done) | (go_simp; with_reducible rfl))
       try simp only [List.getElem_toArray, List.getElem_cons_zero, List.getElem_cons_succ, Act.put, List.setIfInBounds_toArray, List.set_cons_zero, List.set_cons_succ]
       refine wpAnyH_take (i := 11) (v := ?_) rfl (by kernel_rfl) (by kernel_rfl) (by kernel_rfl) (fun _ _ _ h => h) (Or.inl ⟨by kernel_rfl, ?_⟩) (HSN.out _ _ HK.out HKP.out) ?_
       rotate_left
       · (intro wq _; first | (go_simp; done) | (go_simp; with_reducible rfl))
       try simp only [List.getElem_toArray, List.getElem_cons_zero, List.getElem_cons_succ, Act.put, List.setIfInBounds_toArray, List.set_cons_zero, List.set_cons_succ]
       refine wpAnyH_take (i := 12) (v := ?_) rfl (by kernel_rfl) (by kernel_rfl) (by kernel_rfl) (fun _ _ _ h => h) (Or.inl ⟨by kernel_rfl, ?_⟩) (HSN.out _ _ HK.out HKP.out) ?_
       rotate_left
       · (intro wq _; first | (go_simp; done) | (go_simp; with_reducible rfl))
       try simp only [List.getElem_toArray, List.getElem_cons_zero, List.getElem_cons_succ, Act.put, List.setIfInBounds_toArray, List.set_cons_zero, List.set_cons_succ]
       refine wpAnyH_done (by kernel_rfl) ?_ _
       refine NoPanic.normal ?_
       have hs5 := (HB4.out.ext HK.out).keepP HKP.out HSP2.out (by omega)
       have hb55 := Keep.heap HKP.out (Or.inr (Or.inr ⟨_, _, _, HK.out.heap HB5.out, by decide⟩)) (HK.out.heap HB5.out)
       have hof5 : OwnS wc w.heap.size fa fc u.files := (HOF.out.ext HK.out).keepPr HKP.out
       have hkm : KeepM X w wc := (KeepM.of_ext (HX9.out.trans HK.out)).trans hs5.2
       have HS5 := Lib.hid hs5; have HB55 := Lib.hid hb55; have HOF5 := Lib.hid hof5; have HKM := Lib.hid hkm
       have HLW5 : Hid (Low.low ≤ wc.heap.size) := Lib.hid (Nat.le_trans HLW.out (Keep.size hkm))
       clear hs5 hb55 hof5 hkm HK HKP HCS HSN HSP2 HSP
       obtain ⟨w14, rfl⟩ : ∃ x : World, x = wc := ⟨_, rfl⟩
       by_cases he : ez = 0
       · have hst := HST.out
         rw [if_pos he] at hst
         have hpid := HRP.out he
         subst he
         have HPID := Lib.hid hpid; have HST := Lib.hid hst
         clear hst hpid
         go_upto_region 14 with (fail)
         have hsk : ∀ a b, Ext w14 a → Keep (· ≠ lm) a b → b.cell? ⟨mb, 2, none⟩ = some (.map (some lm)) ∧ b.cell? ⟨B5, 1, none⟩ = some (.slice fa u.files.length fc) := fun a b k kk =>
          ⟨blk_cell (kk.heap ((HS5.out.1.1.ext k).lmne (k.heap HS5.out.1.1.top)) (k.heap HS5.out.1.1.top)) 2 _ rfl, blk_cell (kk.heap ((HS5.out.1.1.ext k).lmne (k.heap HB55.out)) (k.heap HB55.out)) 1 _ rfl⟩
         have HSK := Lib.hid hsk
         have HCS := Lib.hid fun W (k : Ext w14 W) => hsk W W k (Keep.refl _ _)
         have HFS := Lib.hid fun W (k : Ext w14 W) => (OwnS.strs (HOF5.out.ext k)).1
         have HFL2 : Hid (u.files.length ≤ 100000) := Lib.hid (by have := HFL.out; omega)
         have HMB := HS5
         have HMB := Lib.hid HS5.out.1
         have HNN : Hid (N + 20 < 2000000) := Lib.hid (by omega)
         clear hsk
         have HK := Lib.hid ((Ext.refl w14).drew)
         refine wp_region_noPanic ?_
         refine wp_region_held_drew (S := (fun W => W.cell? ⟨mb, 2, none⟩ = some (.map (some lm)) ∧ W.cell? ⟨B5, 1, none⟩ = some (.slice fa u.files.length fc))) (by kernel_rfl) (HCS.out _ HK.out) (fun hHeld => ?_)
         clear hHeld
         generalize w14.drew = wc at HK ⊢
         refine wpAnyH_take (i := 0) (v := ?_) rfl (by kernel_rfl) (by kernel_rfl) (by kernel_rfl) (fun _ _ _ h => h) (Or.inl ⟨by kernel_rfl, ?_⟩) (HCS.out _ HK.out) ?_
         rotate_left
         · (intro wq _; first | (go_simp; done) | (go_simp; with_reducible rfl))
         try simp only [List.getElem_toArray, List.getElem_cons_zero, Act.put, List.setIfInBounds_toArray, List.set_cons_zero, List.set_cons_succ]
         refine wpAnyH_take (i := 1) (v := ?_) rfl (by kernel_rfl) (by kernel_rfl) (by kernel_rfl) (fun _ _ _ h => h) (Or.inl ⟨by kernel_rfl, ?_⟩) (HCS.out _ HK.out) ?_
         rotate_left
         · (intro wq _; first | (go_simp; done) | (go_simp; with_reducible rfl))
         try simp only [List.getElem_toArray, List.getElem_cons_zero, List.getElem_cons_succ, Act.put, List.setIfInBounds_toArray, List.set_cons_zero, List.set_cons_succ]
         refine wpAnyH_take (i := 2) (v := ?_) rfl (by kernel_rfl) (by kernel_rfl) (by kernel_rfl) (fun _ _ _ h => h) (Or.inl ⟨by kernel_rfl, ?_⟩) (HCS.out _ HK.out) ?_
         rotate_left
         · (intro wq _; first | (go_simp; done) | (go_simp; with_reducible rfl))
         try simp only [List.getElem_toArray, List.getElem_cons_zero, List.getElem_cons_succ, Act.put, List.setIfInBounds_toArray, List.set_cons_zero, List.set_cons_succ]
         refine wpAnyH_take (i := 3) (v := ?_) rfl (by kernel_rfl) (by kernel_rfl) (by kernel_rfl) (fun _ _ _ h => h) (Or.inl ⟨by kernel_rfl, ?_⟩) (HCS.out _ HK.out) ?_
         rotate_left
         · (intro wq hSw; (try dsimp only at hSw); first | (go_simp; done) | (go_simp; with_reducible rfl))
         try simp only [List.getElem_toArray, List.getElem_cons_zero, List.getElem_cons_succ, Act.put, List.setIfInBounds_toArray, List.set_cons_zero, List.set_cons_succ]
         refine wpAnyH_take (i := 4) (v := ?_) rfl (by kernel_rfl) (by kernel_rfl) (by kernel_rfl) (fun _ _ _ h => h) (Or.inl ⟨by kernel_rfl, ?_⟩) (HCS.out _ HK.out) ?_
         rotate_left
         · (intro wq _; first | (go_simp; done) | (go_simp; with_reducible rfl))
         try simp only [List.getElem_toArray, List.getElem_cons_zero, List.getElem_cons_succ, Act.put, List.setIfInBounds_toArray, List.set_cons_zero, List.set_cons_succ]
         refine wpAnyH_take (i := 5) (v := ?_) rfl (by kernel_rfl) (by kernel_rfl) (by kernel_rfl) (fun _ _ _ h => h) (Or.inl ⟨by kernel_rfl, ?_⟩) (HCS.out _ HK.out) ?_
         rotate_left
         · (intro wq _; first | (go_simp; done) | (go_simp; with_reducible rfl))
         try simp only [List.getElem_toArray, List.getElem_cons_zero, List.getElem_cons_succ, Act.put, List.setIfInBounds_toArray, List.set_cons_zero, List.set_cons_succ]
         refine wpAnyH_take (i := 6) (v := ?_) rfl (by kernel_rfl) (by kernel_rfl) (by kernel_rfl) (fun _ _ _ h => h) (Or.inl ⟨by kernel_rfl, ?_⟩) (HCS.out _ HK.out) ?_
         rotate_left
         · (intro wq _; first | (go_simp; done) | (go_simp; with_reducible rfl))
         try simp only [List.getElem_toArray, List.getElem_cons_zero, List.getElem_cons_succ, Act.put, List.setIfInBounds_toArray, List.set_cons_zero, List.set_cons_succ]
         refine wpAnyH_take (i := 7) (v := ?_) rfl (by kernel_rfl) (by kernel_rfl) (by kernel_rfl) (fun _ _ _ h => h) (Or.inl ⟨by kernel_rfl, ?_⟩) (HCS.out _ HK.out) ?_
         rotate_left
         · (intro wq hSw; (try dsimp only at hSw); first | (go_simp; done) | (go_simp; with_reducible rfl))
         try simp only [List.getElem_toArray, List.getElem_cons_zero, List.getElem_cons_succ, Act.put, List.setIfInBounds_toArray, List.set_cons_zero, List.set_cons_succ]
         all_goals (
          first
           | refine wpAnyH_ready (rs := [8]) (by decide +kernel) (by simp) ?_
          repeat' (first | exact AllReadyH.nil | (refine AllReadyH.cons rfl (fun K hK => ?_) ?_)))
         all_goals (
          first
           | (go_simp
              first
               | (go_at_call 88
                  refine (clone_ts fa fc u.files wc (strs_runS.1 (HFS.out _ HK.out)) HFL2.out).mono ?_
                  rintro E wn ⟨a2, c2, rfl, hO2, hc2, hx⟩
                  have HO2 := Lib.hid (hO2.base2 HK.out.size)
                  replace HK := Lib.hid (HK.out.trans hx)
                  clear hx hO2 hc2
                  go_wp2_with fail
                  refine hK.out _ _ (HCS.out _ HK.out) (fun _ => ?_)
                  clear hK K
                  obtain ⟨wc, rfl⟩ : ∃ x : World, x = wn := ⟨_, rfl⟩
                  try simp only [List.getElem_toArray, List.getElem_cons_zero, List.getElem_cons_succ, Act.put, List.setIfInBounds_toArray, List.set_cons_zero, List.set_cons_succ]
                  refine wpAnyH_take (i := 9) (v := ?_) rfl (by kernel_rfl) (by kernel_rfl) (by kernel_rfl) (fun _ _ _ h => h) (Or.inl ⟨by kernel_rfl, ?_⟩) (HCS.out _ HK.out) ?_
                  rotate_left
                  · (intro wq _; first | (go_simp; done) | (go_simp; with_reducible rfl))
                  try simp only [List.getElem_toArray, List.getElem_cons_zero, List.getElem_cons_succ, Act.put, List.setIfInBounds_toArray, List.set_cons_zero, List.set_cons_succ])))
         all_goals (
          first
           | refine wpAnyH_ready (rs := [10]) (by decide +kernel) (by simp) ?_
          repeat' (first | exact AllReadyH.nil | (refine AllReadyH.cons rfl (fun K hK => ?_) ?_)))
         all_goals (
          first
           | (go_simp
              first
               | (have hx := Ext.alloc wc (.cells #[.int .i64 1, .int .i64 pid, .slice a2 u.files.length c2, .int .i64 0] 156)
                  have hbn := heap_alloc_new wc (.cells #[.int .i64 1, .int .i64 pid, .slice a2 u.files.length c2, .int .i64 0] 156)
                  have hle := HK.out.size
                  refine hK.out _ (wc.alloc (.cells #[.int .i64 1, .int .i64 pid, .slice a2 u.files.length c2, .int .i64 0] 156)) (HCS.out _ (HK.out.trans hx)) (fun _ => ?_)
                  clear hK K
                  replace HK := Lib.hid (HK.out.trans hx)
                  replace HO2 := Lib.hid (OwnS.ext HO2.out hx)
                  obtain ⟨G, hG⟩ : ∃ x, x = wc.heap.size := ⟨_, rfl⟩
                  rw [← hG] at hbn hle ⊢
                  have HG := Lib.hid hbn
                  have LHG := Lib.hid hle
                  clear hbn hG hle hx
                  generalize wc.alloc (.cells #[.int .i64 1, .int .i64 pid, .slice a2 u.files.length c2, .int .i64 0] 156) = wc at *
                  try simp only [List.getElem_toArray, List.getElem_cons_zero, List.getElem_cons_succ, Act.put, List.setIfInBounds_toArray, List.set_cons_zero, List.set_cons_succ])))
         all_goals (
          refine wpAnyH_ready (rs := [11]) (by kernel_rfl) (by simp) ?_
          refine AllReadyH.cons rfl (fun K hK => ?_) AllReadyH.nil
          have hmw := HMB.out.1.map.ext HK.out
          have hmb := hmw.block
          obtain ⟨wn, hrun, hmn, hkn⟩ := hmw.store (t := 103) str_keyed Tryz.underlying103 (by have := HNN.out; unfold maxLen; omega) keyS_inj (.pointer (some ⟨G, 0, none⟩)) (key_by HNL.out)
          have hsn := HSK.out _ _ HK.out hkn
          have HMN := Lib.hid hmn
          have HKN := Lib.hid hkn
          clear hmw hmb hmn
          go_simp
          refine hK.out _ _ hsn (fun _ => ?_)
          clear hK K hrun hkn hsn
          try simp only [List.getElem_toArray, List.getElem_cons_zero, List.getElem_cons_succ, Act.put, List.setIfInBounds_toArray, List.set_cons_zero, List.set_cons_succ])
         all_goals (
          refine wpAnyH_done (by kernel_rfl) ?_ _
          refine NoPanic.normal ?_
          have hp := HMB.out.put HK.out m ⟨1, pid, u.files, 0⟩ ⟨G, a2, c2⟩ HG.out (HO2.out.base2 HLW5.out) LHG.out HMN.out HKN.out ⟨Int.le_refl _, (by show (0 : Int) ≤ _; omega), (by have h1 := HPID.out; have h2 := HPN.out.1.next; show 0 ≤ pid; omega), (by have h1 := HPID.out; have h2 := HPN.out.2; show pid ≤ _; omega)⟩ HNL.out HLW5.out
          have HP := Lib.hid hp; clear hp
          go_wp2_with (go_at_call 87; refine (sys_happen HP.out.1 0 m (by have := HL.out; show S.M.log.length ≤ 1000000; omega) (Nat.le_trans HLW5.out (Keep.size HP.out.2))).mono ?_; rintro e w7 ⟨rfl, la', lc', hB7, hk7⟩; have HB7 := Lib.hid hB7; have HK7 := Lib.hid hk7; clear hB7 hk7)
          rw [HR.out, HST.out]
          exact ⟨rfl, la', lc', _, HB7.out.mono (by omega), (HKM.out.trans HP.out.2).trans HK7.out⟩)
       · have n1 : (ez != 0) = true := by simpa using he
         have hst := HST.out
         rw [if_neg he] at hst
         have HST := Lib.hid hst
         have c2 := blk_cell HS5.out.1.1.top 2 (.map (some lm)) rfl
         clear hst he
         go_wp2_with (first
          | (at_mapUpdate; refine wpList_store_F rfl _ _ _ 103 rfl 153 str_keyed Tryz.underlying103 lm (N + 20) _ rfl (HS5.out.1.1.map.ext (Ext.alloc _ _)) (by unfold maxLen; omega) keyS_inj _ (.pointer (some ⟨w14.heap.size, 0, none⟩)) m rfl rfl (key_by hn) ?_; intro w6 hm6 hk6; have HP := Lib.hid (HS5.out.1.put (Ext.alloc _ _) m failD ⟨w14.heap.size, none, 0⟩ (heap_alloc_new _ _) (OwnS.nil _ _) (Nat.le_refl _) hm6 hk6 ⟨Int.le_refl _, (by show (0 : Int) ≤ _; omega), Int.le_refl _, (by show (0 : Int) ≤ _; omega)⟩ hn HLW5.out); clear hm6 hk6)
          | (go_at_call 87; refine (sys_happen HP.out.1 4 m (by have := HL.out; show S.M.log.length ≤ 1000000; omega) (Nat.le_trans HLW5.out (Keep.size HP.out.2))).mono ?_; rintro e w7 ⟨rfl, la', lc', hB7, hk7⟩; have HB7 := Lib.hid hB7; have HK7 := Lib.hid hk7; clear hB7 hk7))
         rw [HR.out, HST.out]
         exact ⟨rfl, la', lc', _, HB7.out.mono (by omega), (HKM.out.trans HP.out.2).trans HK7.out⟩))
end
end Go.Proofs.YtefpllpichhojaaGreatDoor
