/- A volume that a caller holds: what each of its functions does. -/
import Derived.Test.YtlpjmkkinlcbnaaGreatDoorVolOpen
import Derived.Test.YtlpjmkkinlcbnaaGreatDoorVolLaw
namespace Go.Proofs.YtlpjmkkinlcbnaaGreatDoor
open Go.RowKit
variable [Low]
section
variable {X : Nat → Prop} {w w' : World} {vb db kb n N tb lb hb mb : Nat} {A : Int → NodeA} {V : VolD}
set_option maxRecDepth 100000 in
set_option maxHeartbeats 6400000 in
/-- Operations that are refused. -/
theorem vol_Do_bad (hE : Env w) (h : VolM X w vb db kb n N V) {a : Option Addr} {c : Nat} {L : List (OpD × OpA)} (hL : OpsL w a L) (hbad : (doT V.T (L.map Prod.fst)).2 ≠ 0) (hN : N + 2 * L.length ≤ 1000000000) :
    Calls Tryz.prog 8 #[.pointer (some ⟨vb, 0, none⟩), .slice a L.length c] w fun e w' => e = .returned (.int .i64 (doT V.T (L.map Prod.fst)).2) ∧ Ext w w' := by
  obtain ⟨z, hz⟩ : ∃ z, z = (doT V.T (L.map Prod.fst)).2 := ⟨_, rfl⟩
  rw [← hz] at hbad ⊢
  obtain ⟨R, hR⟩ : ∃ R : Ending → World → Prop, R = fun e w' => e = .returned (.int .i64 z) ∧ Ext w w' := ⟨_, rfl⟩
  rw [← hR]
  have HR := Lib.hid hR; clear hR
  obtain ⟨tb, lb, hb, mb, A, h⟩ := h
  have c0 := blk_cell h.top 0 (.pointer (some ⟨tb, 0, none⟩)) rfl
  have c4 := blk_cell h.top 4 (.bool false) rfl
  have HT := Lib.hid h.tree; have HG := Lib.hid h.good; have HF := Lib.hid h.fit
  have HE := Lib.hid hE; have HOL0 := Lib.hid hL
  obtain ⟨m, hm⟩ : ∃ m, m = L.length := ⟨_, rfl⟩
  have hdo := fun W (ub um : Nat) UA (k : Ext w W) (hU : TreeM W w.heap.size ub um N V.T UA) => tree_Do a c L W (HE.out.ext k) hU HG.out HF.out (Nat.le_refl _) hN (HOL0.out.ext k)
  rw [← hm] at hN hdo ⊢
  have HDO := Lib.hid hdo
  have HZ := Lib.hid hz
  have hzb : (z != 0) = true := bne_iff_ne.2 hbad
  have hcn : N ≤ 1000000000 := by omega
  clear h hE hL hm hdo hz
  go_enter Tryz.func8, Tryz.ntmps8
  go_wp2_with (first
    | (go_at_call 22; refine (tree_Clone w HT.out HG.out HF.out (Nat.le_refl _) hcn).mono ?_; rintro e w1 ⟨ub, um, UA, rfl, hU, hx1⟩; have HU := Lib.hid hU; have HX1 := Lib.hid hx1; clear hU hx1)
    | (go_at_call 23; refine (HDO.out _ _ _ _ HX1.out HU.out).mono ?_; rintro e w2 ⟨rfl, ⟨um2, UA2, hU2⟩, hk2⟩; rw [← HZ.out]; have HX2 := Lib.hid (ext_ne HX1.out HU.out.low.1 hk2); clear hU2 hk2))
  rw [HR.out]
  exact ⟨rfl, HX2.out⟩
set_option maxRecDepth 100000 in
set_option maxHeartbeats 3200000 in
theorem vol_Hold_none (hE : Env w) (h : VolM X w vb db kb n N V) (p : By) (hi : findT V.T p = 0) (hN : N ≤ 1000000000) :
    Calls Tryz.prog 9 #[.pointer (some ⟨vb, 0, none⟩), .string (bs p)] w fun e w' => e = .returned (.tuple #[.int .i64 0, .int .i64 8]) ∧ Ext w w' := by
  obtain ⟨Q, hQ⟩ : ∃ Q : Ending → World → Prop, Q = fun e w' => e = .returned (.tuple #[.int .i64 0, .int .i64 8]) ∧ Ext w w' := ⟨_, rfl⟩
  rw [← hQ]
  have HQ := Lib.hid hQ; clear hQ
  obtain ⟨tb, lb, hb, mb, A, h⟩ := h
  have hfd := tree_Find p w hE h.tree h.good (by have := h.fit.next; omega)
  rw [hi] at hfd
  have c0 := blk_cell h.top 0 (.pointer (some ⟨tb, 0, none⟩)) rfl
  have HFD := Lib.hid hfd
  clear hfd h
  have ed : decide ((0 : Int) ≠ 0) = false := rfl
  rw [ed] at HFD
  go_enter Tryz.func9, Tryz.ntmps9
  go_wp2_with (go_at_call 28; refine HFD.out.mono ?_; rintro e w1 ⟨rfl, hx1⟩; have HX1 := Lib.hid hx1; clear hx1)
  rw [HQ.out]
  exact ⟨rfl, HX1.out⟩
set_option maxRecDepth 100000 in
set_option maxHeartbeats 3200000 in
theorem vol_Hold_dir (hE : Env w) (h : VolM X w vb db kb n N V) (p : By) (i : Int) (hi : findT V.T p = i) (h0 : i ≠ 0) (hdir : (V.T.node i).dir = true) (hN : N ≤ 1000000000) :
    Calls Tryz.prog 9 #[.pointer (some ⟨vb, 0, none⟩), .string (bs p)] w fun e w' => e = .returned (.tuple #[.int .i64 0, .int .i64 10]) ∧ Ext w w' := by
  obtain ⟨Q, hQ⟩ : ∃ Q : Ending → World → Prop, Q = fun e w' => e = .returned (.tuple #[.int .i64 0, .int .i64 10]) ∧ Ext w w' := ⟨_, rfl⟩
  rw [← hQ]
  have HQ := Lib.hid hQ; clear hQ
  obtain ⟨tb, lb, hb, mb, A, h⟩ := h
  have hfd := tree_Find p w hE h.tree h.good (by have := h.fit.next; omega)
  have hdr := fun W hx => tree_Dir p W (hE.ext hx) (h.tree.ext hx) h.good (by have := h.fit.next; omega)
  rw [hi] at hfd hdr
  have c0 := blk_cell h.top 0 (.pointer (some ⟨tb, 0, none⟩)) rfl
  have HFD := Lib.hid hfd; have HDR := Lib.hid hdr
  clear hfd hdr h
  have ed : decide (i ≠ 0) = true := decide_eq_true h0
  rw [ed] at HFD
  rw [ed, hdir] at HDR
  clear ed hdir
  go_enter Tryz.func9, Tryz.ntmps9
  go_wp2_with (first
    | (go_at_call 28; refine HFD.out.mono ?_; rintro e w1 ⟨rfl, hx1⟩; have c0 := hx1.cell c0; have HX1 := Lib.hid hx1; clear hx1)
    | (go_at_call 29; refine (HDR.out _ HX1.out).mono ?_; rintro e w2 ⟨rfl, hx2⟩; have HX2 := Lib.hid hx2; clear hx2))
  rw [HQ.out]
  exact ⟨rfl, HX1.out.trans HX2.out⟩
end
/-- A volume: the document's tree, and how often each file is held; how many sectors of its half are taken. -/
def VolK (X : Nat → Prop) (w : World) (vb db kb n N off top : Nat) (q : Int) (m : RefD) (hd : Int → Nat) : Prop :=
  ∃ V, VolM X w vb db kb n N V ∧ Like V.T m ∧ heldN V.hd = hd ∧ V.L.off = off ∧ V.L.top = top ∧ V.q = q ∧ KeptL q V.L.list (bareM m)
section
variable {X : Nat → Prop} {w w' : World} {vb db kb n N off top : Nat} {q : Int} {m : RefD} {hd : Int → Nat}
theorem VolK.ext (h : VolK X w vb db kb n N off top q m hd) (k : Ext w w') : VolK X w' vb db kb n N off top q m hd := by
  obtain ⟨V, h1, h2⟩ := h
  exact ⟨V, h1.ext k, h2⟩
theorem VolK.mono (h : VolK X w vb db kb n N off top q m hd) {M : Nat} (hM : N ≤ M) : VolK X w vb db kb n M off top q m hd := by
  obtain ⟨V, h1, h2⟩ := h
  exact ⟨V, h1.mono hM, h2⟩
theorem VolK.more (h : VolK X w vb db kb n N off top q m hd) (k : Ext w w') {Y : Nat → Prop} (hY : ∀ g, Y g → X g ∨ (w.heap.size ≤ g ∧ g < w'.heap.size)) : VolK Y w' vb db kb n N off top q m hd := by
  obtain ⟨V, h1, h2⟩ := h
  exact ⟨V, h1.more k hY, h2⟩
theorem VolK.keepT {ts : List TypeId} (h : VolK X w vb db kb n N off top q m hd) (k : KeepT ts w w') (ht : ∀ t ∈ ts, t ∉ 76 :: 5 :: volT) : VolK X w' vb db kb n N off top q m hd := by
  obtain ⟨V, h1, h2⟩ := h
  exact ⟨V, h1.keepT k ht, h2⟩
/-- The tree in it. -/
theorem VolK.tree (h : VolK X w vb db kb n N off top q m hd) : ∃ tb T, w.cell? ⟨vb, 0, none⟩ = some (.pointer (some ⟨tb, 0, none⟩)) ∧ TreeAt w Low.low tb N T ∧ Like T m := by
  obtain ⟨V, ⟨tb, lb, hb, mb, A, h⟩, h2, _⟩ := h
  exact ⟨tb, V.T, blk_cell h.top 0 _ rfl, ⟨h.good, h.fit, mb, A, h.tree⟩, h2⟩
theorem at_vDo (hE : Env w) (h : VolK X w vb db kb n N off top q m hd) {a : Option Addr} {c : Nat} {L : List (OpD × OpA)} (hL : OpsL w a L) (hok : (doM m (L.map Prod.fst)).2 = 0) (hfo : ∀ o ∈ L.map Prod.fst, FitOp o) (hpk : (packOps (L.map Prod.fst)).length ≤ 4095) (hroom : off + secN (doneB (L.map Prod.fst)).length ≤ halfN n) (htop : top ≤ 2147483000) (hN : N + 2 * L.length ≤ 1000000000) :
    Calls Tryz.prog 8 #[.pointer (some ⟨vb, 0, none⟩), .slice a L.length c] w fun e w' => e = .returned (.int .i64 0) ∧ VolK X w' vb db kb n (N + 2 * L.length) (off + secN (doneB (L.map Prod.fst)).length) top q (sweepM (doM m (L.map Prod.fst)).1 hd) hd ∧ KeepY X w w' := by
  obtain ⟨V, h1, h2, rfl, rfl, rfl, rfl, h7⟩ := h
  have h3 := (h2.do (L.map Prod.fst))
  have h4 : Like (doV n V (L.map Prod.fst)).T (sweepM (doM m (L.map Prod.fst)).1 (heldN V.hd)) := by
    have h5 := h3.2.reaps (freeX (putV n V (L.map Prod.fst)))
    have e : freeX (putV n V (L.map Prod.fst)) = (looseM (doM m (L.map Prod.fst)).1).filter fun i => !decide (0 < heldN V.hd i) := by
      rw [← h3.2.loose]; rfl
    unfold sweepM
    rw [← e]
    exact h5
  refine (vol_Do hE h1 hL (by rw [← h3.1]; exact hok) hpk hroom htop hN h4.good).mono ?_
  rintro e w' ⟨he, hv, hk⟩
  refine ⟨he, ⟨_, hv, h4, rfl, rfl, rfl, rfl, ?_⟩, hk⟩
  rw [bare_sweep]
  exact h7.do h2.low hok hfo hpk
theorem at_vDo_bad (hE : Env w) (h : VolK X w vb db kb n N off top q m hd) {a : Option Addr} {c : Nat} {L : List (OpD × OpA)} (hL : OpsL w a L) (hbad : (doM m (L.map Prod.fst)).2 ≠ 0) (hN : N + 2 * L.length ≤ 1000000000) :
    Calls Tryz.prog 8 #[.pointer (some ⟨vb, 0, none⟩), .slice a L.length c] w fun e w' => e = .returned (.int .i64 (doM m (L.map Prod.fst)).2) ∧ Ext w w' := by
  obtain ⟨V, h1, h2, _⟩ := h
  have h3 := (h2.do (L.map Prod.fst)).1
  rw [h3] at hbad ⊢
  exact vol_Do_bad hE h1 hL hbad hN
theorem at_vDoL (hE : Env w) (h : VolK X w vb db kb n N off top q m hd) {a : Option Addr} {c : Nat} {L : List (OpD × OpA)} (hL : OpsL w a L) {ops : List OpD} (hm : L.map Prod.fst = ops) {k : Nat} (hk : L.length = k) {m' m2 : RefD} (hok : doM m ops = (m', 0)) (hsw : sweepM m' hd = m2) (hfo : ∀ o ∈ ops, FitOp o) (hpk : (packOps ops).length ≤ 4095) {off' : Nat} (hoff : off + secN ((packOps ops).length + 1) = off') (hroom : off' ≤ halfN n) (htop : top ≤ 2147483000) {N' : Nat} (hN' : N + 2 * k ≤ N') (hN : N' ≤ 1000000000) :
    Calls Tryz.prog 8 #[.pointer (some ⟨vb, 0, none⟩), .slice a k c] w fun e w' => e = .returned (.int .i64 0) ∧ VolK X w' vb db kb n N' off' top q m2 hd ∧ KeepY X w w' := by
  subst hm; subst hk; subst hsw; subst hoff
  have := at_vDo hE h (c := c) hL (by rw [hok]) hfo hpk hroom htop (by omega)
  rw [hok] at this
  refine this.mono ?_
  rintro e w' ⟨h1, h2, h3⟩
  exact ⟨h1, h2.mono hN', h3⟩
theorem at_vDoL_bad (hE : Env w) (h : VolK X w vb db kb n N off top q m hd) {a : Option Addr} {c : Nat} {L : List (OpD × OpA)} (hL : OpsL w a L) {ops : List OpD} (hm : L.map Prod.fst = ops) {k : Nat} (hk : L.length = k) {e : Int} (hok : (doM m ops).2 = e) (he : e ≠ 0) (hN : N + 2 * k ≤ 1000000000) :
    Calls Tryz.prog 8 #[.pointer (some ⟨vb, 0, none⟩), .slice a k c] w fun r w' => r = .returned (.int .i64 e) ∧ Ext w w' := by
  subst hm; subst hk; subst hok
  exact at_vDo_bad hE h hL he hN
theorem at_vHold (hE : Env w) (h : VolK X w vb db kb n N off top q m hd) (p : By) {i : Int} (hi : entM m p = some ⟨p, i, false⟩) (hN : N + 1 ≤ 1000000000) (hk : hd i ≤ 1000000) :
    Calls Tryz.prog 9 #[.pointer (some ⟨vb, 0, none⟩), .string (bs p)] w fun e w' => e = .returned (.tuple #[.int .i64 i, .int .i64 0]) ∧ VolK X w' vb db kb n (N + 1) off top q m (fun z => if z = i then hd i + 1 else hd z) ∧ KeepY X w w' := by
  obtain ⟨V, h1, h2, rfl, rfl, rfl, rfl, h7⟩ := h
  have h3 := h2.ent_find p
  rw [hi] at h3
  by_cases h0 : findT V.T p = 0
  · rw [if_pos h0] at h3; cases h3
  rw [if_neg h0] at h3
  injection (Option.some.inj h3) with _ h4 h5
  refine (vol_Hold hE h1 p i h4.symm (h4 ▸ h0) (by rw [h4]; exact h5.symm) hN hk).mono ?_
  rintro e w' ⟨he, hv, hk⟩
  refine ⟨he, ⟨_, hv, h2, ?_, rfl, rfl, rfl, h7⟩, hk⟩
  funext z
  unfold heldN holdV
  by_cases hz : z = i
  · subst hz; simp [heldN]
  · simp [hz]
theorem at_vHoldL (hE : Env w) (h : VolK X w vb db kb n N off top q m hd) (p : By) {i : Int} (hi : entM m p = some ⟨p, i, false⟩) (hN : N + 1 ≤ 1000000000) (hk : hd i ≤ 1000000) {hd' : Int → Nat} (hh : ∀ z, (if z = i then hd i + 1 else hd z) = hd' z) :
    Calls Tryz.prog 9 #[.pointer (some ⟨vb, 0, none⟩), .string (bs p)] w fun e w' => e = .returned (.tuple #[.int .i64 i, .int .i64 0]) ∧ VolK X w' vb db kb n (N + 1) off top q m hd' ∧ KeepY X w w' := by
  obtain rfl : (fun z => if z = i then hd i + 1 else hd z) = hd' := funext hh
  exact at_vHold hE h p hi hN hk
theorem at_vHold_none (hE : Env w) (h : VolK X w vb db kb n N off top q m hd) (p : By) (hi : entM m p = none) (hN : N ≤ 1000000000) :
    Calls Tryz.prog 9 #[.pointer (some ⟨vb, 0, none⟩), .string (bs p)] w fun e w' => e = .returned (.tuple #[.int .i64 0, .int .i64 8]) ∧ Ext w w' := by
  obtain ⟨V, h1, h2, _⟩ := h
  have h3 := h2.ent_find p
  rw [hi] at h3
  by_cases h0 : findT V.T p = 0
  · exact vol_Hold_none hE h1 p h0 hN
  · rw [if_neg h0] at h3; cases h3
theorem at_vHold_dir (hE : Env w) (h : VolK X w vb db kb n N off top q m hd) (p : By) {i : Int} (hi : entM m p = some ⟨p, i, true⟩) (hN : N ≤ 1000000000) :
    Calls Tryz.prog 9 #[.pointer (some ⟨vb, 0, none⟩), .string (bs p)] w fun e w' => e = .returned (.tuple #[.int .i64 0, .int .i64 10]) ∧ Ext w w' := by
  obtain ⟨V, h1, h2, _⟩ := h
  have h3 := h2.ent_find p
  rw [hi] at h3
  by_cases h0 : findT V.T p = 0
  · rw [if_pos h0] at h3; cases h3
  rw [if_neg h0] at h3
  injection (Option.some.inj h3) with _ h4 h5
  exact vol_Hold_dir hE h1 p i h4.symm (h4 ▸ h0) (by rw [h4]; exact h5.symm) hN
theorem at_vHeld (h : VolK X w vb db kb n N off top q m hd) (i : Int) (h1 : -9223372036854775808 ≤ i) (h2 : i ≤ 9223372036854775807) :
    Calls Tryz.prog 11 #[.pointer (some ⟨vb, 0, none⟩), .int .i64 i] w fun e w' => e = .returned (.int .i64 (hd i : Nat)) ∧ w = w' := by
  obtain ⟨V, h3, _, rfl, _⟩ := h
  exact vol_Held h3 i h1 h2
theorem at_vLet (h : VolK X w vb db kb n N off top q m hd) (i : Int) (h1 : -9223372036854775808 ≤ i) (h2 : i ≤ 9223372036854775807) (h0 : hd i ≠ 0) (hk : hd i ≤ 1000000) (hN : N + 1 ≤ 1000000000) :
    Calls Tryz.prog 13 #[.pointer (some ⟨vb, 0, none⟩), .int .i64 i] w fun e w' => e = .returned (.int .i64 0) ∧ VolK X w' vb db kb n (N + 1) off top q (sweepM m (fun z => if z = i then hd i - 1 else hd z)) (fun z => if z = i then hd i - 1 else hd z) ∧ KeepY X w w' := by
  obtain ⟨V, h3, h4, rfl, rfl, rfl, rfl, h7⟩ := h
  have e1 : heldN (lessV V i).hd = fun z => if z = i then heldN V.hd i - 1 else heldN V.hd z := by
    funext z
    by_cases hz : z = i
    · subst hz; rw [lessV_held]; simp
    · rw [if_neg hz]; unfold heldN lessV; simp [hz]
  have h5 : Like (letV V i).T (sweepM m (fun z => if z = i then heldN V.hd i - 1 else heldN V.hd z)) := by
    have h6 := h4.reaps (freeX (lessV V i))
    have e : freeX (lessV V i) = (looseM m).filter fun j => !decide (0 < (fun z => if z = i then heldN V.hd i - 1 else heldN V.hd z) j) := by
      rw [← h4.loose, ← e1]; rfl
    unfold sweepM
    rw [← e]
    exact h6
  refine (vol_Let h3 i h1 h2 h0 hk hN h5.good).mono ?_
  rintro e w' ⟨he, hv, hk⟩
  refine ⟨he, ⟨_, hv, h5, e1, rfl, rfl, rfl, ?_⟩, hk⟩
  rw [bare_sweep]
  exact h7
theorem at_vLetL (h : VolK X w vb db kb n N off top q m hd) (i : Int) (h1 : -9223372036854775808 ≤ i) (h2 : i ≤ 9223372036854775807) (h0 : hd i ≠ 0) (hk : hd i ≤ 1000000) (hN : N + 1 ≤ 1000000000) {hd' : Int → Nat} (hh : ∀ z, (if z = i then hd i - 1 else hd z) = hd' z) {m' : RefD} (hm : sweepM m hd' = m') :
    Calls Tryz.prog 13 #[.pointer (some ⟨vb, 0, none⟩), .int .i64 i] w fun e w' => e = .returned (.int .i64 0) ∧ VolK X w' vb db kb n (N + 1) off top q m' hd' ∧ KeepY X w w' := by
  obtain rfl : (fun z => if z = i then hd i - 1 else hd z) = hd' := funext hh
  subst hm
  exact at_vLet h i h1 h2 h0 hk hN
theorem at_vLet_none (h : VolK X w vb db kb n N off top q m hd) (i : Int) (h1 : -9223372036854775808 ≤ i) (h2 : i ≤ 9223372036854775807) (h0 : hd i = 0) :
    Calls Tryz.prog 13 #[.pointer (some ⟨vb, 0, none⟩), .int .i64 i] w fun e w' => e = .returned (.int .i64 8) ∧ w = w' := by
  obtain ⟨V, h3, _, rfl, _⟩ := h
  exact vol_Let_none h3 i h1 h2 h0
theorem at_vDead (h : VolK X w vb db kb n N off top q m hd) :
    Calls Tryz.prog 16 #[.pointer (some ⟨vb, 0, none⟩)] w fun e w' => e = .returned (.bool false) ∧ w = w' := by
  obtain ⟨V, h3, _⟩ := h
  exact vol_Dead h3
/-- A new disk is opened. -/
theorem at_vNew (hE : Env w) (hX : ∀ g, X g → g < w.heap.size) (hd : DiskM w db kb n (fun _ => zeroS)) (h6 : 6 ≤ n ∧ n ≤ 4096) (q : Int) :
    Calls Tryz.prog 7 #[.pointer (some ⟨db, 0, none⟩), .int .i64 q] w fun e w' => ∃ vb, e = .returned (.tuple #[.pointer (some ⟨vb, 0, none⟩), .int .i64 0]) ∧ VolK X w' vb db kb n 200000 0 1 q (newM q) (fun _ => 0) ∧ KeepY X w w' := by
  have hop := log_Open_new hd h6.1 (fun _ _ => rfl)
  have hgl : GoodLog n (rewI n (fun _ => zeroS) log0 []) (newL log0 []) := (weak_zero h6 (fun _ _ => rfl)).rewrite (fun _ h => by cases h) (Nat.zero_le _) (by decide)
  have := vol_Open (X := X) (q := q) (S := []) (U := newT q) (opss := []) (N := 200000) hE hX (by have := hd.low.1; obtain ⟨⟨_, _, _, _, _, ht, _⟩, _⟩ := hd; have := (Array.getElem?_eq_some_iff.1 ht).1; omega) (hop.mono (fun e w' ⟨lb, h1, h2, h3⟩ => ⟨lb, h1, h2, h3.mono (by decide)⟩)) hgl rfl (Or.inl ⟨rfl, rfl⟩) (newT_good q) ((newT_fit q).mono (by omega)) (ChainR.nil _) (Nat.le_refl _) (by decide)
  refine this.mono ?_
  rintro e w' ⟨vb, he, hv, hk⟩
  exact ⟨vb, he, ⟨_, hv, new_like q, rfl, rfl, rfl, rfl, KeptL.new q⟩, hk⟩
/-- What lies on a disk is opened anew. -/
theorem at_vOpen (hE : Env w) (h : VolK X w vb db kb n N off top q m hd) (htop : top ≤ 2147483000) :
    Calls Tryz.prog 7 #[.pointer (some ⟨db, 0, none⟩), .int .i64 q] w fun e w' => ∃ vb top', e = .returned (.tuple #[.pointer (some ⟨vb, 0, none⟩), .int .i64 0]) ∧ top' ≤ top ∧ VolK X w' vb db kb n 220000 off top' q (bareM m) (fun _ => 0) ∧ KeepY X w w' := by
  obtain ⟨V, ⟨tb, lb, hb, mb, A, h1⟩, h2, rfl, rfl, rfl, rfl, S, opss, U, h3, h4, h5, h6, h7, h8⟩ := h
  have hop := log_Open_good h1.log.disk h1.glog.six.1 h1.glog htop
  have hre := h1.glog.reopen
  have hct := h1.glog.cnt h3
  have := vol_Open (X := X) (q := V.q) (N := 200000) hE h1.out.2.2 (by have := (Array.getElem?_eq_some_iff.1 h1.top).1; have := h1.lows.1; omega) (hop.mono (fun e w' ⟨lb, h1, h2, h3⟩ => ⟨lb, h1, h2, h3.mono (by decide)⟩)) hre.1 h3 h4 h5 h6 h7 (Nat.le_refl _) (by omega)
  refine this.mono ?_
  rintro e w' ⟨vb, he, hv, hk⟩
  refine ⟨vb, _, he, hre.2, ⟨_, hv.mono (by omega), h8, rfl, rfl, rfl, rfl, ?_⟩, hk⟩
  have e : bareM (bareM m) = bareM m := by
    unfold bareM
    simp only [List.filter_filter]
    congr 1
    apply List.filter_congr
    intro f _
    unfold countM
    simp
  rw [e]
  exact ⟨S, opss, U, h3, h4, h5, h6, h7, h8⟩
end
end Go.Proofs.YtlpjmkkinlcbnaaGreatDoor
