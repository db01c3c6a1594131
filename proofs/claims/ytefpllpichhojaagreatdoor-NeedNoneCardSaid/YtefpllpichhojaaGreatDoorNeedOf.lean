/- need.Stale, need.Of. -/
import Derived.Test.YtefpllpichhojaaGreatDoorMgrStart
import Derived.Test.YtefpllpichhojaaGreatDoorM3
namespace Go.Proofs.YtefpllpichhojaaGreatDoor
open Go.RowKit
variable [Low]
section
variable {X : Nat → Prop} {w w' : World} {mb tb gb lm N vb db kb n off top : Nat} {q : Int} {la : Option Addr} {lc : Nat} {A : Bs → StA} {S : SysD}
def staleF (m : RefD) (p : Bs) (i : Int) : Bool := match entM m p with
 | none => true
 | some e => e.id != i
def staleL (m : RefD) : List Bs → List Int → Bool
 | [], _ => false
 | _ :: _, [] => false
 | s :: l, i :: r => staleF m s i || staleL m l r
def ofM (S : SysD) (n : Bs) : Bool := match getP S.P (stM S.M n).pid with
 | none => false
 | some p => staleL S.F.m (stM S.M n).files p.maps
theorem need_Stale (hE : Env w) {Y : Nat → Prop} {F : FileS} {P : TabD} (h : SysP Y w tb vb db kb n N off top q F P) (hN : N ≤ 1000000000) (p : Bs) (i : Int) :
 Calls Tryz.prog 82 #[.pointer (some ⟨vb, 0, none⟩), .string (bs p), .int .i64 i] w fun e w' => e = .returned (.bool (staleF F.m p i)) ∧ Ext w w' := by
 obtain ⟨R, hR⟩ : ∃ R : Ending → World → Prop, R = fun e w' => e = .returned (.bool (staleF F.m p i)) ∧ Ext w w' := ⟨_, rfl⟩
 rw [← hR]
 have HR := Lib.hid hR; clear hR
 obtain ⟨rb, c0, hf⟩ := sys_find hE h hN
 have hfd := hf p
 have hst : staleF F.m p i = match entM F.m p with | none => true | some e => e.id != i := rfl
 have hid : idF F.m p = match entM F.m p with | none => 0 | some e => e.id := rfl
 clear hf h
 cases he : entM F.m p with
 | none =>
   rw [he] at hst hid hfd
   dsimp only at hst hid
   rw [hid] at hfd
   have HF := Lib.hid hfd; have HST := Lib.hid hst
   clear hfd hst hid he
   go_enter Tryz.func82, Tryz.ntmps82
   go_wp2_with (go_at_call 69; refine HF.out.mono ?_; rintro e w1 ⟨rfl, hx1⟩; have HX := Lib.hid hx1; clear hx1)
   rw [HR.out, HST.out]
   exact ⟨rfl, HX.out⟩
 | some en =>
   rw [he] at hst hid hfd
   dsimp only at hst hid
   rw [hid] at hfd
   have HF := Lib.hid hfd; have HST := Lib.hid hst
   clear hfd hst hid he
   go_enter Tryz.func82, Tryz.ntmps82
   go_wp2_with (go_at_call 69; refine HF.out.mono ?_; rintro e w1 ⟨rfl, hx1⟩; have HX := Lib.hid hx1; clear hx1)
   rw [HR.out, HST.out]
   exact ⟨rfl, HX.out⟩
omit [Low] in
theorem set4p {w : World} {R : Nat} {t : TypeId} {a0 a1 a2 a3 : Value} (hg : w.heap[R]? = some (.cells #[a0, a1, a2, a3] t (0, 0))) (v0 v1 v2 v3 : Value) :
 ((((w.setCell ⟨R, 0, none⟩ v0).setCell ⟨R, 1, none⟩ v1).setCell ⟨R, 2, none⟩ v2).setCell ⟨R, 3, none⟩ v3).heap[R]? = some (.cells #[v0, v1, v2, v3] t (0, 0)) ∧ But R w ((((w.setCell ⟨R, 0, none⟩ v0).setCell ⟨R, 1, none⟩ v1).setCell ⟨R, 2, none⟩ v2).setCell ⟨R, 3, none⟩ v3) :=
 ⟨setCell_row (setCell_row (setCell_row (setCell_row hg v0) v1) v2) v3, ((((But.refl R w).setCell 0 _).setCell 1 _).setCell 2 _).setCell 3 _⟩
def GoEx (w : World) (a : Option Addr) (l : List Int) : Prop := ∃ base c, OwnIs w base a c l ∧ l.length ≤ c
omit [Low] in
theorem GoEx.ext {a : Option Addr} {l : List Int} (h : GoEx w a l) (k : Ext w w') : GoEx w' a l := by
 obtain ⟨b, c, h1, h2⟩ := h
 exact ⟨b, c, ownsRow_ext h1 k, h2⟩
omit [Low] in
theorem GoEx.keep {T : Nat → Prop} {a : Option Addr} {l : List Int} (h : GoEx w a l) (k : Keep T w w') (hT : ∀ g cs, w.heap[g]? = some (.cells cs 3 (0, 0)) → T g) : GoEx w' a l := by
 obtain ⟨b, c, h1, h2⟩ := h
 exact ⟨b, c, ownsRow_keep h1 k fun g cs _ _ hg => hT g cs hg, h2⟩
set_option maxRecDepth 100000 in
set_option maxHeartbeats 12800000 in
theorem need_Of (hE : Env w) (h : SysB X w mb tb vb gb db kb n N off top q lm la lc A S) (hN : N ≤ 1000000) (m : Bs) (hn : m.length ≤ 100000) (hfl : (stM S.M m).files.length ≤ 1000) (hpid : 0 ≤ (stM S.M m).pid ∧ (stM S.M m).pid ≤ 1000000) :
 Calls Tryz.prog 31 #[.pointer (some ⟨vb, 0, none⟩), .pointer (some ⟨mb, 0, none⟩), .string (bs m)] w fun e w' => e = .returned (.bool (ofM S m)) ∧ Ext w w' := by
 obtain ⟨R, hR⟩ : ∃ R : Ending → World → Prop, R = fun e w' => e = .returned (.bool (ofM S m)) ∧ Ext w w' := ⟨_, rfl⟩
 rw [← hR]
 have HR := Lib.hid hR; clear hR
 obtain ⟨pid, hp⟩ : ∃ x, x = (stM S.M m).pid := ⟨_, rfl⟩
 have HPID := Lib.hid fun W (k : Ext w W) => mgr_Pid (h.1.ext k) m hn
 rw [← hp] at HPID hpid
 obtain ⟨ok, gp, gu, gm, ge, hgl, hof, hget⟩ : ∃ (ok : Bool) (gp : Int) (gu : Bs) (gm : List Int) (ge : Bool), gm.length ≤ 8 ∧ ofM S m = (ok && staleL S.F.m (stM S.M m).files gm) ∧ ∀ W, Ext w W → Calls Tryz.prog 68 #[.pointer (some ⟨tb, 0, none⟩), .int .i64 pid] W fun e w' => ∃ ga gc, e = .returned (.tuple #[.agg #[.int .i64 gp, .string (bs gu), .slice ga gm.length gc, .bool ge], .bool ok]) ∧ GoEx w' ga gm ∧ Ext W w' := by
  cases hg : getP S.P pid with
  | none =>
    refine ⟨false, 0, [], [], false, Nat.zero_le _, ?_, fun W k => ?_⟩
    · unfold ofM; rw [← hp, hg]; rfl
    · refine (proc_Get (h.2.ext k) pid (by omega) (by omega)).mono ?_
      rintro e w' ⟨h1, h2⟩
      rw [hg] at h1
      exact ⟨none, 0, h1, ⟨0, 0, OwnIs.none _ _, Nat.le_refl _⟩, h2⟩
  | some p =>
    refine ⟨true, p.pid, p.unit, p.maps, p.ending, h.next.1.maps p (getP_some hg).1, ?_, fun W k => ?_⟩
    · unfold ofM; rw [← hp, hg]; rfl
    · refine (proc_Get (h.2.ext k) pid (by omega) (by omega)).mono ?_
      rintro e w' ⟨h1, h2⟩
      rw [hg] at h1
      obtain ⟨a, c, h1, h3⟩ := h1
      obtain ⟨a', c', hv, hc, _, _⟩ := run_of_row h3
      obtain ⟨e1, _, e2⟩ := Value.slice.inj hv
      subst e1 e2
      exact ⟨a, c, h1, ⟨_, c, h3, hc⟩, h2⟩
 have HHAS := Lib.hid fun W (k : Ext w W) => mgr_Has (h.1.ext k) m hn (by omega)
 have HST := Lib.hid fun W (k : Ext w W) (s : Bs) (i : Int) => need_Stale (hE.ext k) (h.2.ext k) (by omega) s i
 obtain ⟨fs, hfs⟩ : ∃ fs, fs = (stM S.M m).files := ⟨_, rfl⟩
 rw [← hfs] at hof HHAS hfl
 have HGET := Lib.hid hget; have HOFM := Lib.hid hof; have HH := Lib.hid h; have HGL := Lib.hid hgl
 clear hget hof hp hfs h hE
 go_enter Tryz.func31, Tryz.ntmps31
 go_upto_region 1 with fail
 obtain ⟨w0, hw0⟩ : ∃ x : World, x = w := ⟨_, rfl⟩
 have hcs : ∀ W, Ext w0 W → W.cell? ⟨mb, 0, none⟩ = some (.pointer (some ⟨tb, 0, none⟩)) := fun W k => by subst hw0; exact blk_cell (k.heap HH.out.1.top) 0 _ rfl
 have HCS := Lib.hid hcs
 subst hw0
 clear hcs
 have HK := Lib.hid ((Ext.refl w0).drew)
 refine wp_region_noPanic ?_
 refine wp_region_held_drew (S := (fun W => W.cell? ⟨mb, 0, none⟩ = some (.pointer (some ⟨tb, 0, none⟩)))) (by kernel_rfl) (HCS.out _ HK.out) (fun hHeld => ?_)
 clear hHeld
 generalize w0.drew = wc at HK ⊢
 refine wpAnyH_take (i := 0) (v := ?_) rfl (by kernel_rfl) (by kernel_rfl) (by kernel_rfl) (fun _ _ _ h => h) (Or.inl ⟨by kernel_rfl, ?_⟩) (HCS.out _ HK.out) ?_
 rotate_left
 · (intro wq _; first | (go_simp; done) | (go_simp; with_reducible rfl))
 try simp only [List.getElem_toArray, List.getElem_cons_zero, Act.put, List.setIfInBounds_toArray, List.set_cons_zero, List.set_cons_succ]
 refine wpAnyH_take (i := 1) (v := ?_) rfl (by kernel_rfl) (by kernel_rfl) (by kernel_rfl) (fun _ _ _ h => h) (Or.inl ⟨by kernel_rfl, ?_⟩) (HCS.out _ HK.out) ?_
 rotate_left
 · (intro wq _; first | (go_simp; done) | (go_simp; with_reducible rfl))
 try simp only [List.getElem_toArray, List.getElem_cons_zero, List.getElem_cons_succ, Act.put, List.setIfInBounds_toArray, List.set_cons_zero, List.set_cons_succ]
 refine wpAnyH_take (i := 2) (v := ?_) rfl (by kernel_rfl) (by kernel_rfl) (by kernel_rfl) (fun _ _ _ h => h) (Or.inl ⟨by kernel_rfl, ?_⟩) (HCS.out _ HK.out) ?_
 rotate_left
 · (intro wq _; first | (go_simp; done) | (go_simp; with_reducible rfl))
 try simp only [List.getElem_toArray, List.getElem_cons_zero, List.getElem_cons_succ, Act.put, List.setIfInBounds_toArray, List.set_cons_zero, List.set_cons_succ]
 refine wpAnyH_take (i := 3) (v := ?_) rfl (by kernel_rfl) (by kernel_rfl) (by kernel_rfl) (fun _ _ _ h => h) (Or.inl ⟨by kernel_rfl, ?_⟩) (HCS.out _ HK.out) ?_
 rotate_left
 · (intro wq hSw; (try dsimp only at hSw); first | (go_simp; done) | (go_simp; with_reducible rfl))
 try simp only [List.getElem_toArray, List.getElem_cons_zero, List.getElem_cons_succ, Act.put, List.setIfInBounds_toArray, List.set_cons_zero, List.set_cons_succ]
 refine wpAnyH_take (i := 4) (v := ?_) rfl (by kernel_rfl) (by kernel_rfl) (by kernel_rfl) (fun _ _ _ h => h) (Or.inl ⟨by kernel_rfl, ?_⟩) (HCS.out _ HK.out) ?_
 rotate_left
 · (intro wq _; first | (go_simp; done) | (go_simp; with_reducible rfl))
 try simp only [List.getElem_toArray, List.getElem_cons_zero, List.getElem_cons_succ, Act.put, List.setIfInBounds_toArray, List.set_cons_zero, List.set_cons_succ]
 refine wpAnyH_take (i := 5) (v := ?_) rfl (by kernel_rfl) (by kernel_rfl) (by kernel_rfl) (fun _ _ _ h => h) (Or.inl ⟨by kernel_rfl, ?_⟩) (HCS.out _ HK.out) ?_
 rotate_left
 · (intro wq _; first | (go_simp; done) | (go_simp; with_reducible rfl))
 try simp only [List.getElem_toArray, List.getElem_cons_zero, List.getElem_cons_succ, Act.put, List.setIfInBounds_toArray, List.set_cons_zero, List.set_cons_succ]
 all_goals (
  first
   | refine wpAnyH_ready (rs := [6, 11]) (by decide +kernel) (by simp) ?_
  repeat' (first | exact AllReadyH.nil | (refine AllReadyH.cons rfl (fun K hK => ?_) ?_)))
 all_goals (
  first
   | (go_simp
      first
       | (go_at_call 52
          refine (HPID.out _ HK.out).mono ?_
          rintro E wn ⟨rfl, hx⟩
          have hx2 := hx
          replace HK := Lib.hid (HK.out.trans hx)
          clear hx
          go_wp2_with fail
          refine hK.out _ _ (HCS.out _ HK.out) (fun _ => ?_)
          clear hK K
          try replace HZ := Lib.hid (hx2.heap HZ.out)
          try clear hx2
          obtain ⟨wc, rfl⟩ : ∃ x : World, x = wn := ⟨_, rfl⟩
          try simp only [List.getElem_toArray, List.getElem_cons_zero, List.getElem_cons_succ, Act.put, List.setIfInBounds_toArray, List.set_cons_zero, List.set_cons_succ])
       | (have hx := Ext.alloc wc (.cells #[.int .i64 0, .string ⟨#[]⟩, .slice none 0 0, .bool false] 128)
          have hbn := heap_alloc_new wc (.cells #[.int .i64 0, .string ⟨#[]⟩, .slice none 0 0, .bool false] 128)
          have hle := HK.out.size
          refine hK.out _ (wc.alloc (.cells #[.int .i64 0, .string ⟨#[]⟩, .slice none 0 0, .bool false] 128)) (HCS.out _ (HK.out.trans hx)) (fun _ => ?_)
          clear hK K
          replace HK := Lib.hid (HK.out.trans hx)
          try replace HGO := Lib.hid (GoEx.ext HGO.out hx)
          obtain ⟨B7, hG⟩ : ∃ x, x = wc.heap.size := ⟨_, rfl⟩
          rw [← hG] at hbn hle ⊢
          have HZ := Lib.hid hbn
          have LHZ := Lib.hid hle
          clear hbn hG hle hx
          generalize wc.alloc (.cells #[.int .i64 0, .string ⟨#[]⟩, .slice none 0 0, .bool false] 128) = wc at *
          try simp only [List.getElem_toArray, List.getElem_cons_zero, List.getElem_cons_succ, Act.put, List.setIfInBounds_toArray, List.set_cons_zero, List.set_cons_succ])))
 all_goals (
  first
   | refine wpAnyH_ready (rs := [7, 11]) (by decide +kernel) (by simp) ?_
   | refine wpAnyH_ready (rs := [6]) (by decide +kernel) (by simp) ?_
  repeat' (first | exact AllReadyH.nil | (refine AllReadyH.cons rfl (fun K hK => ?_) ?_)))
 all_goals (
  first
   | (go_simp
      first
       | (go_at_call 52
          refine (HPID.out _ HK.out).mono ?_
          rintro E wn ⟨rfl, hx⟩
          have hx2 := hx
          replace HK := Lib.hid (HK.out.trans hx)
          clear hx
          go_wp2_with fail
          refine hK.out _ _ (HCS.out _ HK.out) (fun _ => ?_)
          clear hK K
          try replace HZ := Lib.hid (hx2.heap HZ.out)
          try clear hx2
          obtain ⟨wc, rfl⟩ : ∃ x : World, x = wn := ⟨_, rfl⟩
          try simp only [List.getElem_toArray, List.getElem_cons_zero, List.getElem_cons_succ, Act.put, List.setIfInBounds_toArray, List.set_cons_zero, List.set_cons_succ])
       | (go_at_call 68
          refine (HGET.out _ HK.out).mono ?_
          rintro E wn ⟨ga, gc, rfl, hg, hx⟩
          have HGO := Lib.hid hg
          clear hg
          have hx2 := hx
          replace HK := Lib.hid (HK.out.trans hx)
          clear hx
          go_wp2_with fail
          refine hK.out _ _ (HCS.out _ HK.out) (fun _ => ?_)
          clear hK K
          try replace HZ := Lib.hid (hx2.heap HZ.out)
          try clear hx2
          obtain ⟨wc, rfl⟩ : ∃ x : World, x = wn := ⟨_, rfl⟩
          try simp only [List.getElem_toArray, List.getElem_cons_zero, List.getElem_cons_succ, Act.put, List.setIfInBounds_toArray, List.set_cons_zero, List.set_cons_succ]
          refine wpAnyH_take (i := 8) (v := ?_) rfl (by kernel_rfl) (by kernel_rfl) (by kernel_rfl) (fun _ _ _ h => h) (Or.inl ⟨by kernel_rfl, ?_⟩) (HCS.out _ HK.out) ?_
          rotate_left
          · (intro wq _; first | (go_simp; done) | (go_simp; with_reducible rfl))
          try simp only [List.getElem_toArray, List.getElem_cons_zero, List.getElem_cons_succ, Act.put, List.setIfInBounds_toArray, List.set_cons_zero, List.set_cons_succ]
          refine wpAnyH_take (i := 9) (v := ?_) rfl (by kernel_rfl) (by kernel_rfl) (by kernel_rfl) (fun _ _ _ h => h) (Or.inl ⟨by kernel_rfl, ?_⟩) (HCS.out _ HK.out) ?_
          rotate_left
          · (intro wq _; first | (go_simp; done) | (go_simp; with_reducible rfl))
          try simp only [List.getElem_toArray, List.getElem_cons_zero, List.getElem_cons_succ, Act.put, List.setIfInBounds_toArray, List.set_cons_zero, List.set_cons_succ]
          refine wpAnyH_take (i := 10) (v := ?_) rfl (by kernel_rfl) (by kernel_rfl) (by kernel_rfl) (fun _ _ _ h => h) (Or.inl ⟨by kernel_rfl, ?_⟩) (HCS.out _ HK.out) ?_
          rotate_left
          · (intro wq _; first | (go_simp; done) | (go_simp; with_reducible rfl))
          try simp only [List.getElem_toArray, List.getElem_cons_zero, List.getElem_cons_succ, Act.put, List.setIfInBounds_toArray, List.set_cons_zero, List.set_cons_succ])
       | (have hx := Ext.alloc wc (.cells #[.int .i64 0, .string ⟨#[]⟩, .slice none 0 0, .bool false] 128)
          have hbn := heap_alloc_new wc (.cells #[.int .i64 0, .string ⟨#[]⟩, .slice none 0 0, .bool false] 128)
          have hle := HK.out.size
          refine hK.out _ (wc.alloc (.cells #[.int .i64 0, .string ⟨#[]⟩, .slice none 0 0, .bool false] 128)) (HCS.out _ (HK.out.trans hx)) (fun _ => ?_)
          clear hK K
          replace HK := Lib.hid (HK.out.trans hx)
          try replace HGO := Lib.hid (GoEx.ext HGO.out hx)
          obtain ⟨B7, hG⟩ : ∃ x, x = wc.heap.size := ⟨_, rfl⟩
          rw [← hG] at hbn hle ⊢
          have HZ := Lib.hid hbn
          have LHZ := Lib.hid hle
          clear hbn hG hle hx
          generalize wc.alloc (.cells #[.int .i64 0, .string ⟨#[]⟩, .slice none 0 0, .bool false] 128) = wc at *
          try simp only [List.getElem_toArray, List.getElem_cons_zero, List.getElem_cons_succ, Act.put, List.setIfInBounds_toArray, List.set_cons_zero, List.set_cons_succ])))
 all_goals (
  first
   | refine wpAnyH_ready (rs := [11]) (by decide +kernel) (by simp) ?_
   | refine wpAnyH_ready (rs := [7]) (by decide +kernel) (by simp) ?_
  repeat' (first | exact AllReadyH.nil | (refine AllReadyH.cons rfl (fun K hK => ?_) ?_)))
 all_goals (
  first
   | (go_simp
      first
       | (go_at_call 68
          refine (HGET.out _ HK.out).mono ?_
          rintro E wn ⟨ga, gc, rfl, hg, hx⟩
          have HGO := Lib.hid hg
          clear hg
          have hx2 := hx
          replace HK := Lib.hid (HK.out.trans hx)
          clear hx
          go_wp2_with fail
          refine hK.out _ _ (HCS.out _ HK.out) (fun _ => ?_)
          clear hK K
          try replace HZ := Lib.hid (hx2.heap HZ.out)
          try clear hx2
          obtain ⟨wc, rfl⟩ : ∃ x : World, x = wn := ⟨_, rfl⟩
          try simp only [List.getElem_toArray, List.getElem_cons_zero, List.getElem_cons_succ, Act.put, List.setIfInBounds_toArray, List.set_cons_zero, List.set_cons_succ]
          refine wpAnyH_take (i := 8) (v := ?_) rfl (by kernel_rfl) (by kernel_rfl) (by kernel_rfl) (fun _ _ _ h => h) (Or.inl ⟨by kernel_rfl, ?_⟩) (HCS.out _ HK.out) ?_
          rotate_left
          · (intro wq _; first | (go_simp; done) | (go_simp; with_reducible rfl))
          try simp only [List.getElem_toArray, List.getElem_cons_zero, List.getElem_cons_succ, Act.put, List.setIfInBounds_toArray, List.set_cons_zero, List.set_cons_succ]
          refine wpAnyH_take (i := 9) (v := ?_) rfl (by kernel_rfl) (by kernel_rfl) (by kernel_rfl) (fun _ _ _ h => h) (Or.inl ⟨by kernel_rfl, ?_⟩) (HCS.out _ HK.out) ?_
          rotate_left
          · (intro wq _; first | (go_simp; done) | (go_simp; with_reducible rfl))
          try simp only [List.getElem_toArray, List.getElem_cons_zero, List.getElem_cons_succ, Act.put, List.setIfInBounds_toArray, List.set_cons_zero, List.set_cons_succ]
          refine wpAnyH_take (i := 10) (v := ?_) rfl (by kernel_rfl) (by kernel_rfl) (by kernel_rfl) (fun _ _ _ h => h) (Or.inl ⟨by kernel_rfl, ?_⟩) (HCS.out _ HK.out) ?_
          rotate_left
          · (intro wq _; first | (go_simp; done) | (go_simp; with_reducible rfl))
          try simp only [List.getElem_toArray, List.getElem_cons_zero, List.getElem_cons_succ, Act.put, List.setIfInBounds_toArray, List.set_cons_zero, List.set_cons_succ])
       | (have hx := Ext.alloc wc (.cells #[.int .i64 0, .string ⟨#[]⟩, .slice none 0 0, .bool false] 128)
          have hbn := heap_alloc_new wc (.cells #[.int .i64 0, .string ⟨#[]⟩, .slice none 0 0, .bool false] 128)
          have hle := HK.out.size
          refine hK.out _ (wc.alloc (.cells #[.int .i64 0, .string ⟨#[]⟩, .slice none 0 0, .bool false] 128)) (HCS.out _ (HK.out.trans hx)) (fun _ => ?_)
          clear hK K
          replace HK := Lib.hid (HK.out.trans hx)
          try replace HGO := Lib.hid (GoEx.ext HGO.out hx)
          obtain ⟨B7, hG⟩ : ∃ x, x = wc.heap.size := ⟨_, rfl⟩
          rw [← hG] at hbn hle ⊢
          have HZ := Lib.hid hbn
          have LHZ := Lib.hid hle
          clear hbn hG hle hx
          generalize wc.alloc (.cells #[.int .i64 0, .string ⟨#[]⟩, .slice none 0 0, .bool false] 128) = wc at *
          try simp only [List.getElem_toArray, List.getElem_cons_zero, List.getElem_cons_succ, Act.put, List.setIfInBounds_toArray, List.set_cons_zero, List.set_cons_succ])))
 all_goals (
  refine wpAnyH_ready (rs := [12]) (by kernel_rfl) (by simp) ?_
  refine AllReadyH.cons rfl (fun K hK => ?_) AllReadyH.nil
  have d0 := blk_cell HZ.out 0 _ rfl
  have d1 := blk_cell HZ.out 1 _ rfl
  have d2 := blk_cell HZ.out 2 _ rfl
  have d3 := blk_cell HZ.out 3 _ rfl
  have fd0 := blk_free HZ.out 0
  have fd1 := blk_free HZ.out 1
  have fd2 := blk_free HZ.out 2
  have fd3 := blk_free HZ.out 3
  go_simp
  obtain ⟨hs4, hbut⟩ := set4p HZ.out (.int .i64 gp) (.string (bs gu)) (.slice ga gm.length gc) (.bool ge)
  generalize ((((wc.setCell ⟨B7, 0, none⟩ (.int .i64 gp)).setCell ⟨B7, 1, none⟩ (.string (bs gu))).setCell ⟨B7, 2, none⟩ (.slice ga gm.length gc)).setCell ⟨B7, 3, none⟩ (.bool ge)) = wf at hs4 hbut ⊢
  have hkb := Keep.of_but hbut
  have hxf : Ext w0 wf := ((Keep.of_ext (S := (· < w0.heap.size)) HK.out).trans (hkb.mono fun g _ hg => by have hg : g < w0.heap.size := hg; show g ≠ B7; have := LHZ.out; omega)).ext_lt
  have hgo := GoEx.keep HGO.out hkb (fun g cs hg => apart_types hg HZ.out (by decide))
  refine hK.out _ _ (HCS.out _ hxf) (fun _ => ?_)
  have HS4 := Lib.hid hs4
  replace HGO := Lib.hid hgo
  replace HK := Lib.hid hxf
  clear hK K hbut hs4 hkb hxf hgo HZ d0 fd0 d1 fd1 d2 fd2 d3 fd3
  rename_i wo
  try clear wo
  obtain ⟨wc, rfl⟩ : ∃ x : World, x = wf := ⟨_, rfl⟩
  try simp only [List.getElem_toArray, List.getElem_cons_zero, List.getElem_cons_succ, Act.put, List.setIfInBounds_toArray, List.set_cons_zero, List.set_cons_succ]
  refine wpAnyH_take (i := 13) (v := ?_) rfl (by kernel_rfl) (by kernel_rfl) (by kernel_rfl) (fun _ _ _ h => h) (Or.inl ⟨by kernel_rfl, ?_⟩) (HCS.out _ HK.out) ?_
  rotate_left
  · (intro wq _; first | (go_simp; done) | (go_simp; with_reducible rfl))
  try simp only [List.getElem_toArray, List.getElem_cons_zero, List.getElem_cons_succ, Act.put, List.setIfInBounds_toArray, List.set_cons_zero, List.set_cons_succ])
 all_goals (
  refine wpAnyH_done (by kernel_rfl) ?_ _
  refine NoPanic.normal ?_
  cases ok with
  | false =>
    have hof := HOFM.out
    rw [Bool.false_and] at hof
    have HOF := Lib.hid hof; clear hof
    go_wp2_with fail
    rw [HR.out, HOF.out]
    exact ⟨rfl, HK.out⟩
  | true =>
    have hof := HOFM.out
    rw [Bool.true_and] at hof
    have HOF := Lib.hid hof; clear hof
    obtain ⟨w3, rfl⟩ : ∃ x : World, x = wc := ⟨_, rfl⟩
    go_wp2_with (go_at_call 59; refine (HHAS.out _ HK.out).mono ?_; rintro e w4 ⟨ha, hc, rfl, hO, hcc, hx4⟩; have HO := Lib.hid hO; have HX4 := Lib.hid (HK.out.trans hx4); have HS5 := Lib.hid (hx4.heap HS4.out); have HG5 := Lib.hid (HGO.out.ext hx4); clear hO hcc hx4)
    clear HK HS4 HGO
    go_loopw [28] (fun i wr => ∃ k : Nat, i = .int .i64 k ∧ k ≤ fs.length ∧ Hid (staleL S.F.m fs gm = staleL S.F.m (fs.drop k) (gm.drop k)) ∧ Hid (Ext w4 wr)) (fun i _ => fs.length - (intOf i).toNat)
    case atStart => exact ⟨0, rfl, Nat.zero_le _, Lib.hid rfl, Lib.hid (Ext.refl _)⟩
    case round =>
     obtain ⟨k, rfl, hk, hsl, hx⟩ := hrel
     by_cases hlt : k < fs.length
     · obtain ⟨hg, rfl, _, _, _, _, hcell⟩ := HO.out.cells (fun e => by rw [e] at hlt; simp at hlt)
       have q0 := hx.out.cell (hcell k hlt)
       obtain ⟨s, hs⟩ : ∃ s, s = fs.getD k [] := ⟨_, rfl⟩
       rw [← hs] at q0
       have hfd : fs.drop k = s :: fs.drop (k + 1) := by
        rw [← List.getElem_cons_drop hlt, hs]
        simp [List.getD_eq_getElem?_getD, List.getElem?_eq_getElem hlt]
       have d2 := blk_cell (hx.out.heap HS5.out) 2 (.slice ga gm.length gc) rfl
       have hgl := HGL.out
       have HFD := Lib.hid hfd
       clear hcell hs hfd
       by_cases hm : k < gm.length
       · obtain ⟨base, cc, hgo, hgc⟩ := HG5.out
         obtain ⟨pg, hga, _, hpc⟩ := hgo.at hm
         have q1 := hx.out.cell hpc
         subst hga
         obtain ⟨i, hi⟩ : ∃ i, i = gm[k] := ⟨_, rfl⟩
         rw [← hi] at q1
         have hgd : gm.drop k = i :: gm.drop (k + 1) := by rw [← List.getElem_cons_drop hm, hi]
         have hsl2 := hsl.out
         rw [HFD.out, hgd] at hsl2
         have hsl3 : staleL S.F.m fs gm = (staleF S.F.m s i || staleL S.F.m (fs.drop (k + 1)) (gm.drop (k + 1))) := hsl2
         have HC := HST.out wr (HX4.out.trans hx.out) s i
         have hdk : decide ((k : Int) < (gm.length : Int)) = true := decide_eq_true (by omega)
         cases hb : staleF S.F.m s i with
         | true =>
           rw [hb] at HC hsl3
           have HSL := Lib.hid hsl3; have HC := Lib.hid HC
           clear hsl3 hsl2 hgd hi hgo hpc hb
           go_wp2_with (go_at_call 82; refine HC.out.mono ?_; rintro e w5 ⟨rfl, hx5⟩; have HX5 := Lib.hid hx5; clear hx5)
           rw [HR.out, HOF.out, HSL.out]
           exact ⟨rfl, (HX4.out.trans hx.out).trans HX5.out⟩
         | false =>
           rw [hb] at HC hsl3
           rw [Bool.false_or] at hsl3
           have HSL := Lib.hid hsl3; have HC := Lib.hid HC
           clear hsl3 hsl2 hgd hi hgo hpc hb
           go_wp2_with (go_at_call 82; refine HC.out.mono ?_; rintro e w5 ⟨rfl, hx5⟩; have HX5 := Lib.hid hx5; clear hx5)
           go_roundw
           case rel => exact ⟨k + 1, by go_num, by omega, HSL, Lib.hid (hx.out.trans HX5.out)⟩
           case measure => simp [intOf]; omega
       · have hdk : decide ((k : Int) < (gm.length : Int)) = false := decide_eq_false (by omega)
         have hsl3 : staleL S.F.m fs gm = staleL S.F.m (fs.drop (k + 1)) (gm.drop (k + 1)) := by
          have hg1 : gm.drop k = [] := List.drop_of_length_le (by omega)
          have hg2 : gm.drop (k + 1) = [] := List.drop_of_length_le (by omega)
          rw [hsl.out, HFD.out, hg1, hg2]
          show false = _
          cases fs.drop (k + 1) <;> rfl
         have HSL := Lib.hid hsl3
         clear hsl3
         go_wp2_with fail
         go_roundw
         case rel => exact ⟨k + 1, by go_num, by omega, HSL, hx⟩
         case measure => simp [intOf]; omega
     · have hkk : k = fs.length := by omega
       have hsl2 := hsl.out
       rw [hkk, List.drop_length] at hsl2
       have hsl3 : staleL S.F.m fs gm = false := hsl2
       have HSL := Lib.hid hsl3
       clear hsl2 hsl3 hkk
       go_wp2_with fail
       rw [HR.out, HOF.out, HSL.out]
       exact ⟨rfl, HX4.out.trans hx.out⟩)
end
end Go.Proofs.YtefpllpichhojaaGreatDoor
