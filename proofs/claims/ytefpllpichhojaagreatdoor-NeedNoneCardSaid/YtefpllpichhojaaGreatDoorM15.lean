/- Several texts of mine, one behind the other: NeedRun, Alive17. -/
import Derived.Test.YtefpllpichhojaaGreatDoorM2
import Derived.Test.YtefpllpichhojaaGreatDoorOpen17
namespace Go.Proofs.YtefpllpichhojaaGreatDoor
open Go.RowKit
variable [Low]
structure Run17 (Y : Nat → Prop) (w : World) (mb tb vb gb db kb lm N off : Nat) (S : SysD) : Prop where
 env : EnvL w
 low : Low.low ≤ w.heap.size
 sys : ∃ la lc A, SysB Y w mb tb vb gb db kb 800 N off 1 3000 lm la lc A S
 graph : GraphM Y w gb 100000 graph17
 log : S.M.log.length ≤ N
 files : ∀ z s, S.M.list z = some s → s.files.length ≤ 3
 dom : ∀ z, S.M.list z ≠ none → z ∈ all17
section
variable {Y : Nat → Prop} {w w' : World} {mb tb vb gb db kb lm N off : Nat} {S : SysD}
theorem Run17.ext (h : Run17 Y w mb tb vb gb db kb lm N off S) (k : Ext w w') : Run17 Y w' mb tb vb gb db kb lm N off S := by
 obtain ⟨la, lc, A, hs⟩ := h.sys
 exact ⟨h.env.ext k, Nat.le_trans h.low k.size, ⟨la, lc, A, hs.ext k⟩, h.graph.ext k, h.log, h.files, h.dom⟩
theorem Run17.mono (h : Run17 Y w mb tb vb gb db kb lm N off S) {M : Nat} (hM : N ≤ M) : Run17 Y w mb tb vb gb db kb lm M off S := by
 obtain ⟨la, lc, A, hs⟩ := h.sys
 exact ⟨h.env, h.low, ⟨la, lc, A, hs.mono hM⟩, h.graph, Nat.le_trans h.log hM, h.files, h.dom⟩
omit [Low] in
theorem all17_len {m : Bs} (h : m ∈ all17) : m.length ≤ 100000 := by
 simp only [all17, List.mem_cons, List.not_mem_nil, or_false] at h
 rcases h with rfl | rfl | rfl | rfl <;> decide
omit [Low] in
theorem small17 : ∀ n u, getU graph17.units n = some u → SmallU u := by
 intro n u h
 have h := (getU_some h).1
 simp only [graph17, units17, List.mem_cons, List.not_mem_nil, or_false] at h
 rcases h with rfl | rfl | rfl | rfl <;> exact small_uD (by decide) (by decide) (by decide)
omit [Low] in
theorem files17 : ∀ u ∈ graph17.units, u.files.length ≤ 3 := by
 intro u h
 simp only [graph17, units17, List.mem_cons, List.not_mem_nil, or_false] at h
 rcases h with rfl | rfl | rfl | rfl <;> decide
theorem run_start (h : Run17 Y w mb tb vb gb db kb lm N off S) (m : Bs) (hm : m ∈ all17) (hN : N ≤ 800000) :
 Calls Tryz.prog 29 #[.pointer (some ⟨mb, 0, none⟩), .string (bs m)] w fun e w' => e = .returned (.int .i64 (startM units17 S m).2) ∧ Run17 Y w' mb tb vb gb db kb lm (N + 30) off (startM units17 S m).1 ∧ KeepM Y w w' := by
 obtain ⟨la, lc, A, hs⟩ := h.sys
 have hl := h.log
 refine (mgr_StartB h.env hs h.graph small17 m (all17_len hm) (by omega) h.low (by omega)).mono ?_
 rintro e w' ⟨he, la', lc', A', hs', hk⟩
 refine ⟨he, ⟨h.env.keepM hk, Nat.le_trans h.low (Keep.size hk), ⟨la', lc', A', hs'⟩, h.graph.keepM hk (fun _ h => h), ?_, startM_files _ _ _ 3 files17 h.files, fun z hz => ?_⟩, hk⟩
 · have := startM_log units17 S m
   show (startM units17 S m).1.M.log.length ≤ _
   omega
 · by_cases e : z = m
   · rw [e]; exact hm
   · rw [startM_list _ _ _ _ e] at hz
     exact h.dom z hz
theorem run_of (h : Run17 Y w mb tb vb gb db kb lm N off S) (m : Bs) (hm : m.length ≤ 100000) (hN : N ≤ 800000) :
 Calls Tryz.prog 31 #[.pointer (some ⟨vb, 0, none⟩), .pointer (some ⟨mb, 0, none⟩), .string (bs m)] w fun e w' => e = .returned (.bool (ofM S m)) ∧ Ext w w' := by
 obtain ⟨la, lc, A, hs⟩ := h.sys
 obtain ⟨h1, h2⟩ := hs.ofOk (by omega) (fun z s hz => Nat.le_trans (h.files z s hz) (by decide)) m
 exact need_Of h.env.env hs (by omega) m hm h1 h2
theorem run_hit (h : Run17 Y w mb tb vb gb db kb lm N off S) (hN : N ≤ 800000) :
 Calls Tryz.prog 30 #[.pointer (some ⟨vb, 0, none⟩), .pointer (some ⟨mb, 0, none⟩)] w fun e w' => ∃ ss, OnesM S.M ss ∧ NamesG (hitL S ss) w e w' := by
 obtain ⟨la, lc, A, hs⟩ := h.sys
 exact need_Hit h.env.env hs (by omega) (fun z s hz => Nat.le_trans (h.files z s hz) (by decide)) fun ss h1 => Nat.le_trans (ones_few h.dom h1).1 (by decide)
theorem run_do (h : Run17 Y w mb tb vb gb db kb lm N off S) {a : Option Addr} {c : Nat} {L : List (OpD × OpA)} (hL : OpsL w a L) {ops : List OpD} (hm : L.map Prod.fst = ops) {k : Nat} (hk : L.length = k) (hok : (doM S.F.m ops).2 = 0) (hfo : ∀ o ∈ ops, FitOp o) (hpk : (packOps ops).length ≤ 4095) {off' : Nat} (hoff : off + secN ((packOps ops).length + 1) = off') (hroom : off' ≤ halfN 800) {N' : Nat} (hN' : N + 2 * k ≤ N') (hN : N' ≤ 1000000000) :
 Calls Tryz.prog 24 #[.pointer (some ⟨vb, 0, none⟩), .slice a k c] w fun e w' => e = .returned (.int .i64 0) ∧ Run17 Y w' mb tb vb gb db kb lm N' off' (doS S ops) ∧ KeepM Y w w' := by
 obtain ⟨la, lc, A, hs⟩ := h.sys
 refine (sys_DoB h.env hs (c := c) hL hm hk (m' := (doM S.F.m ops).1) (m2 := sweepF (doM S.F.m ops).1 S.F.hd) (by rw [← hok]) (sweepM_eq _ _) hfo hpk hoff hroom (by decide) hN' hN).mono ?_
 rintro e w' ⟨he, hs', hk⟩
 exact ⟨he, ⟨h.env.keepM hk, Nat.le_trans h.low (Keep.size hk), ⟨la, lc, A, hs'⟩, h.graph.keepM hk (fun _ h => h), Nat.le_trans h.log (by omega), h.files, h.dom⟩, hk⟩
theorem run_stale (h : Run17 Y w mb tb vb gb db kb lm N off S) (hN : N ≤ 800000) (p : Bs) (i : Int) :
 Calls Tryz.prog 82 #[.pointer (some ⟨vb, 0, none⟩), .string (bs p), .int .i64 i] w fun e w' => e = .returned (.bool (staleF S.F.m p i)) ∧ Ext w w' := by
 obtain ⟨la, lc, A, hs⟩ := h.sys
 exact need_Stale h.env.env hs.2 (by omega) p i
end
def opsN : List OpD := [⟨2, [47, 110, 101, 119], [], []⟩, ⟨5, [47, 110, 101, 119], [47, 99], []⟩]
def ex1 : SysD := (startM units17 s17 [117]).1
def ex2 : SysD := (startM units17 ex1 [118]).1
def ex3 : SysD := doS ex2 opsN
omit [Low] in
theorem ex_facts : (startM units17 s17 [117]).2 = 0 ∧ (startM units17 ex1 [118]).2 = 0 ∧ (∀ x ∈ all17, ofM ex2 x = false) ∧ (doM ex2.F.m opsN).2 = 0 ∧ (∀ x ∈ all17, ofM ex3 x = decide (x = [118])) ∧ staleF ex3.F.m [47, 99] 4 = true ∧ staleF ex3.F.m [47, 97] 2 = false ∧ (ex3.M.list [118]).isSome = true ∧ inL ex3.M [1, 2, 3] [118] = true := by decide +kernel
omit [Low] in
theorem one_list {α : Type} {L : List α} {a : α} (hn : L.Nodup) (h : ∀ x, x ∈ L ↔ x = a) : L = [a] := by
 cases L with
 | nil => exact absurd ((h a).2 rfl) List.not_mem_nil
 | cons x L =>
   have hx := (h x).1 List.mem_cons_self
   subst hx
   cases L with
   | nil => rfl
   | cons y L =>
     have hy := (h y).1 (by simp)
     rw [hy] at hn
     simp at hn
omit [Low] in
theorem hit_none {S : SysD} (h : ∀ x ∈ all17, ofM S x = false) (hd : ∀ z, S.M.list z ≠ none → z ∈ all17) {ss : List Bs} (hs : OnesM S.M ss) : hitL S ss = [] := by
 unfold hitL
 rw [List.filter_eq_nil_iff]
 intro x hx
 rw [h x ((ones_few hd hs).2 x (List.mem_filter.1 hx).1)]
 decide
omit [Low] in
theorem hit_one {S : SysD} (hd : ∀ z, S.M.list z ≠ none → z ∈ all17) {a : Bs} (h : ∀ x ∈ all17, ofM S x = decide (x = a)) (ha : (S.M.list a).isSome = true) (hi : inL S.M [1, 2, 3] a = true) {ss : List Bs} (hs : OnesM S.M ss) : hitL S ss = [a] := by
 have h17 : ∀ x ∈ ss, x ∈ all17 := (ones_few hd hs).2
 refine one_list ((hs.2.1.filter _).filter _) fun x => ⟨fun hx => ?_, fun hx => ?_⟩
 · unfold hitL at hx
   rw [List.mem_filter, List.mem_filter] at hx
   have := h x (h17 x hx.1.1)
   rw [hx.2] at this
   exact of_decide_eq_true this.symm
 · subst hx
   unfold hitL
   have hm := (hs.2.2 x).2 ha
   rw [List.mem_filter, List.mem_filter]
   exact ⟨⟨hm, hi⟩, by rw [h x (h17 x hm)]; exact decide_eq_true rfl⟩
end Go.Proofs.YtefpllpichhojaaGreatDoor
namespace Go.Proofs.YtefpllpichhojaaGreatDoor
open Go.RowKit
variable [Low]
section
variable {X : Nat → Prop}
omit [Low] in
theorem ops_N (w : World) : let W := w.alloc (.cells #[.int .i64 2, .string ⟨#[47, 110, 101, 119]⟩, .string ⟨#[]⟩, .slice none 0 0, .int .i64 5, .string ⟨#[47, 110, 101, 119]⟩, .string ⟨#[47, 99]⟩, .slice none 0 0] 52); OpsL W (some ⟨w.heap.size, 0, none⟩) ([(⟨2, [47, 110, 101, 119], [], []⟩, ⟨none, 0⟩), (⟨5, [47, 110, 101, 119], [47, 99], []⟩, ⟨none, 0⟩)] : List (OpD × OpA)) :=
 ops_blk (heap_alloc_new w (.cells #[.int .i64 2, .string ⟨#[47, 110, 101, 119]⟩, .string ⟨#[]⟩, .slice none 0 0, .int .i64 5, .string ⟨#[47, 110, 101, 119]⟩, .string ⟨#[47, 99]⟩, .slice none 0 0] 52)) (by
  intro z hz
  simp only [List.mem_cons, List.not_mem_nil, or_false] at hz
  rcases hz with rfl | rfl <;> exact Or.inl rfl)
set_option maxRecDepth 100000 in
set_option maxHeartbeats 12800000 in
theorem alive17 (w : World) (hE : EnvL w) (hlw : Low.low ≤ w.heap.size) (hX : ∀ g, X g → g < w.heap.size) : Calls Tryz.prog 27 #[] w fun e w' => e = .returned (.bool true) ∧ KeepM X w w' := by
 obtain ⟨R, hR⟩ : ∃ R : Ending → World → Prop, R = fun e w' => e = .returned (.bool true) ∧ KeepM X w w' := ⟨_, rfl⟩
 rw [← hR]
 have HR := Lib.hid hR; clear hR
 obtain ⟨f1, f2, f3, f4, f5, f6, f7, f8, f9⟩ := ex_facts
 have HE := Lib.hid hE; have HXS := Lib.hid hX; have HLW := Lib.hid hlw; clear hE hX hlw
 have F1 := Lib.hid f1; have F2 := Lib.hid f2; have F3 := Lib.hid f3; have F4 := Lib.hid f4; have F5 := Lib.hid f5; have F6 := Lib.hid f6; have F7 := Lib.hid f7; have F8 := Lib.hid f8; have F9 := Lib.hid f9
 clear f1 f2 f3 f4 f5 f6 f7 f8 f9
 go_enter Tryz.func27, Tryz.ntmps27
 go_upto_region 2 with (go_at_call 28; refine (open17 w HE.out HLW.out HXS.out).mono ?_; rintro E w1 ⟨vb, mb, gb, tb, db, kb, lm, la, lc, A, Y, rfl, hxy, hs, hg, hk⟩; have HXY := Lib.hid hxy; have H1 : Hid (Run17 Y w1 mb tb vb gb db kb lm 200010 2 s17) := Lib.hid ⟨HE.out.keepM hk, Nat.le_trans HLW.out (Keep.size hk), ⟨la, lc, A, hs⟩, hg, Nat.zero_le _, fun _ _ h => (by cases h), fun _ h => absurd rfl h⟩; have HK := Lib.hid hk; clear hxy hs hg hk)
 go_upto_region 4 with (first
  | (go_at_call 29; refine (run_start H1.out [117] (by decide) (by decide)).mono ?_; rw [F1.out]; rintro E w2 ⟨rfl, h2, hk⟩; have H2 : Hid (Run17 Y w2 mb tb vb gb db kb lm 200040 2 ex1) := Lib.hid h2; replace HK := Lib.hid (HK.out.trans (hk.mono HXY.out)); clear h2 hk H1)
  | (go_at_call 29; refine (run_start H2.out [118] (by decide) (by decide)).mono ?_; rw [F2.out]; rintro E w3 ⟨rfl, h2, hk⟩; have H3 : Hid (Run17 Y w3 mb tb vb gb db kb lm 200070 2 ex2) := Lib.hid h2; replace HK := Lib.hid (HK.out.trans (hk.mono HXY.out)); clear h2 hk H2))
 go_upto_region 5 with (go_at_call 30; refine (run_hit H3.out (by decide)).mono ?_; rintro E w4 ⟨ss, hss, a4, c4, rfl, hO, _, hx⟩; rw [hit_none F3.out H3.out.dom hss]; have H4 := Lib.hid (H3.out.ext hx); replace HK := Lib.hid (HK.out.trans (KeepM.of_ext hx)); clear hO hss hx H3)
 go_upto_region 6 with (go_at_call 24; refine Hid.out ?_)
 refine Lib.hid ?_
 have hxa := Ext.alloc w4 (.cells #[.int .i64 2, .string ⟨#[47, 110, 101, 119]⟩, .string ⟨#[]⟩, .slice none 0 0, .int .i64 5, .string ⟨#[47, 110, 101, 119]⟩, .string ⟨#[47, 99]⟩, .slice none 0 0] 52)
 refine (run_do (H4.out.ext hxa) (c := 2) (ops_N w4) (ops := opsN) rfl (k := 2) rfl F4.out (fit_all (by decide)) (by decide) (off' := 3) (by decide) (by decide) (N' := 200074) (by decide) (by decide)).mono ?_
 rintro E w5 ⟨rfl, h5, hk⟩
 have H5 : Hid (Run17 Y w5 mb tb vb gb db kb lm 200074 3 ex3) := Lib.hid h5
 replace HK := Lib.hid ((HK.out.trans (KeepM.of_ext hxa)).trans (hk.mono HXY.out))
 clear h5 hk hxa H4
 go_upto_region 7 with (go_at_call 30; refine (run_hit H5.out (by decide)).mono ?_; rintro E w6 ⟨ss6, hss, a6, c6, rfl, hO, _, hx⟩; rw [hit_one H5.out.dom F5.out F8.out F9.out hss] at hO ⊢; have H6 := Lib.hid (H5.out.ext hx); replace HK := Lib.hid (HK.out.trans (KeepM.of_ext hx)); have HO := Lib.hid hO; clear hO hss hx H5)
 have hO := HO.out
 obtain ⟨tg, rfl, _, _, _, _, htcell⟩ := hO.cells (fun e => by cases e)
 have q0 : w6.cell? ⟨tg, 0, none⟩ = some (.string ⟨#[118]⟩) := htcell 0 (by decide)
 have HOV := Lib.hid (run_of H6.out [118] (by decide) (by decide))
 clear hO HO htcell
 have e1 : ofM ex3 [118] = true := by rw [F5.out _ (by decide)]; rfl
 have e2 : ofM ex3 [120] = false := by rw [F5.out _ (by decide)]; rfl
 have E1 := Lib.hid e1; have E2 := Lib.hid e2
 clear e1 e2
 go_wp2_with (first
  | (go_at_call 31; refine HOV.out.mono ?_; rw [E1.out]; rintro E w7 ⟨rfl, hx⟩; have H7 := Lib.hid (H6.out.ext hx); have HX7 := Lib.hid hx; clear hx HOV H6)
  | (go_at_call 31; refine (run_of H7.out [120] (by decide) (by decide)).mono ?_; rw [E2.out]; rintro E w8 ⟨rfl, hx⟩; have H8 := Lib.hid (H7.out.ext hx); have HX8 := Lib.hid (HX7.out.trans hx); clear hx H7 HX7)
  | (go_at_call 82; refine (run_stale H8.out (by decide) [47, 99] 4).mono ?_; rw [F6.out]; rintro E w9 ⟨rfl, hx⟩; have H9 := Lib.hid (H8.out.ext hx); have HX9 := Lib.hid (HX8.out.trans hx); clear hx H8 HX8)
  | (go_at_call 82; refine (run_stale H9.out (by decide) [47, 97] 2).mono ?_; rw [F7.out]; rintro E wA ⟨rfl, hx⟩; have HXA := Lib.hid (HX9.out.trans hx); clear hx H9 HX9))
 rw [HR.out]
 exact ⟨rfl, HK.out.trans (KeepM.of_ext HXA.out)⟩
end
end Go.Proofs.YtefpllpichhojaaGreatDoor
