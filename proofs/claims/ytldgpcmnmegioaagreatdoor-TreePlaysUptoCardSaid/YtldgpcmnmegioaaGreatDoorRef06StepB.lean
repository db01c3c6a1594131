/- farrierref06.Step: kd = 1. -/
import Derived.Test.YtldgpcmnmegioaaGreatDoorM4
namespace Go.Proofs.YtldgpcmnmegioaaGreatDoor
open Go.RowKit
attribute [local go_sem ↓] Go.wp_at_zero Go.wp_at_succ
set_option maxRecDepth 100000 in
set_option maxHeartbeats 51200000 in
theorem ref_stepB (m : RefD) (A : RefA) (kd : Int) (pt ds dt : By) (oa : Option Addr) (oc : Nat) (w : World) (hM : RefM w m A) (hB : Bytes w oa dt) (hdl : dt.length ≤ 100000000000) (hl : m.list.length ≤ 1000000000) (hf : m.files.length ≤ 1000000000) (hnx : -1000000000000 ≤ m.next ∧ m.next ≤ 1000000000000) (hp : pt.length ≤ 100000) (hs : ∀ e ∈ m.list, e.path.length ≤ 100000) (hkd : kd = 1) :
    Calls Tryz.prog 9 #[refV m A, .int .i64 kd, .string (bs pt), .string (bs ds), .slice oa dt.length oc] w (RefE (stepM m ⟨kd, pt, ds, dt⟩).1 (stepM m ⟨kd, pt, ds, dt⟩).2 w) := by
  obtain ⟨rr, hrr⟩ : ∃ rr, rr = stepM m ⟨kd, pt, ds, dt⟩ := ⟨_, rfl⟩
  rw [← hrr]
  have HRR := Lib.hid hrr; clear hrr
  obtain ⟨R, hR⟩ : ∃ R, R = RefE rr.1 rr.2 w := ⟨_, rfl⟩
  rw [← hR]
  have HR := Lib.hid hR; clear hR
  have hfl := hM.flen'
  obtain ⟨L, files, nx, q⟩ := m
  obtain ⟨la, lc, fa, fc, F⟩ := A
  unfold refV
  simp only at hl hf hfl hnx hs ⊢
  have hpl := fun d W (k : Ext w W) => ref_place L la lc fa files.length fc nx q d W (hM.ents.ext k) (by omega)
  have hfd := fun d W (k : Ext w W) => ref_find L la lc fa files.length fc nx q d W (hM.ents.ext k) (by omega)
  have HM := Lib.hid hM; clear hM
  have HDT := Lib.hid hB; clear hB
  have HSH := Lib.hid hs; clear hs
  obtain ⟨ln, hln⟩ : ∃ n, n = L.length := ⟨_, rfl⟩
  obtain ⟨n, hn⟩ : ∃ n, n = files.length := ⟨_, rfl⟩
  obtain ⟨dn, hdn⟩ : ∃ n, n = dt.length := ⟨_, rfl⟩
  rw [← hln] at hl hpl hfd ⊢
  rw [← hn] at hf hfl hpl hfd ⊢
  rw [← hdn] at hdl ⊢
  have HLN := Lib.hid hln; clear hln
  have HN := Lib.hid hn; clear hn
  have HDN := Lib.hid hdn; clear hdn
  have HFL := Lib.hid hfl; clear hfl
  have HPL := Lib.hid hpl; clear hpl
  have HFD := Lib.hid hfd; clear hfd
  have hsame : ∀ W, Ext w W → ∀ code, RefE ⟨L, files, nx, q⟩ code w (.returned (.tuple #[.agg #[.slice la ln lc, .slice fa n fc, .int .i64 nx, .int .i64 q], .int .i64 code])) W := fun W k code => ⟨⟨la, lc, fa, fc, F⟩, by rw [HLN.out, HN.out]; rfl, HM.out.ext k, k⟩
  have HSAME := Lib.hid hsame; clear hsame
  go_enter Tryz.func9, Tryz.ntmps9
  go_upto_region 1 with fail
  have hx_w2 : Ext w ((w.alloc (.cells #[.slice la ln lc, .slice fa n fc, .int .i64 nx, .int .i64 q] 30)).alloc (.cells #[.slice none 0 0, .slice none 0 0, .int .i64 0, .int .i64 0] 30)) := ((Ext.alloc _ _).trans (Ext.alloc _ _))
  have hf_B := (Ext.alloc (w.alloc (.cells #[.slice la ln lc, .slice fa n fc, .int .i64 nx, .int .i64 q] 30)) (.cells #[.slice none 0 0, .slice none 0 0, .int .i64 0, .int .i64 0] 30)).heap (heap_alloc_new w (.cells #[.slice la ln lc, .slice fa n fc, .int .i64 nx, .int .i64 q] 30))
  have hf_Q := heap_alloc_new (w.alloc (.cells #[.slice la ln lc, .slice fa n fc, .int .i64 nx, .int .i64 q] 30)) (.cells #[.slice none 0 0, .slice none 0 0, .int .i64 0, .int .i64 0] 30)
  simp only [World.size_alloc] at hf_Q
  generalize (w.alloc (.cells #[.slice la ln lc, .slice fa n fc, .int .i64 nx, .int .i64 q] 30)).alloc (.cells #[.slice none 0 0, .slice none 0 0, .int .i64 0, .int .i64 0] 30) = w2 at hx_w2 hf_B hf_Q ⊢
  obtain ⟨B, h_B⟩ : ∃ x, x = w.heap.size := ⟨_, rfl⟩
  obtain ⟨Q, h_Q⟩ : ∃ x, x = w.heap.size + 1 := ⟨_, rfl⟩
  rw [← h_Q] at hf_Q
  rw [← h_B] at hf_B
  try rw [← h_Q, ← h_B]
  have hs_B : w.heap.size ≤ B := by omega
  have hs_Q : w.heap.size ≤ Q := by omega
  have hBQ : w.heap.size ≤ B ∧ w.heap.size ≤ Q ∧ B ≠ Q ∧ Q < w2.heap.size ∧ B < w2.heap.size := ⟨hs_B, hs_Q, by omega, (Array.getElem?_eq_some_iff.1 hf_Q).1, (Array.getElem?_eq_some_iff.1 hf_B).1⟩
  have HBQ := Lib.hid hBQ; clear hBQ hs_B hs_Q h_B h_Q
  have HB := Lib.hid hf_B; clear hf_B
  have HQ := Lib.hid hf_Q; clear hf_Q
  have HX := Lib.hid hx_w2; clear hx_w2
  have k1 : ¬ kd < 0 := by omega
  have k2 : ¬ 6 < kd := by omega
  have hd1 : decide (kd < 0) = false := decide_eq_false k1
  have hd2 : decide (6 < kd) = false := decide_eq_false k2
  have hk06 : 0 ≤ kd ∧ kd ≤ 6 := by omega
  have C1 : Hid (¬ (kd < 0 ∨ 6 < kd)) := Lib.hid (by omega)
  have b0 := blk_cell HB.out 0 (Value.slice la ln lc) rfl
  have b1 := blk_cell HB.out 1 (Value.slice fa n fc) rfl
  have b2 := blk_cell HB.out 2 (Value.int .i64 nx) rfl
  have b3 := blk_cell HB.out 3 (Value.int .i64 q) rfl
  have q0 := blk_cell HQ.out 0 (Value.slice none 0 0) rfl
  have q1 := blk_cell HQ.out 1 (Value.slice none 0 0) rfl
  have q2 := blk_cell HQ.out 2 (Value.int .i64 0) rfl
  have q3 := blk_cell HQ.out 3 (Value.int .i64 0) rfl
  have g0 := blk_free HQ.out 0
  have g1 := blk_free HQ.out 1
  have g2 := blk_free HQ.out 2
  have g3 := blk_free HQ.out 3
  go_wp2_with (go_at_call 27; refine Hid.out ?_)
  refine Lib.hid ?_
  clear b0 b1 b2 b3 q0 q1 q2 q3 g0 g1 g2 g3
  refine (HPL.out pt _ HX.out).mono ?_
  rintro E w3 ⟨rfl, hx3⟩
  have HB3 := Lib.hid (hx3.heap HB.out); clear HB
  have HQ3 := Lib.hid (hx3.heap HQ.out); clear HQ
  have HX3 := Lib.hid (HX.out.trans hx3); clear HX hx3
  by_cases p0 : placeL L pt = 0
  case neg =>
    have e : rr = (⟨L, files, nx, q⟩, placeL L pt) := by rw [HRR.out]; unfold stepM; rw [if_neg C1.out, ← placeL_eq, if_pos p0]
    generalize placeL L pt = pz at p0 e ⊢
    have hb := int_bne p0
    have hb2 : (pz != 0) = true := by simp [p0]
    have b0 := blk_cell HB3.out 0 (Value.slice la ln lc) rfl
    have b1 := blk_cell HB3.out 1 (Value.slice fa n fc) rfl
    have b2 := blk_cell HB3.out 2 (Value.int .i64 nx) rfl
    have b3 := blk_cell HB3.out 3 (Value.int .i64 q) rfl
    have q0 := blk_cell HQ3.out 0 (Value.slice none 0 0) rfl
    have q1 := blk_cell HQ3.out 1 (Value.slice none 0 0) rfl
    have q2 := blk_cell HQ3.out 2 (Value.int .i64 0) rfl
    have q3 := blk_cell HQ3.out 3 (Value.int .i64 0) rfl
    have g0 := blk_free HQ3.out 0
    have g1 := blk_free HQ3.out 1
    have g2 := blk_free HQ3.out 2
    have g3 := blk_free HQ3.out 3
    have E := Lib.hid e; clear e
    go_wp2_with fail
    have e := E.out
    have hs := set4r HQ3.out (.slice la ln lc) (.slice fa n fc) (.int .i64 nx) (.int .i64 q)
    have e0 := blk_cell hs.1 0 (Value.slice la ln lc) rfl
    have e1 := blk_cell hs.1 1 (Value.slice fa n fc) rfl
    have e2 := blk_cell hs.1 2 (Value.int .i64 nx) rfl
    have e3 := blk_cell hs.1 3 (Value.int .i64 q) rfl
    refine bodyPost_ret (v := .tuple #[.agg #[.slice la ln lc, .slice fa n fc, .int .i64 nx, .int .i64 q], .int .i64 pz]) (by simp [results, Tryz.results9, go_sem, e0, e1, e2, e3]) rfl ?_
    rw [HR.out, e]
    have hx : Ext w ((((w3.setCell ⟨Q, 0, none⟩ (.slice la ln lc)).setCell ⟨Q, 1, none⟩ (.slice fa n fc)).setCell ⟨Q, 2, none⟩ (.int .i64 nx)).setCell ⟨Q, 3, none⟩ (.int .i64 q)) := ((Keep.of_ext (S := fun j => j < w.heap.size) HX3.out).andThen (Keep.of_but hs.2) (fun j hj _ => by have := HBQ.out; show j ≠ Q; omega)).ext_lt
    exact HSAME.out _ hx _
  case pos =>
    have C2 : Hid (¬ placeM ⟨L, files, nx, q⟩ pt ≠ 0) := Lib.hid (by rw [← placeL_eq]; simpa using p0)
    rw [p0]
    clear p0
    by_cases hlen : 3500 < dn
    · have hd3 : decide ((3500 : Int) < (dn : Int)) = true := decide_eq_true (by omega)
      have e : rr = (⟨L, files, nx, q⟩, 6) := by rw [HRR.out]; unfold stepM; rw [if_neg C1.out, if_neg C2.out, if_pos (by rw [← HDN.out]; exact hlen)]
      have b0 := blk_cell HB3.out 0 (Value.slice la ln lc) rfl
      have b1 := blk_cell HB3.out 1 (Value.slice fa n fc) rfl
      have b2 := blk_cell HB3.out 2 (Value.int .i64 nx) rfl
      have b3 := blk_cell HB3.out 3 (Value.int .i64 q) rfl
      have q0 := blk_cell HQ3.out 0 (Value.slice none 0 0) rfl
      have q1 := blk_cell HQ3.out 1 (Value.slice none 0 0) rfl
      have q2 := blk_cell HQ3.out 2 (Value.int .i64 0) rfl
      have q3 := blk_cell HQ3.out 3 (Value.int .i64 0) rfl
      have g0 := blk_free HQ3.out 0
      have g1 := blk_free HQ3.out 1
      have g2 := blk_free HQ3.out 2
      have g3 := blk_free HQ3.out 3
      have E := Lib.hid e; clear e
      go_wp2_with fail
      have e := E.out
      have hs := set4r HQ3.out (.slice la ln lc) (.slice fa n fc) (.int .i64 nx) (.int .i64 q)
      have e0 := blk_cell hs.1 0 (Value.slice la ln lc) rfl
      have e1 := blk_cell hs.1 1 (Value.slice fa n fc) rfl
      have e2 := blk_cell hs.1 2 (Value.int .i64 nx) rfl
      have e3 := blk_cell hs.1 3 (Value.int .i64 q) rfl
      refine bodyPost_ret (v := .tuple #[.agg #[.slice la ln lc, .slice fa n fc, .int .i64 nx, .int .i64 q], .int .i64 6]) (by simp [results, Tryz.results9, go_sem, e0, e1, e2, e3]) rfl ?_
      rw [HR.out, e]
      have hx : Ext w ((((w3.setCell ⟨Q, 0, none⟩ (.slice la ln lc)).setCell ⟨Q, 1, none⟩ (.slice fa n fc)).setCell ⟨Q, 2, none⟩ (.int .i64 nx)).setCell ⟨Q, 3, none⟩ (.int .i64 q)) := ((Keep.of_ext (S := fun j => j < w.heap.size) HX3.out).andThen (Keep.of_but hs.2) (fun j hj _ => by have := HBQ.out; show j ≠ Q; omega)).ext_lt
      exact HSAME.out _ hx _
    have hd3 : decide ((3500 : Int) < (dn : Int)) = false := decide_eq_false (by omega)
    have C3 : Hid (¬ 3500 < dt.length) := Lib.hid (by rw [← HDN.out]; exact hlen)
    have b0 := blk_cell HB3.out 0 (Value.slice la ln lc) rfl
    have b1 := blk_cell HB3.out 1 (Value.slice fa n fc) rfl
    have b2 := blk_cell HB3.out 2 (Value.int .i64 nx) rfl
    have b3 := blk_cell HB3.out 3 (Value.int .i64 q) rfl
    have q0 := blk_cell HQ3.out 0 (Value.slice none 0 0) rfl
    have q1 := blk_cell HQ3.out 1 (Value.slice none 0 0) rfl
    have q2 := blk_cell HQ3.out 2 (Value.int .i64 0) rfl
    have q3 := blk_cell HQ3.out 3 (Value.int .i64 0) rfl
    have g0 := blk_free HQ3.out 0
    have g1 := blk_free HQ3.out 1
    have g2 := blk_free HQ3.out 2
    have g3 := blk_free HQ3.out 3
    go_wp2_with (go_at_call 14; refine Hid.out ?_)
    refine Lib.hid ?_
    clear b0 b1 b2 b3 q0 q1 q2 q3 g0 g1 g2 g3
    refine (HFD.out pt _ HX3.out).mono ?_
    rintro E w4 ⟨rfl, hx4⟩
    have HB4 := Lib.hid (hx4.heap HB3.out); clear HB3
    have HQ4 := Lib.hid (hx4.heap HQ3.out); clear HQ3
    have HX4 := Lib.hid (HX3.out.trans hx4); clear HX3 hx4
    have hcs := findI_cases L pt
    have HCS := Lib.hid hcs; clear hcs
    have HLT4 := Lib.hid (And.intro (Array.getElem?_eq_some_iff.1 HB4.out).1 (Array.getElem?_eq_some_iff.1 HQ4.out).1)
    · have c4 : ¬ (kd = 0 ∨ kd = 2) := by omega
      have C4 := Lib.hid c4
      have n0 : (kd == 0) = false := int_bne (fun e => c4 (Or.inl e))
      have n2 : (kd == 2) = false := int_bne (fun e => c4 (Or.inr e))
      rcases HCS.out with ⟨f1, f2⟩ | ⟨k, f1, f2, f3, f4⟩
      · have e : rr = (⟨L, files, nx, q⟩, 8) := by
          rw [HRR.out]; unfold stepM
          rw [if_neg C1.out, if_neg C2.out, if_neg C3.out, if_neg C4.out]
          simp only [entM, f2]
        rw [f1]
        clear f1 f2
        have E := Lib.hid e; clear e
        have b0 := blk_cell HB4.out 0 (Value.slice la ln lc) rfl
        have b1 := blk_cell HB4.out 1 (Value.slice fa n fc) rfl
        have b2 := blk_cell HB4.out 2 (Value.int .i64 nx) rfl
        have b3 := blk_cell HB4.out 3 (Value.int .i64 q) rfl
        have q0 := blk_cell HQ4.out 0 (Value.slice none 0 0) rfl
        have q1 := blk_cell HQ4.out 1 (Value.slice none 0 0) rfl
        have q2 := blk_cell HQ4.out 2 (Value.int .i64 0) rfl
        have q3 := blk_cell HQ4.out 3 (Value.int .i64 0) rfl
        have g0 := blk_free HQ4.out 0
        have g1 := blk_free HQ4.out 1
        have g2 := blk_free HQ4.out 2
        have g3 := blk_free HQ4.out 3
        go_wp2_with fail
        have e := E.out
        have hs := set4r HQ4.out (.slice la ln lc) (.slice fa n fc) (.int .i64 nx) (.int .i64 q)
        have e0 := blk_cell hs.1 0 (Value.slice la ln lc) rfl
        have e1 := blk_cell hs.1 1 (Value.slice fa n fc) rfl
        have e2 := blk_cell hs.1 2 (Value.int .i64 nx) rfl
        have e3 := blk_cell hs.1 3 (Value.int .i64 q) rfl
        refine bodyPost_ret (v := .tuple #[.agg #[.slice la ln lc, .slice fa n fc, .int .i64 nx, .int .i64 q], .int .i64 8]) (by simp [results, Tryz.results9, go_sem, e0, e1, e2, e3]) rfl ?_
        rw [HR.out, e]
        have hx : Ext w ((((w4.setCell ⟨Q, 0, none⟩ (.slice la ln lc)).setCell ⟨Q, 1, none⟩ (.slice fa n fc)).setCell ⟨Q, 2, none⟩ (.int .i64 nx)).setCell ⟨Q, 3, none⟩ (.int .i64 q)) := ((Keep.of_ext (S := fun j => j < w.heap.size) HX4.out).andThen (Keep.of_but hs.2) (fun j hj _ => by have := HBQ.out; show j ≠ Q; omega)).ext_lt
        exact HSAME.out _ hx _
      · have hkL := f1
        obtain ⟨g, off, rfl, _, c0, c1, c2⟩ := (HM.out.ents.ext HX4.out).at f1
        simp only at c0 c1 c2
        rw [f4] at c0
        have HF := Lib.hid (And.intro f1 (And.intro f2 (And.intro f3 f4)))
        have hkn : k < ln := by have := HLN.out; omega
        rw [f2]
        clear f1 f2 f3 f4 hkL
        obtain ⟨x, hx⟩ : ∃ x, x = L.getD k ez06 := ⟨_, rfl⟩
        rw [← hx] at c1 c2 HF
        clear hx
        obtain ⟨xp, xi, xd⟩ := x
        simp only at c1 c2
        have hxp : xp = pt := HF.out.2.2.2
        subst hxp
        have hent : entM ⟨L, files, nx, q⟩ xp = some ⟨xp, xi, xd⟩ := HF.out.2.2.1
        have HENT := Lib.hid hent; clear hent
        have i0 : (0 : Int) ≤ (k : Int) := by omega
        have i1 : (k : Int) < (ln : Int) := by omega
        have b0 := blk_cell HB4.out 0 (Value.slice (some ⟨g, off, none⟩) ln lc) rfl
        have b1 := blk_cell HB4.out 1 (Value.slice fa n fc) rfl
        have b2 := blk_cell HB4.out 2 (Value.int .i64 nx) rfl
        have b3 := blk_cell HB4.out 3 (Value.int .i64 q) rfl
        have q0 := blk_cell HQ4.out 0 (Value.slice none 0 0) rfl
        have q1 := blk_cell HQ4.out 1 (Value.slice none 0 0) rfl
        have q2 := blk_cell HQ4.out 2 (Value.int .i64 0) rfl
        have q3 := blk_cell HQ4.out 3 (Value.int .i64 0) rfl
        have g0 := blk_free HQ4.out 0
        have g1 := blk_free HQ4.out 1
        have g2 := blk_free HQ4.out 2
        have g3 := blk_free HQ4.out 3
        go_upto_region 20 with fail
        clear b0 b1 b2 b3 q0 q1 q2 q3 g0 g1 g2 g3 c0 c1 c2
        have hx_w5 : Ext w4 (w4.alloc (.cells #[.string (bs xp), .int .i64 xi, .bool xd] 48)) := (Ext.alloc _ _)
        have hf_P := heap_alloc_new w4 (.cells #[.string (bs xp), .int .i64 xi, .bool xd] 48)
        generalize w4.alloc (.cells #[.string (bs xp), .int .i64 xi, .bool xd] 48) = w5 at hx_w5 hf_P ⊢
        obtain ⟨P, h_P⟩ : ∃ x, x = w4.heap.size := ⟨_, rfl⟩
        rw [← h_P] at hf_P
        try rw [← h_P]
        have hs_P : w4.heap.size ≤ P := by omega
        have HB5 := Lib.hid (hx_w5.heap HB4.out); clear HB4
        have HQ5 := Lib.hid (hx_w5.heap HQ4.out); clear HQ4
        have HX5 := Lib.hid (HX4.out.trans hx_w5); clear HX4
        have hPne : P ≠ B ∧ P ≠ Q := by have := HLT4.out; omega
        have HP5 := Lib.hid hf_P; clear hf_P
        have HPN := Lib.hid (And.intro hPne hs_P)
        have HLT5 := Lib.hid (And.intro HLT4.out hx_w5.size)
        clear hPne hs_P h_P hx_w5 HCS
        subst hkd
        have p2 := blk_cell HP5.out 2 (Value.bool xd) rfl
        cases xd with
        | false =>
          have e : rr = (⟨L, files, nx, q⟩, 11) := by
            rw [HRR.out]; unfold stepM
            rw [if_neg C1.out, if_neg C2.out, if_neg C3.out, if_neg C4.out]
            simp only [HENT.out]
            rfl
          have E := Lib.hid e; clear e
          have b0 := blk_cell HB5.out 0 (Value.slice (some ⟨g, off, none⟩) ln lc) rfl
          have b1 := blk_cell HB5.out 1 (Value.slice fa n fc) rfl
          have b2 := blk_cell HB5.out 2 (Value.int .i64 nx) rfl
          have b3 := blk_cell HB5.out 3 (Value.int .i64 q) rfl
          have q0 := blk_cell HQ5.out 0 (Value.slice none 0 0) rfl
          have q1 := blk_cell HQ5.out 1 (Value.slice none 0 0) rfl
          have q2 := blk_cell HQ5.out 2 (Value.int .i64 0) rfl
          have q3 := blk_cell HQ5.out 3 (Value.int .i64 0) rfl
          have g0 := blk_free HQ5.out 0
          have g1 := blk_free HQ5.out 1
          have g2 := blk_free HQ5.out 2
          have g3 := blk_free HQ5.out 3
          go_wp2_with fail
          have e := E.out
          have hs := set4r HQ5.out (.slice (some ⟨g, off, none⟩) ln lc) (.slice fa n fc) (.int .i64 nx) (.int .i64 q)
          have e0 := blk_cell hs.1 0 (Value.slice (some ⟨g, off, none⟩) ln lc) rfl
          have e1 := blk_cell hs.1 1 (Value.slice fa n fc) rfl
          have e2 := blk_cell hs.1 2 (Value.int .i64 nx) rfl
          have e3 := blk_cell hs.1 3 (Value.int .i64 q) rfl
          refine bodyPost_ret (v := .tuple #[.agg #[.slice (some ⟨g, off, none⟩) ln lc, .slice fa n fc, .int .i64 nx, .int .i64 q], .int .i64 11]) (by simp [results, Tryz.results9, go_sem, e0, e1, e2, e3]) rfl ?_
          rw [HR.out, e]
          have hx : Ext w ((((w5.setCell ⟨Q, 0, none⟩ (.slice (some ⟨g, off, none⟩) ln lc)).setCell ⟨Q, 1, none⟩ (.slice fa n fc)).setCell ⟨Q, 2, none⟩ (.int .i64 nx)).setCell ⟨Q, 3, none⟩ (.int .i64 q)) := ((Keep.of_ext (S := fun j => j < w.heap.size) HX5.out).andThen (Keep.of_but hs.2) (fun j hj _ => by have := HBQ.out; show j ≠ Q; omega)).ext_lt
          exact HSAME.out _ hx _
        | true =>
          have b0 := blk_cell HB5.out 0 (Value.slice (some ⟨g, off, none⟩) ln lc) rfl
          have b1 := blk_cell HB5.out 1 (Value.slice fa n fc) rfl
          have b2 := blk_cell HB5.out 2 (Value.int .i64 nx) rfl
          have b3 := blk_cell HB5.out 3 (Value.int .i64 q) rfl
          have q0 := blk_cell HQ5.out 0 (Value.slice none 0 0) rfl
          have q1 := blk_cell HQ5.out 1 (Value.slice none 0 0) rfl
          have q2 := blk_cell HQ5.out 2 (Value.int .i64 0) rfl
          have q3 := blk_cell HQ5.out 3 (Value.int .i64 0) rfl
          have g0 := blk_free HQ5.out 0
          have g1 := blk_free HQ5.out 1
          have g2 := blk_free HQ5.out 2
          have g3 := blk_free HQ5.out 3
          go_wp2_with fail
          go_loopw [15] (fun i wr => ∃ j : Nat, i = .int .i64 j ∧ j ≤ ln ∧ Hid (∀ i, i < j → belowP xp (L.getD i ez06).path = false) ∧ Hid (wr = w5)) (fun i _ => ln - (intOf i).toNat)
          case atStart => exact ⟨0, rfl, Nat.zero_le _, Lib.hid (fun i hi => by omega), Lib.hid rfl⟩
          case round =>
            obtain ⟨j, rfl, hj, HBL, hwr⟩ := hrel
            obtain rfl := hwr.out
            clear hwr
            by_cases hjl : j < ln
            · have hjL : j < L.length := by have := HLN.out; omega
              obtain ⟨g2, off2, hge, _, c0, _, _⟩ := (HM.out.ents.ext HX5.out).at hjL
              simp only at hge c0
              cases hge
              have hyl := HSH.out _ (getD_mem hjL ez06)
              have hnext : belowP xp (L.getD j ez06).path = false → ∀ i, i < j + 1 → belowP xp (L.getD i ez06).path = false := fun h i hi => by
                rcases Nat.lt_succ_iff_lt_or_eq.1 hi with h1 | h1
                · exact HBL.out i h1
                · rw [h1]; exact h
              have hfound : belowP xp (L.getD j ez06).path = true → L.any (fun e => belowP xp e.path) = true := fun h => by
                rw [List.any_eq_true]
                exact ⟨_, getD_mem hjL ez06, h⟩
              have HNX := Lib.hid hnext; have HFO := Lib.hid hfound; clear hnext hfound
              generalize (L.getD j ez06).path = y at c0 hyl HNX HFO
              have hyz : (bs y).size = y.length := bs_size y
              have hpz : (bs xp).size = xp.length := bs_size xp
              have hb1 : (bs y).size ≤ 100000 := by omega
              have hb2 : (bs xp).size ≤ 100000 := by omega
              by_cases hsh : xp.length < y.length
              · have hd4 : decide (((bs xp).size : Int) < ((bs y).size : Int)) = true := decide_eq_true (by omega)
                have hd5 : decide ((bs xp).size < (bs y).size) = true := decide_eq_true (by omega)
                have j1 : (0 : Int) ≤ ((bs xp).size : Int) + 1 := by omega
                have j2 : ((bs xp).size : Int) + 1 ≤ ((bs y).size : Int) := by omega
                have he1 : (bs y).extract 0 ((bs xp).size + 1) = bs (y.take (xp.length + 1)) := by rw [extract_bs, bs_data, hpz]; rfl
                have he2 : (bs xp ++ { data := #[47] } : ByteArray) = bs (xp ++ [47]) := bs_append xp [47]
                by_cases heq : y.take (xp.length + 1) = xp ++ [47]
                · have hd6 : ((bs (y.take (xp.length + 1))).toList == (bs (xp ++ [47])).toList) = true := bs_beq_eq heq
                  have hbt : belowP xp y = true := by unfold belowP; exact decide_eq_true ⟨hsh, heq⟩
                  have hany := HFO.out hbt
                  have e : rr = (⟨L, files, nx, q⟩, 12) := by
                    rw [HRR.out]; unfold stepM
                    rw [if_neg C1.out, if_neg C2.out, if_neg C3.out, if_neg C4.out]
                    simp only [HENT.out, hany]
                    rfl
                  have E := Lib.hid e; clear e hany hbt heq hyz hpz hyl hsh
                  generalize bs (y.take (xp.length + 1)) = t1 at he1 hd6
                  generalize bs (xp ++ [47]) = t2 at he2 hd6
                  go_wp2_with fail
                  have e := E.out
                  have hs := set4r HQ5.out (.slice (some ⟨g, off, none⟩) ln lc) (.slice fa n fc) (.int .i64 nx) (.int .i64 q)
                  have e0 := blk_cell hs.1 0 (Value.slice (some ⟨g, off, none⟩) ln lc) rfl
                  have e1 := blk_cell hs.1 1 (Value.slice fa n fc) rfl
                  have e2 := blk_cell hs.1 2 (Value.int .i64 nx) rfl
                  have e3 := blk_cell hs.1 3 (Value.int .i64 q) rfl
                  refine bodyPost_ret (v := .tuple #[.agg #[.slice (some ⟨g, off, none⟩) ln lc, .slice fa n fc, .int .i64 nx, .int .i64 q], .int .i64 12]) (by simp [results, Tryz.results9, go_sem, e0, e1, e2, e3]) rfl ?_
                  rw [HR.out, e]
                  have hx : Ext w ((((wr.setCell ⟨Q, 0, none⟩ (.slice (some ⟨g, off, none⟩) ln lc)).setCell ⟨Q, 1, none⟩ (.slice fa n fc)).setCell ⟨Q, 2, none⟩ (.int .i64 nx)).setCell ⟨Q, 3, none⟩ (.int .i64 q)) := ((Keep.of_ext (S := fun j => j < w.heap.size) HX5.out).andThen (Keep.of_but hs.2) (fun j hj _ => by have := HBQ.out; show j ≠ Q; omega)).ext_lt
                  exact HSAME.out _ hx _
                · have hd6 : ((bs (y.take (xp.length + 1))).toList == (bs (xp ++ [47])).toList) = false := bs_beq_ne heq
                  have hbf : belowP xp y = false := by unfold belowP; exact decide_eq_false (fun h => heq h.2)
                  have HN2 := Lib.hid (HNX.out hbf); clear hbf heq hyz hpz hyl hsh
                  generalize bs (y.take (xp.length + 1)) = t1 at he1 hd6
                  generalize bs (xp ++ [47]) = t2 at he2 hd6
                  go_wp2_with fail
                  go_roundw
                  case rel => exact ⟨j + 1, by go_num, by omega, HN2, Lib.hid (by trivial)⟩
                  case measure => simp [intOf]; omega
              · have hd4 : decide (((bs xp).size : Int) < ((bs y).size : Int)) = false := decide_eq_false (by omega)
                have hd5 : decide ((bs xp).size < (bs y).size) = false := decide_eq_false (by omega)
                have hbf : belowP xp y = false := by unfold belowP; exact decide_eq_false (fun h => hsh h.1)
                have HN2 := Lib.hid (HNX.out hbf); clear hbf hyz hpz hyl hsh
                go_wp2_with fail
                go_roundw
                case rel => exact ⟨j + 1, by go_num, by omega, HN2, Lib.hid (by trivial)⟩
                case measure => simp [intOf]; omega
            · have hany : L.any (fun e => belowP xp e.path) = false := by
                rw [List.any_eq_false]
                intro x hx
                obtain ⟨i, hi, rfl⟩ := List.getElem_of_mem hx
                have := HBL.out i (by have := HLN.out; omega)
                have e : L.getD i ez06 = L[i] := by simp [List.getD_eq_getElem?_getD, List.getElem?_eq_getElem hi]
                rw [e] at this
                simp [this]
              have e : rr = (lessM ⟨L, files, nx, q⟩ xp, 0) := by
                rw [HRR.out]; unfold stepM
                rw [if_neg C1.out, if_neg C2.out, if_neg C3.out, if_neg C4.out]
                simp only [HENT.out, hany]
                rfl
              have E := Lib.hid e; clear e hany
              have hwo := ref_without L (some ⟨g, off, none⟩) lc k wr (HM.out.ents.ext HX5.out) HM.out.elen HF.out.1 (by have := HLN.out; omega)
              rw [erase_idx HF.out.1 HF.out.2.1] at hwo
              rw [← HLN.out] at hwo
              have HWO := Lib.hid hwo; clear hwo
              have g0 := blk_free HB5.out 0
              go_wp2_with (go_at_call 29; refine Hid.out ?_)
              refine Lib.hid ?_
              clear b0 b1 b2 b3 q0 q1 q2 q3 g0 g1 g2 g3 p2
              refine HWO.out.mono ?_
              rintro E6 w6 ⟨a6, c6, rfl, h6c, h6e, h6f, hx6⟩
              have HB6 := Lib.hid (hx6.heap HB5.out)
              have HQ6 := Lib.hid (hx6.heap HQ5.out)
              have HX6 := Lib.hid (HX5.out.trans hx6)
              have H6 := Lib.hid (And.intro h6c (And.intro h6e (And.intro h6f hx6))); clear h6c h6e h6f hx6 HWO
              obtain ⟨M, hM⟩ : ∃ M, M = L.eraseP (isP xp) := ⟨_, rfl⟩
              rw [← hM] at H6 ⊢
              have HMM := Lib.hid hM; clear hM
              have b0 := blk_cell HB6.out 0 (Value.slice (some ⟨g, off, none⟩) ln lc) rfl
              have g0 := blk_free HB6.out 0
              go_upto_region 29 with fail
              clear b0 g0
              have hs := setCell_row (i := 0) HB6.out (.slice a6 M.length c6)
              have hbu := (But.refl B w6).setCell 0 (.slice a6 M.length c6)
              have hQn := (Keep.of_but hbu).heap (fun e => HBQ.out.2.2.1 e.symm) HQ6.out
              have hXn : Ext w (w6.setCell ⟨B, 0, none⟩ (.slice a6 M.length c6)) := ((Keep.of_ext (S := fun j => j < w.heap.size) HX6.out).andThen (Keep.of_but hbu) (fun j hj _ => by have := HBQ.out; show j ≠ B; omega)).ext_lt
              generalize w6.setCell ⟨B, 0, none⟩ (.slice a6 M.length c6) = w7 at hs hbu hQn hXn ⊢
              have hBn : w7.heap[B]? = some (.cells #[.slice a6 M.length c6, .slice fa n fc, .int .i64 nx, .int .i64 q] 30 (0, 0)) := by simpa using hs
              have HB_w7 := Lib.hid hBn
              have HQ_w7 := Lib.hid hQn
              have HX_w7 := Lib.hid hXn
              have HU_w7 := Lib.hid hbu
              clear hs hbu hQn hXn hBn
              have b0 := blk_cell HB_w7.out 0 (Value.slice a6 M.length c6) rfl
              have b1 := blk_cell HB_w7.out 1 (Value.slice fa n fc) rfl
              have b2 := blk_cell HB_w7.out 2 (Value.int .i64 nx) rfl
              have b3 := blk_cell HB_w7.out 3 (Value.int .i64 q) rfl
              have q0 := blk_cell HQ_w7.out 0 (Value.slice none 0 0) rfl
              have q1 := blk_cell HQ_w7.out 1 (Value.slice none 0 0) rfl
              have q2 := blk_cell HQ_w7.out 2 (Value.int .i64 0) rfl
              have q3 := blk_cell HQ_w7.out 3 (Value.int .i64 0) rfl
              have g0 := blk_free HQ_w7.out 0
              have g1 := blk_free HQ_w7.out 1
              have g2 := blk_free HQ_w7.out 2
              have g3 := blk_free HQ_w7.out 3
              go_wp2_with fail
              have e := E.out
              have hs := set4r HQ_w7.out (.slice a6 M.length c6) (.slice fa n fc) (.int .i64 nx) (.int .i64 q)
              have e0 := blk_cell hs.1 0 (Value.slice a6 M.length c6) rfl
              have e1 := blk_cell hs.1 1 (Value.slice fa n fc) rfl
              have e2 := blk_cell hs.1 2 (Value.int .i64 nx) rfl
              have e3 := blk_cell hs.1 3 (Value.int .i64 q) rfl
              refine bodyPost_ret (v := .tuple #[.agg #[.slice a6 M.length c6, .slice fa n fc, .int .i64 nx, .int .i64 q], .int .i64 0]) (by simp [results, Tryz.results9, go_sem, e0, e1, e2, e3]) rfl ?_
              rw [HR.out, e]
              have hx : Ext w ((((w7.setCell ⟨Q, 0, none⟩ (.slice a6 M.length c6)).setCell ⟨Q, 1, none⟩ (.slice fa n fc)).setCell ⟨Q, 2, none⟩ (.int .i64 nx)).setCell ⟨Q, 3, none⟩ (.int .i64 q)) := ((Keep.of_ext (S := fun j => j < w.heap.size) HX_w7.out).andThen (Keep.of_but hs.2) (fun j hj _ => by have := HBQ.out; show j ≠ Q; omega)).ext_lt
              have hkq : Keep (fun j => j ≠ B ∧ j ≠ Q) w6 _ := ((Keep.of_but HU_w7.out).mono (fun j _ hj => hj.1)).andThen (Keep.of_but hs.2) (fun j _ hj => hj.2)
              have em : lessM ⟨L, files, nx, q⟩ xp = ⟨M, files, nx, q⟩ := by unfold lessM; rw [HMM.out]
              rw [em]
              refine ⟨⟨a6, c6, fa, fc, F⟩, ?_, ⟨runM_keep H6.out.2.1 hkq (fun ad h => ?_), H6.out.1, HM.out.fils.ext hx, HM.out.flen, HM.out.fmap⟩, hx⟩
              · unfold refV
                simp only
                rw [← HN.out]
              · have h1 := H6.out.2.2.1 ad h
                have h2 := HLT5.out
                exact ⟨by omega, by omega⟩
end Go.Proofs.YtldgpcmnmegioaaGreatDoor
