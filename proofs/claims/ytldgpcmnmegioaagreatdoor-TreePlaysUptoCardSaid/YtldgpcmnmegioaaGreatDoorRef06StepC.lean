/- farrierref06.Step: kd = 3. -/
import Derived.Test.YtldgpcmnmegioaaGreatDoorM4
namespace Go.Proofs.YtldgpcmnmegioaaGreatDoor
open Go.RowKit
attribute [local go_sem ↓] Go.wp_at_zero Go.wp_at_succ
set_option maxRecDepth 100000 in
set_option maxHeartbeats 51200000 in
theorem ref_stepC (m : RefD) (A : RefA) (kd : Int) (pt ds dt : By) (oa : Option Addr) (oc : Nat) (w : World) (hM : RefM w m A) (hB : Bytes w oa dt) (hdl : dt.length ≤ 100000000000) (hl : m.list.length ≤ 1000000000) (hf : m.files.length ≤ 1000000000) (hnx : -1000000000000 ≤ m.next ∧ m.next ≤ 1000000000000) (hp : pt.length ≤ 100000) (hs : ∀ e ∈ m.list, e.path.length ≤ 100000) (hkd : kd = 3) :
    Calls Tryz.prog 9 #[refV m A, .int .i64 kd, .string (bs pt), .string (bs ds), .slice oa dt.length oc] w (RefE (stepM m ⟨kd, pt, ds, dt⟩).1 (stepM m ⟨kd, pt, ds, dt⟩).2 w) := by
  obtain ⟨rr, hrr⟩ : ∃ rr, rr = stepM m ⟨kd, pt, ds, dt⟩ := ⟨_, rfl⟩
  rw [← hrr]
  have HRR := Lib.hid hrr; clear hrr
  obtain ⟨R, hR⟩ : ∃ R, R = RefE rr.1 rr.2 w := ⟨_, rfl⟩
  rw [← hR]
  have HR := Lib.hid hR; clear hR
  have hfl := hM.flen'
  obtain ⟨L, files, nx, q⟩ := m
  obtain ⟨la, lc, fa, fc, F⟩ := A
  unfold refV
  simp only at hl hf hfl hnx hs ⊢
  have hpl := fun d W (k : Ext w W) => ref_place L la lc fa files.length fc nx q d W (hM.ents.ext k) (by omega)
  have hfd := fun d W (k : Ext w W) => ref_find L la lc fa files.length fc nx q d W (hM.ents.ext k) (by omega)
  have HM := Lib.hid hM; clear hM
  have HDT := Lib.hid hB; clear hB
  have HSH := Lib.hid hs; clear hs
  obtain ⟨ln, hln⟩ : ∃ n, n = L.length := ⟨_, rfl⟩
  obtain ⟨n, hn⟩ : ∃ n, n = files.length := ⟨_, rfl⟩
  obtain ⟨dn, hdn⟩ : ∃ n, n = dt.length := ⟨_, rfl⟩
  rw [← hln] at hl hpl hfd ⊢
  rw [← hn] at hf hfl hpl hfd ⊢
  rw [← hdn] at hdl ⊢
  have HLN := Lib.hid hln; clear hln
  have HN := Lib.hid hn; clear hn
  have HDN := Lib.hid hdn; clear hdn
  have HFL := Lib.hid hfl; clear hfl
  have HPL := Lib.hid hpl; clear hpl
  have HFD := Lib.hid hfd; clear hfd
  have hsame : ∀ W, Ext w W → ∀ code, RefE ⟨L, files, nx, q⟩ code w (.returned (.tuple #[.agg #[.slice la ln lc, .slice fa n fc, .int .i64 nx, .int .i64 q], .int .i64 code])) W := fun W k code => ⟨⟨la, lc, fa, fc, F⟩, by rw [HLN.out, HN.out]; rfl, HM.out.ext k, k⟩
  have HSAME := Lib.hid hsame; clear hsame
  go_enter Tryz.func9, Tryz.ntmps9
  go_upto_region 1 with fail
  have hx_w2 : Ext w ((w.alloc (.cells #[.slice la ln lc, .slice fa n fc, .int .i64 nx, .int .i64 q] 30)).alloc (.cells #[.slice none 0 0, .slice none 0 0, .int .i64 0, .int .i64 0] 30)) := ((Ext.alloc _ _).trans (Ext.alloc _ _))
  have hf_B := (Ext.alloc (w.alloc (.cells #[.slice la ln lc, .slice fa n fc, .int .i64 nx, .int .i64 q] 30)) (.cells #[.slice none 0 0, .slice none 0 0, .int .i64 0, .int .i64 0] 30)).heap (heap_alloc_new w (.cells #[.slice la ln lc, .slice fa n fc, .int .i64 nx, .int .i64 q] 30))
  have hf_Q := heap_alloc_new (w.alloc (.cells #[.slice la ln lc, .slice fa n fc, .int .i64 nx, .int .i64 q] 30)) (.cells #[.slice none 0 0, .slice none 0 0, .int .i64 0, .int .i64 0] 30)
  simp only [World.size_alloc] at hf_Q
  generalize (w.alloc (.cells #[.slice la ln lc, .slice fa n fc, .int .i64 nx, .int .i64 q] 30)).alloc (.cells #[.slice none 0 0, .slice none 0 0, .int .i64 0, .int .i64 0] 30) = w2 at hx_w2 hf_B hf_Q ⊢
  obtain ⟨B, h_B⟩ : ∃ x, x = w.heap.size := ⟨_, rfl⟩
  obtain ⟨Q, h_Q⟩ : ∃ x, x = w.heap.size + 1 := ⟨_, rfl⟩
  rw [← h_Q] at hf_Q
  rw [← h_B] at hf_B
  try rw [← h_Q, ← h_B]
  have hs_B : w.heap.size ≤ B := by omega
  have hs_Q : w.heap.size ≤ Q := by omega
  have hBQ : w.heap.size ≤ B ∧ w.heap.size ≤ Q ∧ B ≠ Q ∧ Q < w2.heap.size ∧ B < w2.heap.size := ⟨hs_B, hs_Q, by omega, (Array.getElem?_eq_some_iff.1 hf_Q).1, (Array.getElem?_eq_some_iff.1 hf_B).1⟩
  have HBQ := Lib.hid hBQ; clear hBQ hs_B hs_Q h_B h_Q
  have HB := Lib.hid hf_B; clear hf_B
  have HQ := Lib.hid hf_Q; clear hf_Q
  have HX := Lib.hid hx_w2; clear hx_w2
  have k1 : ¬ kd < 0 := by omega
  have k2 : ¬ 6 < kd := by omega
  have hd1 : decide (kd < 0) = false := decide_eq_false k1
  have hd2 : decide (6 < kd) = false := decide_eq_false k2
  have hk06 : 0 ≤ kd ∧ kd ≤ 6 := by omega
  have C1 : Hid (¬ (kd < 0 ∨ 6 < kd)) := Lib.hid (by omega)
  have b0 := blk_cell HB.out 0 (Value.slice la ln lc) rfl
  have b1 := blk_cell HB.out 1 (Value.slice fa n fc) rfl
  have b2 := blk_cell HB.out 2 (Value.int .i64 nx) rfl
  have b3 := blk_cell HB.out 3 (Value.int .i64 q) rfl
  have q0 := blk_cell HQ.out 0 (Value.slice none 0 0) rfl
  have q1 := blk_cell HQ.out 1 (Value.slice none 0 0) rfl
  have q2 := blk_cell HQ.out 2 (Value.int .i64 0) rfl
  have q3 := blk_cell HQ.out 3 (Value.int .i64 0) rfl
  have g0 := blk_free HQ.out 0
  have g1 := blk_free HQ.out 1
  have g2 := blk_free HQ.out 2
  have g3 := blk_free HQ.out 3
  go_wp2_with (go_at_call 27; refine Hid.out ?_)
  refine Lib.hid ?_
  clear b0 b1 b2 b3 q0 q1 q2 q3 g0 g1 g2 g3
  refine (HPL.out pt _ HX.out).mono ?_
  rintro E w3 ⟨rfl, hx3⟩
  have HB3 := Lib.hid (hx3.heap HB.out); clear HB
  have HQ3 := Lib.hid (hx3.heap HQ.out); clear HQ
  have HX3 := Lib.hid (HX.out.trans hx3); clear HX hx3
  by_cases p0 : placeL L pt = 0
  case neg =>
    have e : rr = (⟨L, files, nx, q⟩, placeL L pt) := by rw [HRR.out]; unfold stepM; rw [if_neg C1.out, ← placeL_eq, if_pos p0]
    generalize placeL L pt = pz at p0 e ⊢
    have hb := int_bne p0
    have hb2 : (pz != 0) = true := by simp [p0]
    have b0 := blk_cell HB3.out 0 (Value.slice la ln lc) rfl
    have b1 := blk_cell HB3.out 1 (Value.slice fa n fc) rfl
    have b2 := blk_cell HB3.out 2 (Value.int .i64 nx) rfl
    have b3 := blk_cell HB3.out 3 (Value.int .i64 q) rfl
    have q0 := blk_cell HQ3.out 0 (Value.slice none 0 0) rfl
    have q1 := blk_cell HQ3.out 1 (Value.slice none 0 0) rfl
    have q2 := blk_cell HQ3.out 2 (Value.int .i64 0) rfl
    have q3 := blk_cell HQ3.out 3 (Value.int .i64 0) rfl
    have g0 := blk_free HQ3.out 0
    have g1 := blk_free HQ3.out 1
    have g2 := blk_free HQ3.out 2
    have g3 := blk_free HQ3.out 3
    have E := Lib.hid e; clear e
    go_wp2_with fail
    have e := E.out
    have hs := set4r HQ3.out (.slice la ln lc) (.slice fa n fc) (.int .i64 nx) (.int .i64 q)
    have e0 := blk_cell hs.1 0 (Value.slice la ln lc) rfl
    have e1 := blk_cell hs.1 1 (Value.slice fa n fc) rfl
    have e2 := blk_cell hs.1 2 (Value.int .i64 nx) rfl
    have e3 := blk_cell hs.1 3 (Value.int .i64 q) rfl
    refine bodyPost_ret (v := .tuple #[.agg #[.slice la ln lc, .slice fa n fc, .int .i64 nx, .int .i64 q], .int .i64 pz]) (by simp [results, Tryz.results9, go_sem, e0, e1, e2, e3]) rfl ?_
    rw [HR.out, e]
    have hx : Ext w ((((w3.setCell ⟨Q, 0, none⟩ (.slice la ln lc)).setCell ⟨Q, 1, none⟩ (.slice fa n fc)).setCell ⟨Q, 2, none⟩ (.int .i64 nx)).setCell ⟨Q, 3, none⟩ (.int .i64 q)) := ((Keep.of_ext (S := fun j => j < w.heap.size) HX3.out).andThen (Keep.of_but hs.2) (fun j hj _ => by have := HBQ.out; show j ≠ Q; omega)).ext_lt
    exact HSAME.out _ hx _
  case pos =>
    have C2 : Hid (¬ placeM ⟨L, files, nx, q⟩ pt ≠ 0) := Lib.hid (by rw [← placeL_eq]; simpa using p0)
    rw [p0]
    clear p0
    by_cases hlen : 3500 < dn
    · have hd3 : decide ((3500 : Int) < (dn : Int)) = true := decide_eq_true (by omega)
      have e : rr = (⟨L, files, nx, q⟩, 6) := by rw [HRR.out]; unfold stepM; rw [if_neg C1.out, if_neg C2.out, if_pos (by rw [← HDN.out]; exact hlen)]
      have b0 := blk_cell HB3.out 0 (Value.slice la ln lc) rfl
      have b1 := blk_cell HB3.out 1 (Value.slice fa n fc) rfl
      have b2 := blk_cell HB3.out 2 (Value.int .i64 nx) rfl
      have b3 := blk_cell HB3.out 3 (Value.int .i64 q) rfl
      have q0 := blk_cell HQ3.out 0 (Value.slice none 0 0) rfl
      have q1 := blk_cell HQ3.out 1 (Value.slice none 0 0) rfl
      have q2 := blk_cell HQ3.out 2 (Value.int .i64 0) rfl
      have q3 := blk_cell HQ3.out 3 (Value.int .i64 0) rfl
      have g0 := blk_free HQ3.out 0
      have g1 := blk_free HQ3.out 1
      have g2 := blk_free HQ3.out 2
      have g3 := blk_free HQ3.out 3
      have E := Lib.hid e; clear e
      go_wp2_with fail
      have e := E.out
      have hs := set4r HQ3.out (.slice la ln lc) (.slice fa n fc) (.int .i64 nx) (.int .i64 q)
      have e0 := blk_cell hs.1 0 (Value.slice la ln lc) rfl
      have e1 := blk_cell hs.1 1 (Value.slice fa n fc) rfl
      have e2 := blk_cell hs.1 2 (Value.int .i64 nx) rfl
      have e3 := blk_cell hs.1 3 (Value.int .i64 q) rfl
      refine bodyPost_ret (v := .tuple #[.agg #[.slice la ln lc, .slice fa n fc, .int .i64 nx, .int .i64 q], .int .i64 6]) (by simp [results, Tryz.results9, go_sem, e0, e1, e2, e3]) rfl ?_
      rw [HR.out, e]
      have hx : Ext w ((((w3.setCell ⟨Q, 0, none⟩ (.slice la ln lc)).setCell ⟨Q, 1, none⟩ (.slice fa n fc)).setCell ⟨Q, 2, none⟩ (.int .i64 nx)).setCell ⟨Q, 3, none⟩ (.int .i64 q)) := ((Keep.of_ext (S := fun j => j < w.heap.size) HX3.out).andThen (Keep.of_but hs.2) (fun j hj _ => by have := HBQ.out; show j ≠ Q; omega)).ext_lt
      exact HSAME.out _ hx _
    have hd3 : decide ((3500 : Int) < (dn : Int)) = false := decide_eq_false (by omega)
    have C3 : Hid (¬ 3500 < dt.length) := Lib.hid (by rw [← HDN.out]; exact hlen)
    have b0 := blk_cell HB3.out 0 (Value.slice la ln lc) rfl
    have b1 := blk_cell HB3.out 1 (Value.slice fa n fc) rfl
    have b2 := blk_cell HB3.out 2 (Value.int .i64 nx) rfl
    have b3 := blk_cell HB3.out 3 (Value.int .i64 q) rfl
    have q0 := blk_cell HQ3.out 0 (Value.slice none 0 0) rfl
    have q1 := blk_cell HQ3.out 1 (Value.slice none 0 0) rfl
    have q2 := blk_cell HQ3.out 2 (Value.int .i64 0) rfl
    have q3 := blk_cell HQ3.out 3 (Value.int .i64 0) rfl
    have g0 := blk_free HQ3.out 0
    have g1 := blk_free HQ3.out 1
    have g2 := blk_free HQ3.out 2
    have g3 := blk_free HQ3.out 3
    go_wp2_with (go_at_call 14; refine Hid.out ?_)
    refine Lib.hid ?_
    clear b0 b1 b2 b3 q0 q1 q2 q3 g0 g1 g2 g3
    refine (HFD.out pt _ HX3.out).mono ?_
    rintro E w4 ⟨rfl, hx4⟩
    have HB4 := Lib.hid (hx4.heap HB3.out); clear HB3
    have HQ4 := Lib.hid (hx4.heap HQ3.out); clear HQ3
    have HX4 := Lib.hid (HX3.out.trans hx4); clear HX3 hx4
    have hcs := findI_cases L pt
    have HCS := Lib.hid hcs; clear hcs
    have HLT4 := Lib.hid (And.intro (Array.getElem?_eq_some_iff.1 HB4.out).1 (Array.getElem?_eq_some_iff.1 HQ4.out).1)
    · have c4 : ¬ (kd = 0 ∨ kd = 2) := by omega
      have C4 := Lib.hid c4
      have n0 : (kd == 0) = false := int_bne (fun e => c4 (Or.inl e))
      have n2 : (kd == 2) = false := int_bne (fun e => c4 (Or.inr e))
      rcases HCS.out with ⟨f1, f2⟩ | ⟨k, f1, f2, f3, f4⟩
      · have e : rr = (⟨L, files, nx, q⟩, 8) := by
          rw [HRR.out]; unfold stepM
          rw [if_neg C1.out, if_neg C2.out, if_neg C3.out, if_neg C4.out]
          simp only [entM, f2]
        rw [f1]
        clear f1 f2
        have E := Lib.hid e; clear e
        have b0 := blk_cell HB4.out 0 (Value.slice la ln lc) rfl
        have b1 := blk_cell HB4.out 1 (Value.slice fa n fc) rfl
        have b2 := blk_cell HB4.out 2 (Value.int .i64 nx) rfl
        have b3 := blk_cell HB4.out 3 (Value.int .i64 q) rfl
        have q0 := blk_cell HQ4.out 0 (Value.slice none 0 0) rfl
        have q1 := blk_cell HQ4.out 1 (Value.slice none 0 0) rfl
        have q2 := blk_cell HQ4.out 2 (Value.int .i64 0) rfl
        have q3 := blk_cell HQ4.out 3 (Value.int .i64 0) rfl
        have g0 := blk_free HQ4.out 0
        have g1 := blk_free HQ4.out 1
        have g2 := blk_free HQ4.out 2
        have g3 := blk_free HQ4.out 3
        go_wp2_with fail
        have e := E.out
        have hs := set4r HQ4.out (.slice la ln lc) (.slice fa n fc) (.int .i64 nx) (.int .i64 q)
        have e0 := blk_cell hs.1 0 (Value.slice la ln lc) rfl
        have e1 := blk_cell hs.1 1 (Value.slice fa n fc) rfl
        have e2 := blk_cell hs.1 2 (Value.int .i64 nx) rfl
        have e3 := blk_cell hs.1 3 (Value.int .i64 q) rfl
        refine bodyPost_ret (v := .tuple #[.agg #[.slice la ln lc, .slice fa n fc, .int .i64 nx, .int .i64 q], .int .i64 8]) (by simp [results, Tryz.results9, go_sem, e0, e1, e2, e3]) rfl ?_
        rw [HR.out, e]
        have hx : Ext w ((((w4.setCell ⟨Q, 0, none⟩ (.slice la ln lc)).setCell ⟨Q, 1, none⟩ (.slice fa n fc)).setCell ⟨Q, 2, none⟩ (.int .i64 nx)).setCell ⟨Q, 3, none⟩ (.int .i64 q)) := ((Keep.of_ext (S := fun j => j < w.heap.size) HX4.out).andThen (Keep.of_but hs.2) (fun j hj _ => by have := HBQ.out; show j ≠ Q; omega)).ext_lt
        exact HSAME.out _ hx _
      · have hkL := f1
        obtain ⟨g, off, rfl, _, c0, c1, c2⟩ := (HM.out.ents.ext HX4.out).at f1
        simp only at c0 c1 c2
        rw [f4] at c0
        have HF := Lib.hid (And.intro f1 (And.intro f2 (And.intro f3 f4)))
        have hkn : k < ln := by have := HLN.out; omega
        rw [f2]
        clear f1 f2 f3 f4 hkL
        obtain ⟨x, hx⟩ : ∃ x, x = L.getD k ez06 := ⟨_, rfl⟩
        rw [← hx] at c1 c2 HF
        clear hx
        obtain ⟨xp, xi, xd⟩ := x
        simp only at c1 c2
        have hxp : xp = pt := HF.out.2.2.2
        subst hxp
        have hent : entM ⟨L, files, nx, q⟩ xp = some ⟨xp, xi, xd⟩ := HF.out.2.2.1
        have HENT := Lib.hid hent; clear hent
        have i0 : (0 : Int) ≤ (k : Int) := by omega
        have i1 : (k : Int) < (ln : Int) := by omega
        have b0 := blk_cell HB4.out 0 (Value.slice (some ⟨g, off, none⟩) ln lc) rfl
        have b1 := blk_cell HB4.out 1 (Value.slice fa n fc) rfl
        have b2 := blk_cell HB4.out 2 (Value.int .i64 nx) rfl
        have b3 := blk_cell HB4.out 3 (Value.int .i64 q) rfl
        have q0 := blk_cell HQ4.out 0 (Value.slice none 0 0) rfl
        have q1 := blk_cell HQ4.out 1 (Value.slice none 0 0) rfl
        have q2 := blk_cell HQ4.out 2 (Value.int .i64 0) rfl
        have q3 := blk_cell HQ4.out 3 (Value.int .i64 0) rfl
        have g0 := blk_free HQ4.out 0
        have g1 := blk_free HQ4.out 1
        have g2 := blk_free HQ4.out 2
        have g3 := blk_free HQ4.out 3
        go_upto_region 20 with fail
        clear b0 b1 b2 b3 q0 q1 q2 q3 g0 g1 g2 g3 c0 c1 c2
        have hx_w5 : Ext w4 (w4.alloc (.cells #[.string (bs xp), .int .i64 xi, .bool xd] 48)) := (Ext.alloc _ _)
        have hf_P := heap_alloc_new w4 (.cells #[.string (bs xp), .int .i64 xi, .bool xd] 48)
        generalize w4.alloc (.cells #[.string (bs xp), .int .i64 xi, .bool xd] 48) = w5 at hx_w5 hf_P ⊢
        obtain ⟨P, h_P⟩ : ∃ x, x = w4.heap.size := ⟨_, rfl⟩
        rw [← h_P] at hf_P
        try rw [← h_P]
        have hs_P : w4.heap.size ≤ P := by omega
        have HB5 := Lib.hid (hx_w5.heap HB4.out); clear HB4
        have HQ5 := Lib.hid (hx_w5.heap HQ4.out); clear HQ4
        have HX5 := Lib.hid (HX4.out.trans hx_w5); clear HX4
        have hPne : P ≠ B ∧ P ≠ Q := by have := HLT4.out; omega
        have HP5 := Lib.hid hf_P; clear hf_P
        have HPN := Lib.hid (And.intro hPne hs_P)
        have HLT5 := Lib.hid (And.intro HLT4.out hx_w5.size)
        clear hPne hs_P h_P hx_w5 HCS
        subst hkd
        have p1 := blk_cell HP5.out 1 (Value.int .i64 xi) rfl
        have p2 := blk_cell HP5.out 2 (Value.bool xd) rfl
        cases xd with
        | true =>
          have e : rr = (⟨L, files, nx, q⟩, 10) := by
            rw [HRR.out]; unfold stepM
            rw [if_neg C1.out, if_neg C2.out, if_neg C3.out, if_neg C4.out]
            simp only [HENT.out]
            rfl
          have E := Lib.hid e; clear e
          have b0 := blk_cell HB5.out 0 (Value.slice (some ⟨g, off, none⟩) ln lc) rfl
          have b1 := blk_cell HB5.out 1 (Value.slice fa n fc) rfl
          have b2 := blk_cell HB5.out 2 (Value.int .i64 nx) rfl
          have b3 := blk_cell HB5.out 3 (Value.int .i64 q) rfl
          have q0 := blk_cell HQ5.out 0 (Value.slice none 0 0) rfl
          have q1 := blk_cell HQ5.out 1 (Value.slice none 0 0) rfl
          have q2 := blk_cell HQ5.out 2 (Value.int .i64 0) rfl
          have q3 := blk_cell HQ5.out 3 (Value.int .i64 0) rfl
          have g0 := blk_free HQ5.out 0
          have g1 := blk_free HQ5.out 1
          have g2 := blk_free HQ5.out 2
          have g3 := blk_free HQ5.out 3
          go_wp2_with fail
          have e := E.out
          have hs := set4r HQ5.out (.slice (some ⟨g, off, none⟩) ln lc) (.slice fa n fc) (.int .i64 nx) (.int .i64 q)
          have e0 := blk_cell hs.1 0 (Value.slice (some ⟨g, off, none⟩) ln lc) rfl
          have e1 := blk_cell hs.1 1 (Value.slice fa n fc) rfl
          have e2 := blk_cell hs.1 2 (Value.int .i64 nx) rfl
          have e3 := blk_cell hs.1 3 (Value.int .i64 q) rfl
          refine bodyPost_ret (v := .tuple #[.agg #[.slice (some ⟨g, off, none⟩) ln lc, .slice fa n fc, .int .i64 nx, .int .i64 q], .int .i64 10]) (by simp [results, Tryz.results9, go_sem, e0, e1, e2, e3]) rfl ?_
          rw [HR.out, e]
          have hx : Ext w ((((w5.setCell ⟨Q, 0, none⟩ (.slice (some ⟨g, off, none⟩) ln lc)).setCell ⟨Q, 1, none⟩ (.slice fa n fc)).setCell ⟨Q, 2, none⟩ (.int .i64 nx)).setCell ⟨Q, 3, none⟩ (.int .i64 q)) := ((Keep.of_ext (S := fun j => j < w.heap.size) HX5.out).andThen (Keep.of_but hs.2) (fun j hj _ => by have := HBQ.out; show j ≠ Q; omega)).ext_lt
          exact HSAME.out _ hx _
        | false =>
          have hdt : dt.length ≤ 3500 := by have := C3.out; omega
          have hdn3 : dn ≤ 3500 := by omega
          have HDT3 := Lib.hid hdt; clear hdt
          have e : rr = (⟨L, files.map (wroteF xi dt), nx, q⟩, 0) := by
            rw [HRR.out]; unfold stepM
            rw [if_neg C1.out, if_neg C2.out, if_neg C3.out, if_neg C4.out]
            simp only [HENT.out]
            rfl
          have E := Lib.hid e; clear e
          have b1 := blk_cell HB5.out 1 (Value.slice fa n fc) rfl
          have hBlt : B < w5.heap.size := (Array.getElem?_eq_some_iff.1 HB5.out).1
          go_wp2_with (at_builtin; refine Hid.out ?_)
          refine Lib.hid ?_
          clear b1 p1 p2 hBlt
          have hx6 := Ext.alloc w5 (.cells #[] 77)
          have hb6 := heap_alloc_new w5 (.cells #[] 77)
          generalize w5.alloc (.cells #[] 77) = w6 at hx6 hb6 ⊢
          obtain ⟨S, hS⟩ : ∃ S, S = w5.heap.size := ⟨_, rfl⟩
          rw [← hS] at hb6 ⊢
          have hS6 : S ≤ w6.heap.size := by have := hx6.size; omega
          refine wpList_append_any rfl _ _ 28 77 (.agg #[.int .i64 0, .slice none 0 0]) 2 32 rfl Tryz.underlying28 info_fil06 rfl (by decide) S (some ⟨S, 0, none⟩) 0 0 [] rfl (row_zero hb6 (Nat.le_refl _)) fa n fc (F.flatMap filV) rfl (by rw [fils_len, HFL.out]) (HM.out.fils.run.ext (HX5.out.trans hx6)) (filV_one F) (by omega) (by decide) hS6 n (by omega) ?_
          intro a7 c7 w7 hown hkp hbl
          rw [List.nil_append] at hown
          have hk7 : Keep (fun j => j < S) w5 w7 := (Keep.of_ext hx6).andThen (Keep.of_below hbl) (fun j _ hj => hj)
          have hx7 : Ext w w7 := ((Keep.of_ext (S := fun j => j < w.heap.size) HX5.out).andThen hk7 (fun j hj _ => by have := HX5.out.size; show j < S; omega)).ext_lt
          have HOWN := Lib.hid hown
          have HK7 := Lib.hid hk7
          have HDAT : Hid (∀ x ∈ F, DataM w7 x.2.oa x.1.data ∧ x.1.data.length ≤ x.2.oc ∧ x.1.data.length ≤ 3500) := Lib.hid (fun x hx => ⟨(HM.out.fils.dat x hx).1.ext hx7, (HM.out.fils.dat x hx).2⟩)
          have HBS : Hid (B < S ∧ Q < S ∧ P < S ∧ S = w5.heap.size) := Lib.hid ⟨by rw [hS]; exact (Array.getElem?_eq_some_iff.1 HB5.out).1, by rw [hS]; exact (Array.getElem?_eq_some_iff.1 HQ5.out).1, by rw [hS]; exact (Array.getElem?_eq_some_iff.1 HP5.out).1, hS⟩
          clear hown hkp hbl hk7 hx7 hx6 hb6 hS6 hS
          go_wp2_with fail
          go_loopw [17] (fun i wr => ∃ (j : Nat) (Z : List (FilD × OpA)), i = .int .i64 j ∧ j ≤ n ∧ Hid (Z.length = n) ∧ Hid (Z.map Prod.fst = (files.take j).map (wroteF xi dt) ++ files.drop j) ∧ Hid (wr.ownsRow S 77 2 (.slice a7 n c7) n (Z.flatMap filV)) ∧ Hid (∀ x ∈ Z, DataM wr x.2.oa x.1.data ∧ x.1.data.length ≤ x.2.oc ∧ x.1.data.length ≤ 3500) ∧ Hid (Keep (fun j => j < S) w5 wr)) (fun i _ => n - (intOf i).toNat)
          case atStart => exact ⟨0, F, rfl, Nat.zero_le _, HFL, Lib.hid (by rw [HM.out.fmap]; simp), HOWN, HDAT, HK7⟩
          case round =>
            clear HOWN HDAT HK7
            obtain ⟨j, Z, rfl, hj, HZL, HZM, HOW, HDA, HKW⟩ := hrel
            have hXr : Ext w wr := ((Keep.of_ext (S := fun j => j < w.heap.size) HX5.out).andThen HKW.out (fun j hj _ => by have := HX5.out.size; have := HBS.out; show j < S; omega)).ext_lt
            have HXr := Lib.hid hXr; clear hXr
            have HPr := Lib.hid (HKW.out.heap HBS.out.2.2.1 HP5.out)
            have HBr := Lib.hid (HKW.out.heap HBS.out.1 HB5.out)
            have HQr := Lib.hid (HKW.out.heap HBS.out.2.1 HQ5.out)
            by_cases hjn : j < n
            · have hjZ : j < Z.length := by have := HZL.out; omega
              have hjF : j < files.length := by have := HN.out; omega
              obtain ⟨ge, curE, rfl, hgS, hgE, z0, _, fz0, fz1, hset⟩ := own_set2 HOW.out (i := j) hjn (fz := fz06) hjZ
              have p1 := blk_cell HPr.out 1 (Value.int .i64 xi) rfl
              have hzf : (Z.getD j fz06).1 = files[j] := by
                have h1 : (Z.map Prod.fst)[j]? = some files[j] := by
                  rw [HZM.out, List.getElem?_append_right (by simp; omega)]
                  have e : j - ((files.take j).map (wroteF xi dt)).length = 0 := by simp; omega
                  rw [e, List.getElem?_drop, Nat.add_zero, List.getElem?_eq_getElem hjF]
                rw [List.getElem?_map, List.getElem?_eq_getElem hjZ] at h1
                have h1 := Option.some.inj h1
                rw [← h1]
                simp [List.getD_eq_getElem?_getD, List.getElem?_eq_getElem hjZ]
              have HZF := Lib.hid hzf; clear hzf
              have i2 : (j : Int) < (n : Int) := by omega
              have i3 : (0 : Int) ≤ (j : Int) := by omega
              obtain ⟨zi, hzi⟩ : ∃ z, z = (Z.getD j fz06).1.id := ⟨_, rfl⟩
              rw [← hzi] at z0
              have HZI := Lib.hid hzi; clear hzi
              obtain ⟨bq, hbq⟩ : ∃ b, b = (zi == xi) := ⟨_, rfl⟩
              have hbq2 : (zi == xi) = bq := hbq.symm
              have HBQ2 := Lib.hid hbq; clear hbq
              go_upto_region 37 with fail
              go_quiet (fail)
              clear z0 p1 fz0 fz1 hset hgE
              have hOd : (wr.drewN nq).ownsRow S 77 2 (.slice (some ⟨ge, 0, none⟩) n c7) n (Z.flatMap filV) := ownsRow_keep HOW.out ((Keep.refl (fun _ => True) _).drewN _) (fun _ _ _ _ _ => trivial)
              have hDd : ∀ x ∈ Z, DataM (wr.drewN nq) x.2.oa x.1.data ∧ x.1.data.length ≤ x.2.oc ∧ x.1.data.length ≤ 3500 := fun x hx => ⟨(HDA.out x hx).1.keep ((Keep.refl (fun _ => True) _).drewN _) (datas_all _), (HDA.out x hx).2⟩
              have hKd : Keep (fun j => j < S) w5 (wr.drewN nq) := HKW.out.drewN _
              generalize wr.drewN nq = wd at hOd hDd hKd ⊢
              clear HOW HDA HKW HXr HPr HBr HQr
              have HOd := Lib.hid hOd; have HDd := Lib.hid hDd; have HKd := Lib.hid hKd
              clear hOd hDd hKd
              cases bq with
              | false =>
                have hne : files[j].id ≠ xi := by
                  have := HBQ2.out
                  rw [HZI.out, HZF.out] at this
                  intro e; rw [e] at this; simp at this
                have HNE := Lib.hid hne; clear hne
                go_wp2_with fail
                go_roundw
                case rel => exact ⟨j + 1, Z, by go_num, by omega, HZL, Lib.hid (map_stay hjF HZM.out (by unfold wroteF; rw [if_neg HNE.out])), HOd, HDd, HKd⟩
                case measure => simp [intOf]; omega
              | true =>
                have heq : files[j].id = xi := by
                  have := HBQ2.out
                  rw [HZI.out, HZF.out] at this
                  simpa using this.symm
                have HEQ := Lib.hid heq; clear heq
                have hXd : Ext w wd := ((Keep.of_ext (S := fun j => j < w.heap.size) HX5.out).andThen HKd.out (fun j hj _ => by have := HX5.out.size; have := HBS.out; show j < S; omega)).ext_lt
                have HXd := Lib.hid hXd; clear hXd
                have hSd : S ≤ wd.heap.size := by have := HKd.out.size; have := HBS.out; omega
                have hcs : ∀ W, Keep (fun j => j < S) wd W → (W.cell? ⟨P, 1, none⟩ = some (.int .i64 xi)) := fun W k => blk_cell ((HKd.out.andThen k (fun j _ hj => hj)).heap HBS.out.2.2.1 HP5.out) 1 _ rfl
                have HCS := Lib.hid hcs; clear hcs
                have HK := Lib.hid (Ext.refl wd).drew
                go_upto_region 38 with fail
                refine wp_region_noPanic ?_
                refine wp_region_held_drew (S := (fun W => W.cell? ⟨P, 1, none⟩ = some (.int .i64 xi))) (by kernel_rfl) (HCS.out _ (Keep.of_ext HK.out)) (fun hHeld => ?_)
                clear hHeld
                generalize wd.drew = wc at HK ⊢
                refine wpAnyH_take (i := 0) (v := ?_) rfl (by kernel_rfl) (by kernel_rfl) (by kernel_rfl) (fun _ _ _ h => h) (Or.inl ⟨by kernel_rfl, ?_⟩) (HCS.out _ (Keep.of_ext HK.out)) ?_
                rotate_left
                · (intro wq _; first | (go_simp; done) | (go_simp; with_reducible rfl))
                try simp only [List.getElem_toArray, List.getElem_cons_zero, Act.put, List.setIfInBounds_toArray, List.set_cons_zero, List.set_cons_succ]
                refine wpAnyH_take (i := 1) (v := ?_) rfl (by kernel_rfl) (by kernel_rfl) (by kernel_rfl) (fun _ _ _ h => h) (Or.inl ⟨by kernel_rfl, ?_⟩) (HCS.out _ (Keep.of_ext HK.out)) ?_
                rotate_left
                · (intro wq _; first | (go_simp; done) | (go_simp; with_reducible rfl))
                try simp only [List.getElem_toArray, List.getElem_cons_zero, List.getElem_cons_succ, Act.put, List.setIfInBounds_toArray, List.set_cons_zero, List.set_cons_succ]
                refine wpAnyH_take (i := 2) (v := ?_) rfl (by kernel_rfl) (by kernel_rfl) (by kernel_rfl) (fun _ _ _ h => h) (Or.inl ⟨by kernel_rfl, ?_⟩) (HCS.out _ (Keep.of_ext HK.out)) ?_
                rotate_left
                · (intro wq _; first | (go_simp; done) | (go_simp; with_reducible rfl))
                try simp only [List.getElem_toArray, List.getElem_cons_zero, List.getElem_cons_succ, Act.put, List.setIfInBounds_toArray, List.set_cons_zero, List.set_cons_succ]
                refine wpAnyH_take (i := 3) (v := ?_) rfl (by kernel_rfl) (by kernel_rfl) (by kernel_rfl) (fun _ _ _ h => h) (Or.inl ⟨by kernel_rfl, ?_⟩) (HCS.out _ (Keep.of_ext HK.out)) ?_
                rotate_left
                · (intro wq hSw; (try dsimp only at hSw); first | (go_simp; done) | (go_simp; with_reducible rfl))
                try simp only [List.getElem_toArray, List.getElem_cons_zero, List.getElem_cons_succ, Act.put, List.setIfInBounds_toArray, List.set_cons_zero, List.set_cons_succ]
                refine wpAnyH_take (i := 5) (v := ?_) rfl (by kernel_rfl) (by kernel_rfl) (by kernel_rfl) (fun _ _ _ h => h) (Or.inl ⟨by kernel_rfl, ?_⟩) (HCS.out _ (Keep.of_ext HK.out)) ?_
                rotate_left
                · (intro wq _; first | (go_simp; done) | (go_simp; with_reducible rfl))
                try simp only [List.getElem_toArray, List.getElem_cons_zero, List.getElem_cons_succ, Act.put, List.setIfInBounds_toArray, List.set_cons_zero, List.set_cons_succ]
                all_goals (
                  first
                    | refine wpAnyH_ready (rs := [4]) (by decide +kernel) (by simp) ?_
                  repeat' (first | exact AllReadyH.nil | (refine AllReadyH.cons rfl (fun K hK => ?_) ?_)))
                all_goals (
                  first
                    | (go_simp
                       first
                         | (have hx := Ext.alloc wc (.cells #[] 5)
                            have hbn := heap_alloc_new wc (.cells #[] 5)
                            have hle := HK.out.size
                            refine hK.out _ (wc.alloc (.cells #[] 5)) (HCS.out _ (Keep.of_ext (HK.out.trans hx))) (fun _ => ?_)
                            clear hK K
                            replace HK := Lib.hid (HK.out.trans hx)
                            obtain ⟨GD, hB⟩ : ∃ x, x = wc.heap.size := ⟨_, rfl⟩
                            rw [← hB] at hbn hle ⊢
                            have HD := Lib.hid (row_zero (base := wd.heap.size) (size := 1) hbn hle)
                            clear hbn hB hle hx
                            generalize wc.alloc (.cells #[] 5) = wc at *
                            try simp only [List.getElem_toArray, List.getElem_cons_zero, List.getElem_cons_succ, Act.put, List.setIfInBounds_toArray, List.set_cons_zero, List.set_cons_succ])))
                all_goals (
                  first
                    | refine wpAnyH_ready (rs := [6]) (by decide +kernel) (by simp) ?_
                  repeat' (first | exact AllReadyH.nil | (refine AllReadyH.cons rfl (fun K hK => ?_) ?_)))
                all_goals (
                  first
                    | (refine step_append_any (by rfl) _ _ 36 5 (.int .u8 0) 1 1 (by rfl) Tryz.underlying36 info_byte1 rfl (by decide) wd.heap.size (some ⟨GD, 0, none⟩) 0 0 [] (by simp [Act.eval]) HD.out oa dn oc (byteV dt) (by simp [Act.eval]) (by rw [HDN.out]; simp [byteV]) ((HDT.out.ext (HXd.out.trans HK.out)).run) (byteV_one dt) (by omega) (by decide) HK.out.size dn (by omega) ?_
                       intro a6 c6 wn hown hkp hbl
                       replace HK := Lib.hid (ext_below06 HK.out hbl)
                       replace HD := Lib.hid hown
                       clear hown hkp hbl
                       refine hK.out _ _ (HCS.out _ (Keep.of_ext HK.out)) (fun _ => ?_)
                       clear hK K
                       obtain ⟨wc, rfl⟩ : ∃ x : World, x = wn := ⟨_, rfl⟩
                       try simp only [List.getElem_toArray, List.getElem_cons_zero, List.getElem_cons_succ, Act.put, List.setIfInBounds_toArray, List.set_cons_zero, List.set_cons_succ]
                       refine wpAnyH_take (i := 7) (v := ?_) rfl (by kernel_rfl) (by kernel_rfl) (by kernel_rfl) (fun _ _ _ h => h) (Or.inl ⟨by kernel_rfl, ?_⟩) (HCS.out _ (Keep.of_ext HK.out)) ?_
                       rotate_left
                       · (intro wq _; first | (go_simp; done) | (go_simp; with_reducible rfl))
                       try simp only [List.getElem_toArray, List.getElem_cons_zero, List.getElem_cons_succ, Act.put, List.setIfInBounds_toArray, List.set_cons_zero, List.set_cons_succ]
                       refine wpAnyH_take (i := 8) (v := ?_) rfl (by kernel_rfl) (by kernel_rfl) (by kernel_rfl) (fun _ _ _ h => h) (Or.inl ⟨by kernel_rfl, ?_⟩) (HCS.out _ (Keep.of_ext HK.out)) ?_
                       rotate_left
                       · (intro wq _; first | (go_simp; done) | (go_simp; with_reducible rfl))
                       try simp only [List.getElem_toArray, List.getElem_cons_zero, List.getElem_cons_succ, Act.put, List.setIfInBounds_toArray, List.set_cons_zero, List.set_cons_succ]))
                all_goals (
                  refine wpAnyH_ready (rs := [9]) (by kernel_rfl) (by simp) ?_
                  refine AllReadyH.cons rfl (fun K hK => ?_) AllReadyH.nil
                  have hOc := ownsRow_keep HOd.out (Keep.of_ext (S := fun _ => True) HK.out) (fun _ _ _ _ _ => trivial)
                  obtain ⟨ge2, curE, hge, hgS2, hgE, z0, z1, fz0, fz1, hset⟩ := own_set2 hOc (i := j) hjn (fz := fz06) hjZ
                  cases hge
                  go_simp
                  have hs := hset (⟨xi, dt⟩, ⟨a6, c6⟩)
                  simp only [← HDN.out] at hs
                  have hkeep : Keep (fun j => j < S) wd ((wc.setCell ⟨ge, j * 2, none⟩ (.int .i64 xi)).setCell ⟨ge, j * 2 + 1, none⟩ (.slice a6 dn c6)) := (Keep.of_ext HK.out).andThen (Keep.of_but hs.2) (fun j _ hj => by show j ≠ ge; omega)
                  have hdd := HD.out
                  rw [List.nil_append] at hdd
                  obtain ⟨a', c', hv, hdc, hdm, _⟩ := DataM.of_row hdd
                  cases hv
                  have hdat : ∀ x ∈ Z.set j ((⟨xi, dt⟩, ⟨a6, c6⟩) : FilD × OpA), DataM ((wc.setCell ⟨ge, j * 2, none⟩ (.int .i64 xi)).setCell ⟨ge, j * 2 + 1, none⟩ (.slice a6 dn c6)) x.2.oa x.1.data ∧ x.1.data.length ≤ x.2.oc ∧ x.1.data.length ≤ 3500 := by
                    intro x hx
                    rcases List.mem_or_eq_of_mem_set hx with h | h
                    · exact ⟨((HDd.out x h).1.ext HK.out).keep (Keep.of_but hs.2) (datas_cells hgE (by decide)), (HDd.out x h).2⟩
                    · rw [h]
                      exact ⟨hdm.keep (Keep.of_but hs.2) (datas_cells hgE (by decide)), by show dt.length ≤ c6; rw [← HDN.out]; exact hdc, HDT3.out⟩
                  have HW2 := Lib.hid (And.intro hs.1 (And.intro hdat (HKd.out.andThen hkeep (fun j _ hj => hj))))
                  have hcs2 := HCS.out _ hkeep
                  clear hOc hgE z0 z1 fz0 fz1 hset hs hkeep hdd hdm hdat
                  refine hK.out _ _ hcs2 (fun _ => ?_)
                  clear hK K hcs2
                  generalize ((wc.setCell ⟨ge, j * 2, none⟩ (.int .i64 xi)).setCell ⟨ge, j * 2 + 1, none⟩ (.slice a6 dn c6)) = wc at HW2 ⊢
                  try simp only [List.getElem_toArray, List.getElem_cons_zero, List.getElem_cons_succ, Act.put, List.setIfInBounds_toArray, List.set_cons_zero, List.set_cons_succ])
                all_goals (
                  refine wpAnyH_done (by kernel_rfl) ?_ _
                  refine NoPanic.normal ?_
                  rcases HW2.out with ⟨h1, h2, h3⟩
                  go_wp2_with fail
                  go_roundw
                  case rel => exact ⟨j + 1, Z.set j ((⟨xi, dt⟩, ⟨a6, c6⟩) : FilD × OpA), by go_num, by omega, Lib.hid (by rw [List.length_set]; exact HZL.out), Lib.hid (by
                    rw [List.map_set, ← map_set_step hjF HZM.out]
                    unfold wroteF
                    rw [if_pos HEQ.out]), Lib.hid h1, Lib.hid h2, Lib.hid h3⟩
                  case measure => simp [intOf]; omega)
            · have hZE : Z.map Prod.fst = files.map (wroteF xi dt) := by
                have := HZM.out
                rw [List.take_of_length_le (by have := HN.out; omega), List.drop_eq_nil_of_le (by have := HN.out; omega), List.append_nil] at this
                exact this
              have HZE := Lib.hid hZE; clear hZE
              have b1 := blk_cell HBr.out 1 (Value.slice fa n fc) rfl
              have g1 := blk_free HBr.out 1
              go_upto_region 40 with fail
              clear b1 g1
              have hs := setCell_row (i := 1) HBr.out (.slice a7 n c7)
              have hbu := (But.refl B wr).setCell 1 (.slice a7 n c7)
              have hQn := (Keep.of_but hbu).heap (fun e => HBQ.out.2.2.1 e.symm) HQr.out
              have hXn : Ext w (wr.setCell ⟨B, 1, none⟩ (.slice a7 n c7)) := ((Keep.of_ext (S := fun j => j < w.heap.size) HXr.out).andThen (Keep.of_but hbu) (fun j hj _ => by have := HBQ.out; show j ≠ B; omega)).ext_lt
              generalize wr.setCell ⟨B, 1, none⟩ (.slice a7 n c7) = w9 at hs hbu hQn hXn ⊢
              have hBn : w9.heap[B]? = some (.cells #[.slice (some ⟨g, off, none⟩) ln lc, .slice a7 n c7, .int .i64 nx, .int .i64 q] 30 (0, 0)) := by simpa using hs
              have HB_w9 := Lib.hid hBn
              have HQ_w9 := Lib.hid hQn
              have HX_w9 := Lib.hid hXn
              have HU_w9 := Lib.hid hbu
              clear hs hbu hQn hXn hBn
              have b0 := blk_cell HB_w9.out 0 (Value.slice (some ⟨g, off, none⟩) ln lc) rfl
              have b1 := blk_cell HB_w9.out 1 (Value.slice a7 n c7) rfl
              have b2 := blk_cell HB_w9.out 2 (Value.int .i64 nx) rfl
              have b3 := blk_cell HB_w9.out 3 (Value.int .i64 q) rfl
              have q0 := blk_cell HQ_w9.out 0 (Value.slice none 0 0) rfl
              have q1 := blk_cell HQ_w9.out 1 (Value.slice none 0 0) rfl
              have q2 := blk_cell HQ_w9.out 2 (Value.int .i64 0) rfl
              have q3 := blk_cell HQ_w9.out 3 (Value.int .i64 0) rfl
              have g0 := blk_free HQ_w9.out 0
              have g1 := blk_free HQ_w9.out 1
              have g2 := blk_free HQ_w9.out 2
              have g3 := blk_free HQ_w9.out 3
              go_wp2_with fail
              have e := E.out
              have hs := set4r HQ_w9.out (.slice (some ⟨g, off, none⟩) ln lc) (.slice a7 n c7) (.int .i64 nx) (.int .i64 q)
              have e0 := blk_cell hs.1 0 (Value.slice (some ⟨g, off, none⟩) ln lc) rfl
              have e1 := blk_cell hs.1 1 (Value.slice a7 n c7) rfl
              have e2 := blk_cell hs.1 2 (Value.int .i64 nx) rfl
              have e3 := blk_cell hs.1 3 (Value.int .i64 q) rfl
              refine bodyPost_ret (v := .tuple #[.agg #[.slice (some ⟨g, off, none⟩) ln lc, .slice a7 n c7, .int .i64 nx, .int .i64 q], .int .i64 0]) (by simp [results, Tryz.results9, go_sem, e0, e1, e2, e3]) rfl ?_
              rw [HR.out, e]
              have hx : Ext w ((((w9.setCell ⟨Q, 0, none⟩ (.slice (some ⟨g, off, none⟩) ln lc)).setCell ⟨Q, 1, none⟩ (.slice a7 n c7)).setCell ⟨Q, 2, none⟩ (.int .i64 nx)).setCell ⟨Q, 3, none⟩ (.int .i64 q)) := ((Keep.of_ext (S := fun j => j < w.heap.size) HX_w9.out).andThen (Keep.of_but hs.2) (fun j hj _ => by have := HBQ.out; show j ≠ Q; omega)).ext_lt
              have hkq : Keep (fun j => j ≠ B ∧ j ≠ Q) wr _ := ((Keep.of_but HU_w9.out).mono (fun j _ hj => hj.1)).andThen (Keep.of_but hs.2) (fun j _ hj => hj.2)
              have hml : (files.map (wroteF xi dt)).length = n := by rw [List.length_map, HN.out]
              obtain ⟨a', c', hv, hcc, hrun, hfr⟩ := run_of_row HOW.out
              cases hv
              refine ⟨⟨some ⟨g, off, none⟩, lc, a7, c7, Z⟩, ?_, ⟨HM.out.ents.ext hx, HM.out.elen, ⟨runM_keep hrun hkq (fun ad h => ?_), fun y hy => ?_⟩, ?_, HZE.out⟩, hx⟩
              · unfold refV
                simp only
                rw [hml, ← HLN.out]
              · have h1 := hfr ad h
                have h2 := HBS.out
                exact ⟨by omega, by omega⟩
              · have hd := HDA.out y hy
                exact ⟨hd.1.keep hkq (fun gg cs fr hg => ⟨datas_cells HBr.out (by decide) gg cs fr hg, datas_cells HQr.out (by decide) gg cs fr hg⟩), hd.2⟩
              · simp only
                rw [hml]; exact hcc
end Go.Proofs.YtldgpcmnmegioaaGreatDoor
