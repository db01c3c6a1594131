/- farrierref06.Step: kd = 4 ∨ kd = 5 ∨ kd = 6. -/
import Derived.Test.YtldgpcmnmegioaaGreatDoorM4
namespace Go.Proofs.YtldgpcmnmegioaaGreatDoor
open Go.RowKit
attribute [local go_sem ↓] Go.wp_at_zero Go.wp_at_succ
set_option maxRecDepth 100000 in
set_option maxHeartbeats 51200000 in
theorem ref_stepD (m : RefD) (A : RefA) (kd : Int) (pt ds dt : By) (oa : Option Addr) (oc : Nat) (w : World) (hM : RefM w m A) (hB : Bytes w oa dt) (hdl : dt.length ≤ 100000000000) (hl : m.list.length ≤ 1000000000) (hf : m.files.length ≤ 1000000000) (hnx : -1000000000000 ≤ m.next ∧ m.next ≤ 1000000000000) (hp : pt.length ≤ 100000) (hs : ∀ e ∈ m.list, e.path.length ≤ 100000) (hkd : kd = 4 ∨ kd = 5 ∨ kd = 6) :
    Calls Tryz.prog 9 #[refV m A, .int .i64 kd, .string (bs pt), .string (bs ds), .slice oa dt.length oc] w (RefE (stepM m ⟨kd, pt, ds, dt⟩).1 (stepM m ⟨kd, pt, ds, dt⟩).2 w) := by
  obtain ⟨rr, hrr⟩ : ∃ rr, rr = stepM m ⟨kd, pt, ds, dt⟩ := ⟨_, rfl⟩
  rw [← hrr]
  have HRR := Lib.hid hrr; clear hrr
  obtain ⟨R, hR⟩ : ∃ R, R = RefE rr.1 rr.2 w := ⟨_, rfl⟩
  rw [← hR]
  have HR := Lib.hid hR; clear hR
  have hfl := hM.flen'
  obtain ⟨L, files, nx, q⟩ := m
  obtain ⟨la, lc, fa, fc, F⟩ := A
  unfold refV
  simp only at hl hf hfl hnx hs ⊢
  have hpl := fun d W (k : Ext w W) => ref_place L la lc fa files.length fc nx q d W (hM.ents.ext k) (by omega)
  have hfd := fun d W (k : Ext w W) => ref_find L la lc fa files.length fc nx q d W (hM.ents.ext k) (by omega)
  have HM := Lib.hid hM; clear hM
  have HDT := Lib.hid hB; clear hB
  have HSH := Lib.hid hs; clear hs
  obtain ⟨ln, hln⟩ : ∃ n, n = L.length := ⟨_, rfl⟩
  obtain ⟨n, hn⟩ : ∃ n, n = files.length := ⟨_, rfl⟩
  obtain ⟨dn, hdn⟩ : ∃ n, n = dt.length := ⟨_, rfl⟩
  rw [← hln] at hl hpl hfd ⊢
  rw [← hn] at hf hfl hpl hfd ⊢
  rw [← hdn] at hdl ⊢
  have HLN := Lib.hid hln; clear hln
  have HN := Lib.hid hn; clear hn
  have HDN := Lib.hid hdn; clear hdn
  have HFL := Lib.hid hfl; clear hfl
  have HPL := Lib.hid hpl; clear hpl
  have HFD := Lib.hid hfd; clear hfd
  have hsame : ∀ W, Ext w W → ∀ code, RefE ⟨L, files, nx, q⟩ code w (.returned (.tuple #[.agg #[.slice la ln lc, .slice fa n fc, .int .i64 nx, .int .i64 q], .int .i64 code])) W := fun W k code => ⟨⟨la, lc, fa, fc, F⟩, by rw [HLN.out, HN.out]; rfl, HM.out.ext k, k⟩
  have HSAME := Lib.hid hsame; clear hsame
  go_enter Tryz.func9, Tryz.ntmps9
  go_upto_region 1 with fail
  have hx_w2 : Ext w ((w.alloc (.cells #[.slice la ln lc, .slice fa n fc, .int .i64 nx, .int .i64 q] 30)).alloc (.cells #[.slice none 0 0, .slice none 0 0, .int .i64 0, .int .i64 0] 30)) := ((Ext.alloc _ _).trans (Ext.alloc _ _))
  have hf_B := (Ext.alloc (w.alloc (.cells #[.slice la ln lc, .slice fa n fc, .int .i64 nx, .int .i64 q] 30)) (.cells #[.slice none 0 0, .slice none 0 0, .int .i64 0, .int .i64 0] 30)).heap (heap_alloc_new w (.cells #[.slice la ln lc, .slice fa n fc, .int .i64 nx, .int .i64 q] 30))
  have hf_Q := heap_alloc_new (w.alloc (.cells #[.slice la ln lc, .slice fa n fc, .int .i64 nx, .int .i64 q] 30)) (.cells #[.slice none 0 0, .slice none 0 0, .int .i64 0, .int .i64 0] 30)
  simp only [World.size_alloc] at hf_Q
  generalize (w.alloc (.cells #[.slice la ln lc, .slice fa n fc, .int .i64 nx, .int .i64 q] 30)).alloc (.cells #[.slice none 0 0, .slice none 0 0, .int .i64 0, .int .i64 0] 30) = w2 at hx_w2 hf_B hf_Q ⊢
  obtain ⟨B, h_B⟩ : ∃ x, x = w.heap.size := ⟨_, rfl⟩
  obtain ⟨Q, h_Q⟩ : ∃ x, x = w.heap.size + 1 := ⟨_, rfl⟩
  rw [← h_Q] at hf_Q
  rw [← h_B] at hf_B
  try rw [← h_Q, ← h_B]
  have hs_B : w.heap.size ≤ B := by omega
  have hs_Q : w.heap.size ≤ Q := by omega
  have hBQ : w.heap.size ≤ B ∧ w.heap.size ≤ Q ∧ B ≠ Q ∧ Q < w2.heap.size ∧ B < w2.heap.size := ⟨hs_B, hs_Q, by omega, (Array.getElem?_eq_some_iff.1 hf_Q).1, (Array.getElem?_eq_some_iff.1 hf_B).1⟩
  have HBQ := Lib.hid hBQ; clear hBQ hs_B hs_Q h_B h_Q
  have HB := Lib.hid hf_B; clear hf_B
  have HQ := Lib.hid hf_Q; clear hf_Q
  have HX := Lib.hid hx_w2; clear hx_w2
  have k1 : ¬ kd < 0 := by omega
  have k2 : ¬ 6 < kd := by omega
  have hd1 : decide (kd < 0) = false := decide_eq_false k1
  have hd2 : decide (6 < kd) = false := decide_eq_false k2
  have hk06 : 0 ≤ kd ∧ kd ≤ 6 := by omega
  have C1 : Hid (¬ (kd < 0 ∨ 6 < kd)) := Lib.hid (by omega)
  have b0 := blk_cell HB.out 0 (Value.slice la ln lc) rfl
  have b1 := blk_cell HB.out 1 (Value.slice fa n fc) rfl
  have b2 := blk_cell HB.out 2 (Value.int .i64 nx) rfl
  have b3 := blk_cell HB.out 3 (Value.int .i64 q) rfl
  have q0 := blk_cell HQ.out 0 (Value.slice none 0 0) rfl
  have q1 := blk_cell HQ.out 1 (Value.slice none 0 0) rfl
  have q2 := blk_cell HQ.out 2 (Value.int .i64 0) rfl
  have q3 := blk_cell HQ.out 3 (Value.int .i64 0) rfl
  have g0 := blk_free HQ.out 0
  have g1 := blk_free HQ.out 1
  have g2 := blk_free HQ.out 2
  have g3 := blk_free HQ.out 3
  go_wp2_with (go_at_call 27; refine Hid.out ?_)
  refine Lib.hid ?_
  clear b0 b1 b2 b3 q0 q1 q2 q3 g0 g1 g2 g3
  refine (HPL.out pt _ HX.out).mono ?_
  rintro E w3 ⟨rfl, hx3⟩
  have HB3 := Lib.hid (hx3.heap HB.out); clear HB
  have HQ3 := Lib.hid (hx3.heap HQ.out); clear HQ
  have HX3 := Lib.hid (HX.out.trans hx3); clear HX hx3
  by_cases p0 : placeL L pt = 0
  case neg =>
    have e : rr = (⟨L, files, nx, q⟩, placeL L pt) := by rw [HRR.out]; unfold stepM; rw [if_neg C1.out, ← placeL_eq, if_pos p0]
    generalize placeL L pt = pz at p0 e ⊢
    have hb := int_bne p0
    have hb2 : (pz != 0) = true := by simp [p0]
    have b0 := blk_cell HB3.out 0 (Value.slice la ln lc) rfl
    have b1 := blk_cell HB3.out 1 (Value.slice fa n fc) rfl
    have b2 := blk_cell HB3.out 2 (Value.int .i64 nx) rfl
    have b3 := blk_cell HB3.out 3 (Value.int .i64 q) rfl
    have q0 := blk_cell HQ3.out 0 (Value.slice none 0 0) rfl
    have q1 := blk_cell HQ3.out 1 (Value.slice none 0 0) rfl
    have q2 := blk_cell HQ3.out 2 (Value.int .i64 0) rfl
    have q3 := blk_cell HQ3.out 3 (Value.int .i64 0) rfl
    have g0 := blk_free HQ3.out 0
    have g1 := blk_free HQ3.out 1
    have g2 := blk_free HQ3.out 2
    have g3 := blk_free HQ3.out 3
    have E := Lib.hid e; clear e
    go_wp2_with fail
    have e := E.out
    have hs := set4r HQ3.out (.slice la ln lc) (.slice fa n fc) (.int .i64 nx) (.int .i64 q)
    have e0 := blk_cell hs.1 0 (Value.slice la ln lc) rfl
    have e1 := blk_cell hs.1 1 (Value.slice fa n fc) rfl
    have e2 := blk_cell hs.1 2 (Value.int .i64 nx) rfl
    have e3 := blk_cell hs.1 3 (Value.int .i64 q) rfl
    refine bodyPost_ret (v := .tuple #[.agg #[.slice la ln lc, .slice fa n fc, .int .i64 nx, .int .i64 q], .int .i64 pz]) (by simp [results, Tryz.results9, go_sem, e0, e1, e2, e3]) rfl ?_
    rw [HR.out, e]
    have hx : Ext w ((((w3.setCell ⟨Q, 0, none⟩ (.slice la ln lc)).setCell ⟨Q, 1, none⟩ (.slice fa n fc)).setCell ⟨Q, 2, none⟩ (.int .i64 nx)).setCell ⟨Q, 3, none⟩ (.int .i64 q)) := ((Keep.of_ext (S := fun j => j < w.heap.size) HX3.out).andThen (Keep.of_but hs.2) (fun j hj _ => by have := HBQ.out; show j ≠ Q; omega)).ext_lt
    exact HSAME.out _ hx _
  case pos =>
    have C2 : Hid (¬ placeM ⟨L, files, nx, q⟩ pt ≠ 0) := Lib.hid (by rw [← placeL_eq]; simpa using p0)
    rw [p0]
    clear p0
    by_cases hlen : 3500 < dn
    · have hd3 : decide ((3500 : Int) < (dn : Int)) = true := decide_eq_true (by omega)
      have e : rr = (⟨L, files, nx, q⟩, 6) := by rw [HRR.out]; unfold stepM; rw [if_neg C1.out, if_neg C2.out, if_pos (by rw [← HDN.out]; exact hlen)]
      have b0 := blk_cell HB3.out 0 (Value.slice la ln lc) rfl
      have b1 := blk_cell HB3.out 1 (Value.slice fa n fc) rfl
      have b2 := blk_cell HB3.out 2 (Value.int .i64 nx) rfl
      have b3 := blk_cell HB3.out 3 (Value.int .i64 q) rfl
      have q0 := blk_cell HQ3.out 0 (Value.slice none 0 0) rfl
      have q1 := blk_cell HQ3.out 1 (Value.slice none 0 0) rfl
      have q2 := blk_cell HQ3.out 2 (Value.int .i64 0) rfl
      have q3 := blk_cell HQ3.out 3 (Value.int .i64 0) rfl
      have g0 := blk_free HQ3.out 0
      have g1 := blk_free HQ3.out 1
      have g2 := blk_free HQ3.out 2
      have g3 := blk_free HQ3.out 3
      have E := Lib.hid e; clear e
      go_wp2_with fail
      have e := E.out
      have hs := set4r HQ3.out (.slice la ln lc) (.slice fa n fc) (.int .i64 nx) (.int .i64 q)
      have e0 := blk_cell hs.1 0 (Value.slice la ln lc) rfl
      have e1 := blk_cell hs.1 1 (Value.slice fa n fc) rfl
      have e2 := blk_cell hs.1 2 (Value.int .i64 nx) rfl
      have e3 := blk_cell hs.1 3 (Value.int .i64 q) rfl
      refine bodyPost_ret (v := .tuple #[.agg #[.slice la ln lc, .slice fa n fc, .int .i64 nx, .int .i64 q], .int .i64 6]) (by simp [results, Tryz.results9, go_sem, e0, e1, e2, e3]) rfl ?_
      rw [HR.out, e]
      have hx : Ext w ((((w3.setCell ⟨Q, 0, none⟩ (.slice la ln lc)).setCell ⟨Q, 1, none⟩ (.slice fa n fc)).setCell ⟨Q, 2, none⟩ (.int .i64 nx)).setCell ⟨Q, 3, none⟩ (.int .i64 q)) := ((Keep.of_ext (S := fun j => j < w.heap.size) HX3.out).andThen (Keep.of_but hs.2) (fun j hj _ => by have := HBQ.out; show j ≠ Q; omega)).ext_lt
      exact HSAME.out _ hx _
    have hd3 : decide ((3500 : Int) < (dn : Int)) = false := decide_eq_false (by omega)
    have C3 : Hid (¬ 3500 < dt.length) := Lib.hid (by rw [← HDN.out]; exact hlen)
    have b0 := blk_cell HB3.out 0 (Value.slice la ln lc) rfl
    have b1 := blk_cell HB3.out 1 (Value.slice fa n fc) rfl
    have b2 := blk_cell HB3.out 2 (Value.int .i64 nx) rfl
    have b3 := blk_cell HB3.out 3 (Value.int .i64 q) rfl
    have q0 := blk_cell HQ3.out 0 (Value.slice none 0 0) rfl
    have q1 := blk_cell HQ3.out 1 (Value.slice none 0 0) rfl
    have q2 := blk_cell HQ3.out 2 (Value.int .i64 0) rfl
    have q3 := blk_cell HQ3.out 3 (Value.int .i64 0) rfl
    have g0 := blk_free HQ3.out 0
    have g1 := blk_free HQ3.out 1
    have g2 := blk_free HQ3.out 2
    have g3 := blk_free HQ3.out 3
    go_wp2_with (go_at_call 14; refine Hid.out ?_)
    refine Lib.hid ?_
    clear b0 b1 b2 b3 q0 q1 q2 q3 g0 g1 g2 g3
    refine (HFD.out pt _ HX3.out).mono ?_
    rintro E w4 ⟨rfl, hx4⟩
    have HB4 := Lib.hid (hx4.heap HB3.out); clear HB3
    have HQ4 := Lib.hid (hx4.heap HQ3.out); clear HQ3
    have HX4 := Lib.hid (HX3.out.trans hx4); clear HX3 hx4
    have hcs := findI_cases L pt
    have HCS := Lib.hid hcs; clear hcs
    have HLT4 := Lib.hid (And.intro (Array.getElem?_eq_some_iff.1 HB4.out).1 (Array.getElem?_eq_some_iff.1 HQ4.out).1)
    · have c4 : ¬ (kd = 0 ∨ kd = 2) := by omega
      have C4 := Lib.hid c4
      have n0 : (kd == 0) = false := int_bne (fun e => c4 (Or.inl e))
      have n2 : (kd == 2) = false := int_bne (fun e => c4 (Or.inr e))
      rcases HCS.out with ⟨f1, f2⟩ | ⟨k, f1, f2, f3, f4⟩
      · have e : rr = (⟨L, files, nx, q⟩, 8) := by
          rw [HRR.out]; unfold stepM
          rw [if_neg C1.out, if_neg C2.out, if_neg C3.out, if_neg C4.out]
          simp only [entM, f2]
        rw [f1]
        clear f1 f2
        have E := Lib.hid e; clear e
        have b0 := blk_cell HB4.out 0 (Value.slice la ln lc) rfl
        have b1 := blk_cell HB4.out 1 (Value.slice fa n fc) rfl
        have b2 := blk_cell HB4.out 2 (Value.int .i64 nx) rfl
        have b3 := blk_cell HB4.out 3 (Value.int .i64 q) rfl
        have q0 := blk_cell HQ4.out 0 (Value.slice none 0 0) rfl
        have q1 := blk_cell HQ4.out 1 (Value.slice none 0 0) rfl
        have q2 := blk_cell HQ4.out 2 (Value.int .i64 0) rfl
        have q3 := blk_cell HQ4.out 3 (Value.int .i64 0) rfl
        have g0 := blk_free HQ4.out 0
        have g1 := blk_free HQ4.out 1
        have g2 := blk_free HQ4.out 2
        have g3 := blk_free HQ4.out 3
        go_wp2_with fail
        have e := E.out
        have hs := set4r HQ4.out (.slice la ln lc) (.slice fa n fc) (.int .i64 nx) (.int .i64 q)
        have e0 := blk_cell hs.1 0 (Value.slice la ln lc) rfl
        have e1 := blk_cell hs.1 1 (Value.slice fa n fc) rfl
        have e2 := blk_cell hs.1 2 (Value.int .i64 nx) rfl
        have e3 := blk_cell hs.1 3 (Value.int .i64 q) rfl
        refine bodyPost_ret (v := .tuple #[.agg #[.slice la ln lc, .slice fa n fc, .int .i64 nx, .int .i64 q], .int .i64 8]) (by simp [results, Tryz.results9, go_sem, e0, e1, e2, e3]) rfl ?_
        rw [HR.out, e]
        have hx : Ext w ((((w4.setCell ⟨Q, 0, none⟩ (.slice la ln lc)).setCell ⟨Q, 1, none⟩ (.slice fa n fc)).setCell ⟨Q, 2, none⟩ (.int .i64 nx)).setCell ⟨Q, 3, none⟩ (.int .i64 q)) := ((Keep.of_ext (S := fun j => j < w.heap.size) HX4.out).andThen (Keep.of_but hs.2) (fun j hj _ => by have := HBQ.out; show j ≠ Q; omega)).ext_lt
        exact HSAME.out _ hx _
      · have hkL := f1
        obtain ⟨g, off, rfl, _, c0, c1, c2⟩ := (HM.out.ents.ext HX4.out).at f1
        simp only at c0 c1 c2
        rw [f4] at c0
        have HF := Lib.hid (And.intro f1 (And.intro f2 (And.intro f3 f4)))
        have hkn : k < ln := by have := HLN.out; omega
        rw [f2]
        clear f1 f2 f3 f4 hkL
        obtain ⟨x, hx⟩ : ∃ x, x = L.getD k ez06 := ⟨_, rfl⟩
        rw [← hx] at c1 c2 HF
        clear hx
        obtain ⟨xp, xi, xd⟩ := x
        simp only at c1 c2
        have hxp : xp = pt := HF.out.2.2.2
        subst hxp
        have hent : entM ⟨L, files, nx, q⟩ xp = some ⟨xp, xi, xd⟩ := HF.out.2.2.1
        have HENT := Lib.hid hent; clear hent
        have i0 : (0 : Int) ≤ (k : Int) := by omega
        have i1 : (k : Int) < (ln : Int) := by omega
        have b0 := blk_cell HB4.out 0 (Value.slice (some ⟨g, off, none⟩) ln lc) rfl
        have b1 := blk_cell HB4.out 1 (Value.slice fa n fc) rfl
        have b2 := blk_cell HB4.out 2 (Value.int .i64 nx) rfl
        have b3 := blk_cell HB4.out 3 (Value.int .i64 q) rfl
        have q0 := blk_cell HQ4.out 0 (Value.slice none 0 0) rfl
        have q1 := blk_cell HQ4.out 1 (Value.slice none 0 0) rfl
        have q2 := blk_cell HQ4.out 2 (Value.int .i64 0) rfl
        have q3 := blk_cell HQ4.out 3 (Value.int .i64 0) rfl
        have g0 := blk_free HQ4.out 0
        have g1 := blk_free HQ4.out 1
        have g2 := blk_free HQ4.out 2
        have g3 := blk_free HQ4.out 3
        go_upto_region 20 with fail
        clear b0 b1 b2 b3 q0 q1 q2 q3 g0 g1 g2 g3 c0 c1 c2
        have hx_w5 : Ext w4 (w4.alloc (.cells #[.string (bs xp), .int .i64 xi, .bool xd] 48)) := (Ext.alloc _ _)
        have hf_P := heap_alloc_new w4 (.cells #[.string (bs xp), .int .i64 xi, .bool xd] 48)
        generalize w4.alloc (.cells #[.string (bs xp), .int .i64 xi, .bool xd] 48) = w5 at hx_w5 hf_P ⊢
        obtain ⟨P, h_P⟩ : ∃ x, x = w4.heap.size := ⟨_, rfl⟩
        rw [← h_P] at hf_P
        try rw [← h_P]
        have hs_P : w4.heap.size ≤ P := by omega
        have HB5 := Lib.hid (hx_w5.heap HB4.out); clear HB4
        have HQ5 := Lib.hid (hx_w5.heap HQ4.out); clear HQ4
        have HX5 := Lib.hid (HX4.out.trans hx_w5); clear HX4
        have hPne : P ≠ B ∧ P ≠ Q := by have := HLT4.out; omega
        have HP5 := Lib.hid hf_P; clear hf_P
        have HPN := Lib.hid (And.intro hPne hs_P)
        have HLT5 := Lib.hid (And.intro HLT4.out hx_w5.size)
        clear hPne hs_P h_P hx_w5 HCS
        have hk456 : (kd == 1) = false ∧ (kd == 3) = false := ⟨int_bne (by omega), int_bne (by omega)⟩
        have n1 := hk456.1
        have n3 := hk456.2
        have p2 := blk_cell HP5.out 2 (Value.bool xd) rfl
        cases xd with
        | true =>
          have e : rr = (⟨L, files, nx, q⟩, 10) := by
            rw [HRR.out]; unfold stepM
            rw [if_neg C1.out, if_neg C2.out, if_neg C3.out, if_neg C4.out]
            simp only [HENT.out]
            rw [if_neg (by omega)]
            rfl
          have E := Lib.hid e; clear e
          have b0 := blk_cell HB5.out 0 (Value.slice (some ⟨g, off, none⟩) ln lc) rfl
          have b1 := blk_cell HB5.out 1 (Value.slice fa n fc) rfl
          have b2 := blk_cell HB5.out 2 (Value.int .i64 nx) rfl
          have b3 := blk_cell HB5.out 3 (Value.int .i64 q) rfl
          have q0 := blk_cell HQ5.out 0 (Value.slice none 0 0) rfl
          have q1 := blk_cell HQ5.out 1 (Value.slice none 0 0) rfl
          have q2 := blk_cell HQ5.out 2 (Value.int .i64 0) rfl
          have q3 := blk_cell HQ5.out 3 (Value.int .i64 0) rfl
          have g0 := blk_free HQ5.out 0
          have g1 := blk_free HQ5.out 1
          have g2 := blk_free HQ5.out 2
          have g3 := blk_free HQ5.out 3
          go_wp2_with fail
          have e := E.out
          have hs := set4r HQ5.out (.slice (some ⟨g, off, none⟩) ln lc) (.slice fa n fc) (.int .i64 nx) (.int .i64 q)
          have e0 := blk_cell hs.1 0 (Value.slice (some ⟨g, off, none⟩) ln lc) rfl
          have e1 := blk_cell hs.1 1 (Value.slice fa n fc) rfl
          have e2 := blk_cell hs.1 2 (Value.int .i64 nx) rfl
          have e3 := blk_cell hs.1 3 (Value.int .i64 q) rfl
          refine bodyPost_ret (v := .tuple #[.agg #[.slice (some ⟨g, off, none⟩) ln lc, .slice fa n fc, .int .i64 nx, .int .i64 q], .int .i64 10]) (by simp [results, Tryz.results9, go_sem, e0, e1, e2, e3]) rfl ?_
          rw [HR.out, e]
          have hx : Ext w ((((w5.setCell ⟨Q, 0, none⟩ (.slice (some ⟨g, off, none⟩) ln lc)).setCell ⟨Q, 1, none⟩ (.slice fa n fc)).setCell ⟨Q, 2, none⟩ (.int .i64 nx)).setCell ⟨Q, 3, none⟩ (.int .i64 q)) := ((Keep.of_ext (S := fun j => j < w.heap.size) HX5.out).andThen (Keep.of_but hs.2) (fun j hj _ => by have := HBQ.out; show j ≠ Q; omega)).ext_lt
          exact HSAME.out _ hx _
        | false =>
          have hst : stepM ⟨L, files, nx, q⟩ ⟨kd, xp, ds, dt⟩ = (if kd = 6 then (lessM ⟨L, files, nx, q⟩ xp, 0)
              else if placeM ⟨L, files, nx, q⟩ ds ≠ 0 then (⟨L, files, nx, q⟩, placeM ⟨L, files, nx, q⟩ ds)
              else match entM ⟨L, files, nx, q⟩ ds with
                | some j =>
                  if kd = 4 then (⟨L, files, nx, q⟩, 9)
                  else if j.dir = true then (⟨L, files, nx, q⟩, 10)
                  else if j.id = xi then (⟨L, files, nx, q⟩, 0)
                  else (moreM (lessM (lessM ⟨L, files, nx, q⟩ ds) xp) ⟨ds, xi, false⟩, 0)
                | none =>
                  if kd = 4 then (moreM ⟨L, files, nx, q⟩ ⟨ds, xi, false⟩, 0)
                  else (moreM (lessM ⟨L, files, nx, q⟩ xp) ⟨ds, xi, false⟩, 0)) := by
            unfold stepM
            rw [if_neg C1.out, if_neg C2.out, if_neg C3.out, if_neg C4.out]
            simp only [HENT.out]
            rw [if_neg (by omega), if_neg (by simp), if_neg (by omega)]
            rfl
          rw [hst] at HRR
          clear hst
          by_cases k6 : kd = 6
          · rw [if_pos k6] at HRR
            subst k6
            have hwo := ref_without L (some ⟨g, off, none⟩) lc k w5 (HM.out.ents.ext HX5.out) HM.out.elen HF.out.1 (by have := HLN.out; omega)
            rw [erase_idx HF.out.1 HF.out.2.1] at hwo
            rw [← HLN.out] at hwo
            have HWO := Lib.hid hwo; clear hwo
            have b0 := blk_cell HB5.out 0 (Value.slice (some ⟨g, off, none⟩) ln lc) rfl
            have b1 := blk_cell HB5.out 1 (Value.slice fa n fc) rfl
            have b2 := blk_cell HB5.out 2 (Value.int .i64 nx) rfl
            have b3 := blk_cell HB5.out 3 (Value.int .i64 q) rfl
            have q0 := blk_cell HQ5.out 0 (Value.slice none 0 0) rfl
            have q1 := blk_cell HQ5.out 1 (Value.slice none 0 0) rfl
            have q2 := blk_cell HQ5.out 2 (Value.int .i64 0) rfl
            have q3 := blk_cell HQ5.out 3 (Value.int .i64 0) rfl
            have g0 := blk_free HQ5.out 0
            have g1 := blk_free HQ5.out 1
            have g2 := blk_free HQ5.out 2
            have g3 := blk_free HQ5.out 3
            have g0 := blk_free HB5.out 0
            go_wp2_with (go_at_call 29; refine Hid.out ?_)
            refine Lib.hid ?_
            clear b0 b1 b2 b3 q0 q1 q2 q3 g0 g1 g2 g3 p2
            refine HWO.out.mono ?_
            rintro E6 w6 ⟨a6, c6, rfl, h6c, h6e, h6f, hx6⟩
            have HB6 := Lib.hid (hx6.heap HB5.out)
            have HQ6 := Lib.hid (hx6.heap HQ5.out)
            have HX6 := Lib.hid (HX5.out.trans hx6)
            have H6 := Lib.hid (And.intro h6c (And.intro h6e (And.intro h6f hx6))); clear h6c h6e h6f hx6 HWO
            obtain ⟨M, hM⟩ : ∃ M, M = L.eraseP (isP xp) := ⟨_, rfl⟩
            rw [← hM] at H6 ⊢
            have HMM := Lib.hid hM; clear hM
            have b0 := blk_cell HB6.out 0 (Value.slice (some ⟨g, off, none⟩) ln lc) rfl
            have g0 := blk_free HB6.out 0
            go_upto_region 43 with fail
            clear b0 g0
            have hs := setCell_row (i := 0) HB6.out (.slice a6 M.length c6)
            have hbu := (But.refl B w6).setCell 0 (.slice a6 M.length c6)
            have hQn := (Keep.of_but hbu).heap (fun e => HBQ.out.2.2.1 e.symm) HQ6.out
            have hXn : Ext w (w6.setCell ⟨B, 0, none⟩ (.slice a6 M.length c6)) := ((Keep.of_ext (S := fun j => j < w.heap.size) HX6.out).andThen (Keep.of_but hbu) (fun j hj _ => by have := HBQ.out; show j ≠ B; omega)).ext_lt
            generalize w6.setCell ⟨B, 0, none⟩ (.slice a6 M.length c6) = w7 at hs hbu hQn hXn ⊢
            have hBn : w7.heap[B]? = some (.cells #[.slice a6 M.length c6, .slice fa n fc, .int .i64 nx, .int .i64 q] 30 (0, 0)) := by simpa using hs
            have HB_w7 := Lib.hid hBn
            have HQ_w7 := Lib.hid hQn
            have HX_w7 := Lib.hid hXn
            have HU_w7 := Lib.hid hbu
            clear hs hbu hQn hXn hBn
            have b0 := blk_cell HB_w7.out 0 (Value.slice a6 M.length c6) rfl
            have b1 := blk_cell HB_w7.out 1 (Value.slice fa n fc) rfl
            have b2 := blk_cell HB_w7.out 2 (Value.int .i64 nx) rfl
            have b3 := blk_cell HB_w7.out 3 (Value.int .i64 q) rfl
            have q0 := blk_cell HQ_w7.out 0 (Value.slice none 0 0) rfl
            have q1 := blk_cell HQ_w7.out 1 (Value.slice none 0 0) rfl
            have q2 := blk_cell HQ_w7.out 2 (Value.int .i64 0) rfl
            have q3 := blk_cell HQ_w7.out 3 (Value.int .i64 0) rfl
            have g0 := blk_free HQ_w7.out 0
            have g1 := blk_free HQ_w7.out 1
            have g2 := blk_free HQ_w7.out 2
            have g3 := blk_free HQ_w7.out 3
            go_wp2_with fail
            have e := HRR.out
            have hs := set4r HQ_w7.out (.slice a6 M.length c6) (.slice fa n fc) (.int .i64 nx) (.int .i64 q)
            have e0 := blk_cell hs.1 0 (Value.slice a6 M.length c6) rfl
            have e1 := blk_cell hs.1 1 (Value.slice fa n fc) rfl
            have e2 := blk_cell hs.1 2 (Value.int .i64 nx) rfl
            have e3 := blk_cell hs.1 3 (Value.int .i64 q) rfl
            refine bodyPost_ret (v := .tuple #[.agg #[.slice a6 M.length c6, .slice fa n fc, .int .i64 nx, .int .i64 q], .int .i64 0]) (by simp [results, Tryz.results9, go_sem, e0, e1, e2, e3]) rfl ?_
            rw [HR.out, e]
            have hx : Ext w ((((w7.setCell ⟨Q, 0, none⟩ (.slice a6 M.length c6)).setCell ⟨Q, 1, none⟩ (.slice fa n fc)).setCell ⟨Q, 2, none⟩ (.int .i64 nx)).setCell ⟨Q, 3, none⟩ (.int .i64 q)) := ((Keep.of_ext (S := fun j => j < w.heap.size) HX_w7.out).andThen (Keep.of_but hs.2) (fun j hj _ => by have := HBQ.out; show j ≠ Q; omega)).ext_lt
            have hkq : Keep (fun j => j ≠ B ∧ j ≠ Q) w6 _ := ((Keep.of_but HU_w7.out).mono (fun j _ hj => hj.1)).andThen (Keep.of_but hs.2) (fun j _ hj => hj.2)
            have em : lessM ⟨L, files, nx, q⟩ xp = ⟨M, files, nx, q⟩ := by unfold lessM; rw [HMM.out]
            rw [em]
            refine ⟨⟨a6, c6, fa, fc, F⟩, ?_, ⟨runM_keep H6.out.2.1 hkq (fun ad h => ?_), H6.out.1, HM.out.fils.ext hx, HM.out.flen, HM.out.fmap⟩, hx⟩
            · unfold refV
              simp only
              rw [← HN.out]
            · have h1 := H6.out.2.2.1 ad h
              have h2 := HLT5.out
              exact ⟨by omega, by omega⟩
          · rw [if_neg k6] at HRR
            have n6 := int_bne k6
            have b0 := blk_cell HB5.out 0 (Value.slice (some ⟨g, off, none⟩) ln lc) rfl
            have b1 := blk_cell HB5.out 1 (Value.slice fa n fc) rfl
            have b2 := blk_cell HB5.out 2 (Value.int .i64 nx) rfl
            have b3 := blk_cell HB5.out 3 (Value.int .i64 q) rfl
            have q0 := blk_cell HQ5.out 0 (Value.slice none 0 0) rfl
            have q1 := blk_cell HQ5.out 1 (Value.slice none 0 0) rfl
            have q2 := blk_cell HQ5.out 2 (Value.int .i64 0) rfl
            have q3 := blk_cell HQ5.out 3 (Value.int .i64 0) rfl
            have g0 := blk_free HQ5.out 0
            have g1 := blk_free HQ5.out 1
            have g2 := blk_free HQ5.out 2
            have g3 := blk_free HQ5.out 3
            go_wp2_with (go_at_call 27; refine Hid.out ?_)
            refine Lib.hid ?_
            clear b0 b1 b2 b3 q0 q1 q2 q3 g0 g1 g2 g3 p2
            refine (HPL.out ds _ HX5.out).mono ?_
            rintro E w6 ⟨rfl, hx6⟩
            have HB6 := Lib.hid (hx6.heap HB5.out)
            have HQ6 := Lib.hid (hx6.heap HQ5.out)
            have HP6 := Lib.hid (hx6.heap HP5.out)
            have HX6 := Lib.hid (HX5.out.trans hx6)
            have HX56 := Lib.hid hx6; clear hx6
            have hpe := placeL_eq ⟨L, files, nx, q⟩ ds
            simp only at hpe
            rw [← hpe] at HRR
            clear hpe
            by_cases p0 : placeL L ds = 0
            case neg =>
              rw [if_pos p0] at HRR
              generalize placeL L ds = pz at p0 HRR ⊢
              have hb := int_bne p0
              have hb2 : (pz != 0) = true := by simp [p0]
              have b0 := blk_cell HB6.out 0 (Value.slice (some ⟨g, off, none⟩) ln lc) rfl
              have b1 := blk_cell HB6.out 1 (Value.slice fa n fc) rfl
              have b2 := blk_cell HB6.out 2 (Value.int .i64 nx) rfl
              have b3 := blk_cell HB6.out 3 (Value.int .i64 q) rfl
              have q0 := blk_cell HQ6.out 0 (Value.slice none 0 0) rfl
              have q1 := blk_cell HQ6.out 1 (Value.slice none 0 0) rfl
              have q2 := blk_cell HQ6.out 2 (Value.int .i64 0) rfl
              have q3 := blk_cell HQ6.out 3 (Value.int .i64 0) rfl
              have g0 := blk_free HQ6.out 0
              have g1 := blk_free HQ6.out 1
              have g2 := blk_free HQ6.out 2
              have g3 := blk_free HQ6.out 3
              go_wp2_with fail
              have e := HRR.out
              have hs := set4r HQ6.out (.slice (some ⟨g, off, none⟩) ln lc) (.slice fa n fc) (.int .i64 nx) (.int .i64 q)
              have e0 := blk_cell hs.1 0 (Value.slice (some ⟨g, off, none⟩) ln lc) rfl
              have e1 := blk_cell hs.1 1 (Value.slice fa n fc) rfl
              have e2 := blk_cell hs.1 2 (Value.int .i64 nx) rfl
              have e3 := blk_cell hs.1 3 (Value.int .i64 q) rfl
              refine bodyPost_ret (v := .tuple #[.agg #[.slice (some ⟨g, off, none⟩) ln lc, .slice fa n fc, .int .i64 nx, .int .i64 q], .int .i64 pz]) (by simp [results, Tryz.results9, go_sem, e0, e1, e2, e3]) rfl ?_
              rw [HR.out, e]
              have hx : Ext w ((((w6.setCell ⟨Q, 0, none⟩ (.slice (some ⟨g, off, none⟩) ln lc)).setCell ⟨Q, 1, none⟩ (.slice fa n fc)).setCell ⟨Q, 2, none⟩ (.int .i64 nx)).setCell ⟨Q, 3, none⟩ (.int .i64 q)) := ((Keep.of_ext (S := fun j => j < w.heap.size) HX6.out).andThen (Keep.of_but hs.2) (fun j hj _ => by have := HBQ.out; show j ≠ Q; omega)).ext_lt
              exact HSAME.out _ hx _
            case pos =>
              rw [if_neg (by omega)] at HRR
              rw [p0]
              clear p0
              have b0 := blk_cell HB6.out 0 (Value.slice (some ⟨g, off, none⟩) ln lc) rfl
              have b1 := blk_cell HB6.out 1 (Value.slice fa n fc) rfl
              have b2 := blk_cell HB6.out 2 (Value.int .i64 nx) rfl
              have b3 := blk_cell HB6.out 3 (Value.int .i64 q) rfl
              have q0 := blk_cell HQ6.out 0 (Value.slice none 0 0) rfl
              have q1 := blk_cell HQ6.out 1 (Value.slice none 0 0) rfl
              have q2 := blk_cell HQ6.out 2 (Value.int .i64 0) rfl
              have q3 := blk_cell HQ6.out 3 (Value.int .i64 0) rfl
              have g0 := blk_free HQ6.out 0
              have g1 := blk_free HQ6.out 1
              have g2 := blk_free HQ6.out 2
              have g3 := blk_free HQ6.out 3
              go_wp2_with (go_at_call 14; refine Hid.out ?_)
              refine Lib.hid ?_
              clear b0 b1 b2 b3 q0 q1 q2 q3 g0 g1 g2 g3
              refine (HFD.out ds _ HX6.out).mono ?_
              rintro E w7 ⟨rfl, hx7⟩
              have HB7 := Lib.hid (hx7.heap HB6.out); clear HB6
              have HQ7 := Lib.hid (hx7.heap HQ6.out); clear HQ6
              have HP7 := Lib.hid (hx7.heap HP6.out); clear HP6
              have HX7 := Lib.hid (HX6.out.trans hx7); clear HX6
              have HX57 := Lib.hid (HX56.out.trans hx7); clear HX56 hx7
              have hcs2 := findI_cases L ds
              rcases hcs2 with ⟨f1, f2⟩ | ⟨j, f1, f2, f3, f4⟩
              · have hen : entM ⟨L, files, nx, q⟩ ds = none := f2
                rw [hen] at HRR
                rw [f1]
                clear f1 f2 hen
                have b0 := blk_cell HB7.out 0 (Value.slice (some ⟨g, off, none⟩) ln lc) rfl
                have p1 := blk_cell HP7.out 1 (Value.int .i64 xi) rfl
                go_upto_region 52 with fail
                go_quiet (fail)
                clear b0 p1
                have HB8 : Hid ((w7.drewN nq).heap[B]? = _) := Lib.hid HB7.out
                have HQ8 : Hid ((w7.drewN nq).heap[Q]? = _) := Lib.hid HQ7.out
                have HP8 : Hid ((w7.drewN nq).heap[P]? = _) := Lib.hid HP7.out
                have HX8 : Hid (Ext w (w7.drewN nq)) := Lib.hid (HX7.out.drewN _)
                have HX58 : Hid (Ext w5 (w7.drewN nq)) := Lib.hid (HX57.out.drewN _)
                generalize w7.drewN nq = w8 at HB8 HQ8 HP8 HX8 HX58 ⊢
                clear HB7 HQ7 HP7 HX7 HX57
                rcases (show kd = 4 ∨ kd = 5 by omega) with rfl | rfl
                · have hwi := fun W (k : Ext w W) => ref_with L (some ⟨g, off, none⟩) lc ⟨ds, xi, false⟩ W (HM.out.ents.ext k) (by have := HLN.out; omega)
                  rw [← HLN.out] at hwi
                  have HWI := Lib.hid hwi; clear hwi
                  obtain ⟨M, hM⟩ : ∃ M, M = L := ⟨_, rfl⟩
                  have HMM := Lib.hid hM; clear hM
                  have e : rr = (⟨M ++ [⟨ds, xi, false⟩], files, nx, q⟩, 0) := by rw [HRR.out, HMM.out]; rfl
                  have E := Lib.hid e; clear e
                  rw [← HMM.out] at HWI
                  have b0 := blk_cell HB8.out 0 (Value.slice (some ⟨g, off, none⟩) ln lc) rfl
                  have p1 := blk_cell HP8.out 1 (Value.int .i64 xi) rfl
                  go_wp2_with (go_at_call 28; refine Hid.out ?_)
                  refine Lib.hid ?_
                  clear b0 p1
                  have HXF : Hid (B < w8.heap.size ∧ Q < w8.heap.size) := Lib.hid ⟨(Array.getElem?_eq_some_iff.1 HB8.out).1, (Array.getElem?_eq_some_iff.1 HQ8.out).1⟩
                  refine (HWI.out _ HX8.out).mono ?_
                  rintro E9 w9 ⟨a9, c9, rfl, h9c, h9e, h9f, hx9⟩
                  have HB9 := Lib.hid (hx9.heap HB8.out)
                  have HQ9 := Lib.hid (hx9.heap HQ8.out)
                  have HX9 := Lib.hid (HX8.out.trans hx9)
                  have H9 := Lib.hid (And.intro h9c (And.intro h9e (And.intro h9f hx9))); clear h9c h9e h9f hx9 HWI
                  obtain ⟨MM, hMM⟩ : ∃ MM, MM = M ++ [(⟨ds, xi, false⟩ : EntD)] := ⟨_, rfl⟩
                  rw [← hMM] at H9 E ⊢
                  clear hMM
                  have b0 := blk_cell HB9.out 0 (Value.slice (some ⟨g, off, none⟩) ln lc) rfl
                  have g0 := blk_free HB9.out 0
                  go_upto_region 59 with fail
                  clear b0 g0
                  have hs := setCell_row (i := 0) HB9.out (.slice a9 MM.length c9)
                  have hbu := (But.refl B w9).setCell 0 (.slice a9 MM.length c9)
                  have hQn := (Keep.of_but hbu).heap (fun e => HBQ.out.2.2.1 e.symm) HQ9.out
                  have hXn : Ext w (w9.setCell ⟨B, 0, none⟩ (.slice a9 MM.length c9)) := ((Keep.of_ext (S := fun j => j < w.heap.size) HX9.out).andThen (Keep.of_but hbu) (fun j hj _ => by have := HBQ.out; show j ≠ B; omega)).ext_lt
                  generalize w9.setCell ⟨B, 0, none⟩ (.slice a9 MM.length c9) = we at hs hbu hQn hXn ⊢
                  have hBn : we.heap[B]? = some (.cells #[.slice a9 MM.length c9, .slice fa n fc, .int .i64 nx, .int .i64 q] 30 (0, 0)) := by simpa using hs
                  have HB_we := Lib.hid hBn
                  have HQ_we := Lib.hid hQn
                  have HX_we := Lib.hid hXn
                  have HU_we := Lib.hid hbu
                  clear hs hbu hQn hXn hBn
                  have b0 := blk_cell HB_we.out 0 (Value.slice a9 MM.length c9) rfl
                  have b1 := blk_cell HB_we.out 1 (Value.slice fa n fc) rfl
                  have b2 := blk_cell HB_we.out 2 (Value.int .i64 nx) rfl
                  have b3 := blk_cell HB_we.out 3 (Value.int .i64 q) rfl
                  have q0 := blk_cell HQ_we.out 0 (Value.slice none 0 0) rfl
                  have q1 := blk_cell HQ_we.out 1 (Value.slice none 0 0) rfl
                  have q2 := blk_cell HQ_we.out 2 (Value.int .i64 0) rfl
                  have q3 := blk_cell HQ_we.out 3 (Value.int .i64 0) rfl
                  have g0 := blk_free HQ_we.out 0
                  have g1 := blk_free HQ_we.out 1
                  have g2 := blk_free HQ_we.out 2
                  have g3 := blk_free HQ_we.out 3
                  go_wp2_with fail
                  have e := E.out
                  have hs := set4r HQ_we.out (.slice a9 MM.length c9) (.slice fa n fc) (.int .i64 nx) (.int .i64 q)
                  have e0 := blk_cell hs.1 0 (Value.slice a9 MM.length c9) rfl
                  have e1 := blk_cell hs.1 1 (Value.slice fa n fc) rfl
                  have e2 := blk_cell hs.1 2 (Value.int .i64 nx) rfl
                  have e3 := blk_cell hs.1 3 (Value.int .i64 q) rfl
                  refine bodyPost_ret (v := .tuple #[.agg #[.slice a9 MM.length c9, .slice fa n fc, .int .i64 nx, .int .i64 q], .int .i64 0]) (by simp [results, Tryz.results9, go_sem, e0, e1, e2, e3]) rfl ?_
                  rw [HR.out, e]
                  have hx : Ext w ((((we.setCell ⟨Q, 0, none⟩ (.slice a9 MM.length c9)).setCell ⟨Q, 1, none⟩ (.slice fa n fc)).setCell ⟨Q, 2, none⟩ (.int .i64 nx)).setCell ⟨Q, 3, none⟩ (.int .i64 q)) := ((Keep.of_ext (S := fun j => j < w.heap.size) HX_we.out).andThen (Keep.of_but hs.2) (fun j hj _ => by have := HBQ.out; show j ≠ Q; omega)).ext_lt
                  have hkq : Keep (fun j => j ≠ B ∧ j ≠ Q) w9 _ := ((Keep.of_but HU_we.out).mono (fun j _ hj => hj.1)).andThen (Keep.of_but hs.2) (fun j _ hj => hj.2)
                  refine ⟨⟨a9, c9, fa, fc, F⟩, ?_, ⟨runM_keep H9.out.2.1 hkq (fun ad h => ?_), H9.out.1, HM.out.fils.ext hx, HM.out.flen, HM.out.fmap⟩, hx⟩
                  · unfold refV
                    simp only
                    rw [← HN.out]
                  · have h1 := H9.out.2.2.1 ad h
                    have h2 := HXF.out
                    exact ⟨by omega, by omega⟩
                · have hk3 : findI L xp = k ∧ k < L.length := ⟨HF.out.2.1, HF.out.1⟩
                  have hbl : L.length ≤ 1000000000 := by have := HLN.out; omega
                  have hEn := HM.out.ents.ext HX8.out
                  have hEl := HM.out.elen
                  simp only at hEn hEl
                  have e : rr = (⟨L.eraseP (isP xp) ++ [⟨ds, xi, false⟩], files, nx, q⟩, 0) := by rw [HRR.out]; rfl
                  have E := Lib.hid e; clear e
                  rw [HLN.out] at HB8
                  have hlnl := HLN.out
                  rw [hlnl]
                  clear hlnl
                  have HQk : Hid (w8.heap[Q]? = _) := HQ8
                  obtain ⟨M, hM⟩ : ∃ M, M = L := ⟨_, rfl⟩
                  have HB8' : Hid (w8.heap[B]? = some (.cells #[.slice (some ⟨g, off, none⟩) M.length lc, .slice fa n fc, .int .i64 nx, .int .i64 q] 30 (0, 0))) := by rw [hM]; exact HB8
                  rw [← hM] at hk3 hbl hEn hEl E ⊢
                  clear hM HB8
                  have HK3 := Lib.hid hk3; clear hk3
                  have hfd2 := fun W (kk : Ext w8 W) => ref_find M (some ⟨g, off, none⟩) lc fa n fc nx q xp W (hEn.ext kk) (by omega)
                  rw [HK3.out.1] at hfd2
                  have hwo2 := fun W (kk : Ext w8 W) => ref_without M (some ⟨g, off, none⟩) lc k W (hEn.ext kk) hEl HK3.out.2 (by omega)
                  rw [erase_idx HK3.out.2 HK3.out.1] at hwo2
                  have HFD2 := Lib.hid hfd2; clear hfd2
                  have HWO2 := Lib.hid hwo2; clear hwo2 hEn hEl
                  obtain ⟨N, hNN⟩ : ∃ N, N = M.eraseP (isP xp) := ⟨_, rfl⟩
                  have hnl : N.length ≤ 1000000000 := Nat.le_trans (by rw [hNN]; exact List.eraseP_sublist.length_le) hbl
                  rw [← hNN] at HWO2 E
                  clear hNN
                  obtain ⟨mn, hmn⟩ : ∃ n, n = M.length := ⟨_, rfl⟩
                  rw [← hmn] at HFD2 HWO2 HB8' hbl ⊢
                  clear hmn
                  have hcs : ∀ W, Ext w8 W → (W.cell? ⟨B, 0, none⟩ = some (.slice (some ⟨g, off, none⟩) mn lc) ∧ W.cell? ⟨B, 1, none⟩ = some (.slice fa n fc) ∧ W.cell? ⟨B, 2, none⟩ = some (.int .i64 nx) ∧ W.cell? ⟨B, 3, none⟩ = some (.int .i64 q)) := fun W k => ⟨blk_cell (k.heap HB8'.out) 0 _ rfl, blk_cell (k.heap HB8'.out) 1 _ rfl, blk_cell (k.heap HB8'.out) 2 _ rfl, blk_cell (k.heap HB8'.out) 3 _ rfl⟩
                  have HCS := Lib.hid hcs; clear hcs
                  have HK := Lib.hid (Ext.refl w8).drew
                  go_upto_region 57 with fail
                  refine wp_region_noPanic ?_
                  refine wp_region_K (S := (fun W => W.cell? ⟨B, 0, none⟩ = some (.slice (some ⟨g, off, none⟩) mn lc) ∧ W.cell? ⟨B, 1, none⟩ = some (.slice fa n fc) ∧ W.cell? ⟨B, 2, none⟩ = some (.int .i64 nx) ∧ W.cell? ⟨B, 3, none⟩ = some (.int .i64 q))) (I := [1, 2]) (by kernel_rfl) (HCS.out _ HK.out) (fun hHeld => ?_)
                  clear hHeld
                  generalize w8.drew = wc at HK ⊢
                  refine wpAnyK_free (i := 0) (v := ?_) rfl (by kernel_rfl) (by kernel_rfl) (by kernel_rfl) (fun _ _ _ h => h) (by kernel_rfl) ?_ (fun _ => (HCS.out _ HK.out)) ?_
                  rotate_left
                  · (intro wq; first | (go_simp; done) | (go_simp; with_reducible rfl))
                  try simp only [List.getElem_toArray, List.getElem_cons_zero, Act.put, List.setIfInBounds_toArray, List.set_cons_zero, List.set_cons_succ]
                  refine wpAnyK_load (i := 1) (v := ?_) rfl (by kernel_rfl) (by kernel_rfl) (by kernel_rfl) (fun _ _ _ h => h) (by kernel_rfl) (by kernel_rfl) ?_ (HCS.out _ HK.out) ?_
                  rotate_left
                  · (intro wq hSw; (try dsimp only at hSw); first | (go_simp; done) | (go_simp; with_reducible rfl))
                  try simp only [List.getElem_toArray, List.getElem_cons_zero, List.getElem_cons_succ, Act.put, List.setIfInBounds_toArray, List.set_cons_zero, List.set_cons_succ]
                  refine wpAnyK_load (i := 2) (v := ?_) rfl (by kernel_rfl) (by kernel_rfl) (by kernel_rfl) (fun _ _ _ h => h) (by kernel_rfl) (by kernel_rfl) ?_ (HCS.out _ HK.out) ?_
                  rotate_left
                  · (intro wq hSw; (try dsimp only at hSw); first | (go_simp; done) | (go_simp; with_reducible rfl))
                  try simp only [List.getElem_toArray, List.getElem_cons_zero, List.getElem_cons_succ, Act.put, List.setIfInBounds_toArray, List.set_cons_zero, List.set_cons_succ]
                  refine wpAnyK_free (i := 3) (v := ?_) rfl (by kernel_rfl) (by kernel_rfl) (by kernel_rfl) (fun _ _ _ h => h) (by kernel_rfl) ?_ (fun _ => (HCS.out _ HK.out)) ?_
                  rotate_left
                  · (intro wq; first | (go_simp; done) | (go_simp; with_reducible rfl))
                  try simp only [List.getElem_toArray, List.getElem_cons_zero, List.getElem_cons_succ, Act.put, List.setIfInBounds_toArray, List.set_cons_zero, List.set_cons_succ]
                  all_goals (
                    first
                      | refine wpAnyK_ready (rs := [4]) (by decide +kernel) (by simp) ?_
                    repeat' (first | exact AllReadyK.nil | (refine AllReadyK.cons rfl (fun K hK => ?_) ?_)))
                  all_goals (
                    first
                      | (go_simp
                         first
                           | (go_at_call 14
                              refine (HFD2.out wc HK.out).mono ?_
                              rintro E wn ⟨rfl, hx⟩
                              replace HK := Lib.hid (HK.out.trans hx)
                              clear hx
                              go_wp2_with fail
                              refine hK.out _ _ (HCS.out _ HK.out) (fun _ => ?_)
                              clear hK K
                              obtain ⟨wc, rfl⟩ : ∃ x : World, x = wn := ⟨_, rfl⟩
                              try simp only [List.getElem_toArray, List.getElem_cons_zero, List.getElem_cons_succ, Act.put, List.setIfInBounds_toArray, List.set_cons_zero, List.set_cons_succ])))
                  all_goals (
                    first
                      | refine wpAnyK_ready (rs := [5]) (by decide +kernel) (by simp) ?_
                    repeat' (first | exact AllReadyK.nil | (refine AllReadyK.cons rfl (fun K hK => ?_) ?_)))
                  all_goals (
                    first
                      | (go_simp
                         first
                           | (go_at_call 29
                              refine (HWO2.out wc HK.out).mono ?_
                              rintro E wn ⟨a5, c5, rfl, h5c, h5e, h5f, hx⟩
                              have H5 := Lib.hid (And.intro h5c (And.intro h5e (fun ad h => Nat.le_trans HK.out.size (h5f ad h))))
                              replace HK := Lib.hid (HK.out.trans hx)
                              clear hx h5c h5e h5f
                              go_wp2_with fail
                              refine hK.out _ _ (HCS.out _ HK.out) (fun _ => ?_)
                              clear hK K
                              obtain ⟨wc, rfl⟩ : ∃ x : World, x = wn := ⟨_, rfl⟩
                              try simp only [List.getElem_toArray, List.getElem_cons_zero, List.getElem_cons_succ, Act.put, List.setIfInBounds_toArray, List.set_cons_zero, List.set_cons_succ]
                              refine wpAnyK_free (i := 6) (v := ?_) rfl (by kernel_rfl) (by kernel_rfl) (by kernel_rfl) (fun _ _ _ h => h) (by kernel_rfl) ?_ (fun _ => (HCS.out _ HK.out)) ?_
                              rotate_left
                              · (intro wq; first | (go_simp; done) | (go_simp; with_reducible rfl))
                              try simp only [List.getElem_toArray, List.getElem_cons_zero, List.getElem_cons_succ, Act.put, List.setIfInBounds_toArray, List.set_cons_zero, List.set_cons_succ])))
                  all_goals (
                    have n0 := blk_cell (HK.out.heap HB8'.out) 0 (Value.slice (some ⟨g, off, none⟩) mn lc) rfl
                    have g0 := blk_free (HK.out.heap HB8'.out) 0
                    refine wpAnyK_last (i := 7) (by kernel_rfl) rfl (by kernel_rfl) ?_
                    intro K hK
                    go_simp
                    refine hK.out _ _ ?_
                    clear hK K
                    try simp only [List.getElem_toArray, List.getElem_cons_zero, List.getElem_cons_succ, Act.put, List.setIfInBounds_toArray, List.set_cons_zero, List.set_cons_succ])
                  all_goals (
                    refine wpAnyK_done (by kernel_rfl) ?_ _
                    refine NoPanic.normal ?_
                    clear n0 g0
                    go_upto_region 58 with fail)
                  have HBc := Lib.hid (HK.out.heap HB8'.out)
                  have HQc := Lib.hid (HK.out.heap HQ8.out)
                  have HPc := Lib.hid (HK.out.heap HP8.out)
                  have HXc := Lib.hid (HX8.out.trans HK.out)
                  have hs := setCell_row (i := 0) HBc.out (.slice a5 N.length c5)
                  have hbu := (But.refl B wc).setCell 0 (.slice a5 N.length c5)
                  have hQn := (Keep.of_but hbu).heap (fun e => HBQ.out.2.2.1 e.symm) HQc.out
                  have hXn : Ext w (wc.setCell ⟨B, 0, none⟩ (.slice a5 N.length c5)) := ((Keep.of_ext (S := fun j => j < w.heap.size) HXc.out).andThen (Keep.of_but hbu) (fun j hj _ => by have := HBQ.out; show j ≠ B; omega)).ext_lt
                  generalize wc.setCell ⟨B, 0, none⟩ (.slice a5 N.length c5) = wd at hs hbu hQn hXn ⊢
                  have hBn : wd.heap[B]? = some (.cells #[.slice a5 N.length c5, .slice fa n fc, .int .i64 nx, .int .i64 q] 30 (0, 0)) := by simpa using hs
                  have HB_wd := Lib.hid hBn
                  have HQ_wd := Lib.hid hQn
                  have HX_wd := Lib.hid hXn
                  have HU_wd := Lib.hid hbu
                  clear hs hbu hQn hXn hBn
                  have HPd := Lib.hid ((Keep.of_but HU_wd.out).heap HPN.out.1.1 HPc.out)
                  have HNd : Hid (EntsR wd a5 N ∧ B < wd.heap.size ∧ Q < wd.heap.size) := Lib.hid ⟨runM_keep H5.out.2.1 (Keep.of_but HU_wd.out) (fun ad h => by have h1 := H5.out.2.2 ad h; have h2 := (Array.getElem?_eq_some_iff.1 HB8'.out).1; show ad.block ≠ B; omega), (Array.getElem?_eq_some_iff.1 HB_wd.out).1, (Array.getElem?_eq_some_iff.1 HQ_wd.out).1⟩
                  have hwi := ref_with N a5 c5 ⟨ds, xi, false⟩ wd HNd.out.1 (by omega)
                  have HWI := Lib.hid hwi; clear hwi
                  have HMM : Hid (N = N) := Lib.hid rfl
                  obtain ⟨M, hM⟩ : ∃ M, M = N := ⟨_, rfl⟩
                  rw [← hM] at HWI E ⊢
                  have HMM := Lib.hid hM; clear hM
                  have b0 := blk_cell HB_wd.out 0 (Value.slice a5 N.length c5) rfl
                  have p1 := blk_cell HPd.out 1 (Value.int .i64 xi) rfl
                  rw [← HMM.out] at b0
                  go_wp2_with (go_at_call 28; refine Hid.out ?_)
                  refine Lib.hid ?_
                  clear b0 p1
                  have HXF : Hid (B < wd.heap.size ∧ Q < wd.heap.size) := Lib.hid HNd.out.2
                  refine HWI.out.mono ?_
                  rintro E9 w9 ⟨a9, c9, rfl, h9c, h9e, h9f, hx9⟩
                  have HB9 := Lib.hid (hx9.heap HB_wd.out)
                  have HQ9 := Lib.hid (hx9.heap HQ_wd.out)
                  have HX9 := Lib.hid (HX_wd.out.trans hx9)
                  have H9 := Lib.hid (And.intro h9c (And.intro h9e (And.intro h9f hx9))); clear h9c h9e h9f hx9 HWI
                  obtain ⟨MM, hMM⟩ : ∃ MM, MM = M ++ [(⟨ds, xi, false⟩ : EntD)] := ⟨_, rfl⟩
                  rw [← hMM] at H9 E ⊢
                  clear hMM
                  have b0 := blk_cell HB9.out 0 (Value.slice a5 N.length c5) rfl
                  have g0 := blk_free HB9.out 0
                  go_upto_region 59 with fail
                  clear b0 g0
                  have hs := setCell_row (i := 0) HB9.out (.slice a9 MM.length c9)
                  have hbu := (But.refl B w9).setCell 0 (.slice a9 MM.length c9)
                  have hQn := (Keep.of_but hbu).heap (fun e => HBQ.out.2.2.1 e.symm) HQ9.out
                  have hXn : Ext w (w9.setCell ⟨B, 0, none⟩ (.slice a9 MM.length c9)) := ((Keep.of_ext (S := fun j => j < w.heap.size) HX9.out).andThen (Keep.of_but hbu) (fun j hj _ => by have := HBQ.out; show j ≠ B; omega)).ext_lt
                  generalize w9.setCell ⟨B, 0, none⟩ (.slice a9 MM.length c9) = we at hs hbu hQn hXn ⊢
                  have hBn : we.heap[B]? = some (.cells #[.slice a9 MM.length c9, .slice fa n fc, .int .i64 nx, .int .i64 q] 30 (0, 0)) := by simpa using hs
                  have HB_we := Lib.hid hBn
                  have HQ_we := Lib.hid hQn
                  have HX_we := Lib.hid hXn
                  have HU_we := Lib.hid hbu
                  clear hs hbu hQn hXn hBn
                  have b0 := blk_cell HB_we.out 0 (Value.slice a9 MM.length c9) rfl
                  have b1 := blk_cell HB_we.out 1 (Value.slice fa n fc) rfl
                  have b2 := blk_cell HB_we.out 2 (Value.int .i64 nx) rfl
                  have b3 := blk_cell HB_we.out 3 (Value.int .i64 q) rfl
                  have q0 := blk_cell HQ_we.out 0 (Value.slice none 0 0) rfl
                  have q1 := blk_cell HQ_we.out 1 (Value.slice none 0 0) rfl
                  have q2 := blk_cell HQ_we.out 2 (Value.int .i64 0) rfl
                  have q3 := blk_cell HQ_we.out 3 (Value.int .i64 0) rfl
                  have g0 := blk_free HQ_we.out 0
                  have g1 := blk_free HQ_we.out 1
                  have g2 := blk_free HQ_we.out 2
                  have g3 := blk_free HQ_we.out 3
                  go_wp2_with fail
                  have e := E.out
                  have hs := set4r HQ_we.out (.slice a9 MM.length c9) (.slice fa n fc) (.int .i64 nx) (.int .i64 q)
                  have e0 := blk_cell hs.1 0 (Value.slice a9 MM.length c9) rfl
                  have e1 := blk_cell hs.1 1 (Value.slice fa n fc) rfl
                  have e2 := blk_cell hs.1 2 (Value.int .i64 nx) rfl
                  have e3 := blk_cell hs.1 3 (Value.int .i64 q) rfl
                  refine bodyPost_ret (v := .tuple #[.agg #[.slice a9 MM.length c9, .slice fa n fc, .int .i64 nx, .int .i64 q], .int .i64 0]) (by simp [results, Tryz.results9, go_sem, e0, e1, e2, e3]) rfl ?_
                  rw [HR.out, e]
                  have hx : Ext w ((((we.setCell ⟨Q, 0, none⟩ (.slice a9 MM.length c9)).setCell ⟨Q, 1, none⟩ (.slice fa n fc)).setCell ⟨Q, 2, none⟩ (.int .i64 nx)).setCell ⟨Q, 3, none⟩ (.int .i64 q)) := ((Keep.of_ext (S := fun j => j < w.heap.size) HX_we.out).andThen (Keep.of_but hs.2) (fun j hj _ => by have := HBQ.out; show j ≠ Q; omega)).ext_lt
                  have hkq : Keep (fun j => j ≠ B ∧ j ≠ Q) w9 _ := ((Keep.of_but HU_we.out).mono (fun j _ hj => hj.1)).andThen (Keep.of_but hs.2) (fun j _ hj => hj.2)
                  refine ⟨⟨a9, c9, fa, fc, F⟩, ?_, ⟨runM_keep H9.out.2.1 hkq (fun ad h => ?_), H9.out.1, HM.out.fils.ext hx, HM.out.flen, HM.out.fmap⟩, hx⟩
                  · unfold refV
                    simp only
                    rw [← HN.out]
                  · have h1 := H9.out.2.2.1 ad h
                    have h2 := HXF.out
                    exact ⟨by omega, by omega⟩
              · have hen : entM ⟨L, files, nx, q⟩ ds = some (L.getD j ez06) := f3
                rw [hen] at HRR
                have hjn : j < ln := by have := HLN.out; omega
                obtain ⟨g2, off2, hge, _, _, d1, d2⟩ := (HM.out.ents.ext HX7.out).at f1
                simp only at hge d1 d2
                cases hge
                rw [f2]
                have HF2 := Lib.hid (And.intro f1 (And.intro f2 (And.intro f3 f4)))
                clear f1 f2 f3 f4 hen
                obtain ⟨y, hy⟩ : ∃ y, y = L.getD j ez06 := ⟨_, rfl⟩
                rw [← hy] at d1 d2 HF2 HRR
                clear hy
                obtain ⟨yp, yi, yd⟩ := y
                simp only at d1 d2
                have i2 : (0 : Int) ≤ (j : Int) := by omega
                have i3 : (j : Int) < (ln : Int) := by omega
                have hg0 : decide ((0 : Int) ≤ (j : Int)) = true := decide_eq_true (by omega)
                rcases (show kd = 4 ∨ kd = 5 by omega) with rfl | rfl
                · have b0 := blk_cell HB7.out 0 (Value.slice (some ⟨g, off, none⟩) ln lc) rfl
                  have b1 := blk_cell HB7.out 1 (Value.slice fa n fc) rfl
                  have b2 := blk_cell HB7.out 2 (Value.int .i64 nx) rfl
                  have b3 := blk_cell HB7.out 3 (Value.int .i64 q) rfl
                  have q0 := blk_cell HQ7.out 0 (Value.slice none 0 0) rfl
                  have q1 := blk_cell HQ7.out 1 (Value.slice none 0 0) rfl
                  have q2 := blk_cell HQ7.out 2 (Value.int .i64 0) rfl
                  have q3 := blk_cell HQ7.out 3 (Value.int .i64 0) rfl
                  have g0 := blk_free HQ7.out 0
                  have g1 := blk_free HQ7.out 1
                  have g2 := blk_free HQ7.out 2
                  have g3 := blk_free HQ7.out 3
                  have e : rr = (⟨L, files, nx, q⟩, 9) := by rw [HRR.out]; rfl
                  have E := Lib.hid e; clear e
                  go_wp2_with fail
                  have e := E.out
                  have hs := set4r HQ7.out (.slice (some ⟨g, off, none⟩) ln lc) (.slice fa n fc) (.int .i64 nx) (.int .i64 q)
                  have e0 := blk_cell hs.1 0 (Value.slice (some ⟨g, off, none⟩) ln lc) rfl
                  have e1 := blk_cell hs.1 1 (Value.slice fa n fc) rfl
                  have e2 := blk_cell hs.1 2 (Value.int .i64 nx) rfl
                  have e3 := blk_cell hs.1 3 (Value.int .i64 q) rfl
                  refine bodyPost_ret (v := .tuple #[.agg #[.slice (some ⟨g, off, none⟩) ln lc, .slice fa n fc, .int .i64 nx, .int .i64 q], .int .i64 9]) (by simp [results, Tryz.results9, go_sem, e0, e1, e2, e3]) rfl ?_
                  rw [HR.out, e]
                  have hx : Ext w ((((w7.setCell ⟨Q, 0, none⟩ (.slice (some ⟨g, off, none⟩) ln lc)).setCell ⟨Q, 1, none⟩ (.slice fa n fc)).setCell ⟨Q, 2, none⟩ (.int .i64 nx)).setCell ⟨Q, 3, none⟩ (.int .i64 q)) := ((Keep.of_ext (S := fun j => j < w.heap.size) HX7.out).andThen (Keep.of_but hs.2) (fun j hj _ => by have := HBQ.out; show j ≠ Q; omega)).ext_lt
                  exact HSAME.out _ hx _
                · have b0 := blk_cell HB7.out 0 (Value.slice (some ⟨g, off, none⟩) ln lc) rfl
                  have b1 := blk_cell HB7.out 1 (Value.slice fa n fc) rfl
                  have b2 := blk_cell HB7.out 2 (Value.int .i64 nx) rfl
                  have b3 := blk_cell HB7.out 3 (Value.int .i64 q) rfl
                  have q0 := blk_cell HQ7.out 0 (Value.slice none 0 0) rfl
                  have q1 := blk_cell HQ7.out 1 (Value.slice none 0 0) rfl
                  have q2 := blk_cell HQ7.out 2 (Value.int .i64 0) rfl
                  have q3 := blk_cell HQ7.out 3 (Value.int .i64 0) rfl
                  have g0 := blk_free HQ7.out 0
                  have g1 := blk_free HQ7.out 1
                  have g2 := blk_free HQ7.out 2
                  have g3 := blk_free HQ7.out 3
                  cases yd with
                  | true =>
                    have e : rr = (⟨L, files, nx, q⟩, 10) := by rw [HRR.out]; rfl
                    have E := Lib.hid e; clear e
                    go_wp2_with fail
                    have e := E.out
                    have hs := set4r HQ7.out (.slice (some ⟨g, off, none⟩) ln lc) (.slice fa n fc) (.int .i64 nx) (.int .i64 q)
                    have e0 := blk_cell hs.1 0 (Value.slice (some ⟨g, off, none⟩) ln lc) rfl
                    have e1 := blk_cell hs.1 1 (Value.slice fa n fc) rfl
                    have e2 := blk_cell hs.1 2 (Value.int .i64 nx) rfl
                    have e3 := blk_cell hs.1 3 (Value.int .i64 q) rfl
                    refine bodyPost_ret (v := .tuple #[.agg #[.slice (some ⟨g, off, none⟩) ln lc, .slice fa n fc, .int .i64 nx, .int .i64 q], .int .i64 10]) (by simp [results, Tryz.results9, go_sem, e0, e1, e2, e3]) rfl ?_
                    rw [HR.out, e]
                    have hx : Ext w ((((w7.setCell ⟨Q, 0, none⟩ (.slice (some ⟨g, off, none⟩) ln lc)).setCell ⟨Q, 1, none⟩ (.slice fa n fc)).setCell ⟨Q, 2, none⟩ (.int .i64 nx)).setCell ⟨Q, 3, none⟩ (.int .i64 q)) := ((Keep.of_ext (S := fun j => j < w.heap.size) HX7.out).andThen (Keep.of_but hs.2) (fun j hj _ => by have := HBQ.out; show j ≠ Q; omega)).ext_lt
                    exact HSAME.out _ hx _
                  | false =>
                    have p1 := blk_cell HP7.out 1 (Value.int .i64 xi) rfl
                    obtain ⟨bq, hbq⟩ : ∃ b, b = (yi == xi) := ⟨_, rfl⟩
                    have hbq2 : (yi == xi) = bq := hbq.symm
                    have HBQ2 := Lib.hid hbq; clear hbq
                    go_upto_region 52 with fail
                    go_quiet (fail)
                    clear b0 b1 b2 b3 q0 q1 q2 q3 g0 g1 g2 g3 p1 d1 d2 hbq2
                    have HB8 : Hid ((w7.drewN nq).heap[B]? = _) := Lib.hid HB7.out
                    have HQ8 : Hid ((w7.drewN nq).heap[Q]? = _) := Lib.hid HQ7.out
                    have HP8 : Hid ((w7.drewN nq).heap[P]? = _) := Lib.hid HP7.out
                    have HX8 : Hid (Ext w (w7.drewN nq)) := Lib.hid (HX7.out.drewN _)
                    have HX58 : Hid (Ext w5 (w7.drewN nq)) := Lib.hid (HX57.out.drewN _)
                    generalize w7.drewN nq = w8 at HB8 HQ8 HP8 HX8 HX58 ⊢
                    clear HB7 HQ7 HP7 HX7 HX57
                    cases bq with
                    | true =>
                      have hyx : yi = xi := by have := HBQ2.out; simpa using this.symm
                      have e : rr = (⟨L, files, nx, q⟩, 0) := by
                        rw [HRR.out]
                        simp only [hyx, if_true]
                        rfl
                      have E := Lib.hid e; clear e hyx
                      have b0 := blk_cell HB8.out 0 (Value.slice (some ⟨g, off, none⟩) ln lc) rfl
                      have b1 := blk_cell HB8.out 1 (Value.slice fa n fc) rfl
                      have b2 := blk_cell HB8.out 2 (Value.int .i64 nx) rfl
                      have b3 := blk_cell HB8.out 3 (Value.int .i64 q) rfl
                      have q0 := blk_cell HQ8.out 0 (Value.slice none 0 0) rfl
                      have q1 := blk_cell HQ8.out 1 (Value.slice none 0 0) rfl
                      have q2 := blk_cell HQ8.out 2 (Value.int .i64 0) rfl
                      have q3 := blk_cell HQ8.out 3 (Value.int .i64 0) rfl
                      have g0 := blk_free HQ8.out 0
                      have g1 := blk_free HQ8.out 1
                      have g2 := blk_free HQ8.out 2
                      have g3 := blk_free HQ8.out 3
                      go_wp2_with fail
                      have e := E.out
                      have hs := set4r HQ8.out (.slice (some ⟨g, off, none⟩) ln lc) (.slice fa n fc) (.int .i64 nx) (.int .i64 q)
                      have e0 := blk_cell hs.1 0 (Value.slice (some ⟨g, off, none⟩) ln lc) rfl
                      have e1 := blk_cell hs.1 1 (Value.slice fa n fc) rfl
                      have e2 := blk_cell hs.1 2 (Value.int .i64 nx) rfl
                      have e3 := blk_cell hs.1 3 (Value.int .i64 q) rfl
                      refine bodyPost_ret (v := .tuple #[.agg #[.slice (some ⟨g, off, none⟩) ln lc, .slice fa n fc, .int .i64 nx, .int .i64 q], .int .i64 0]) (by simp [results, Tryz.results9, go_sem, e0, e1, e2, e3]) rfl ?_
                      rw [HR.out, e]
                      have hx : Ext w ((((w8.setCell ⟨Q, 0, none⟩ (.slice (some ⟨g, off, none⟩) ln lc)).setCell ⟨Q, 1, none⟩ (.slice fa n fc)).setCell ⟨Q, 2, none⟩ (.int .i64 nx)).setCell ⟨Q, 3, none⟩ (.int .i64 q)) := ((Keep.of_ext (S := fun j => j < w.heap.size) HX8.out).andThen (Keep.of_but hs.2) (fun j hj _ => by have := HBQ.out; show j ≠ Q; omega)).ext_lt
                      exact HSAME.out _ hx _
                    | false =>
                      have hyx : yi ≠ xi := by have := HBQ2.out; intro e; rw [e] at this; simp at this
                      have hne : ds ≠ xp := by
                        intro e
                        have h1 := HF.out.2.2.1
                        have h2 := HF2.out.2.2.1
                        rw [e, h1] at h2
                        have h2 := Option.some.inj h2
                        injection h2 with _ h3 _
                        exact hyx h3.symm
                      have e : rr = (⟨(L.eraseP (isP ds)).eraseP (isP xp) ++ [⟨ds, xi, false⟩], files, nx, q⟩, 0) := by
                        rw [HRR.out]
                        simp only [Bool.false_eq_true, if_false, if_neg hyx]
                        rfl
                      have E := Lib.hid e; clear e hyx
                      have HNE := Lib.hid hne; clear hne
                      have hwo := ref_without L (some ⟨g, off, none⟩) lc j w8 (HM.out.ents.ext HX8.out) HM.out.elen HF2.out.1 (by have := HLN.out; omega)
                      rw [erase_idx HF2.out.1 HF2.out.2.1] at hwo
                      rw [← HLN.out] at hwo
                      have HWO := Lib.hid hwo; clear hwo
                      have b0 := blk_cell HB8.out 0 (Value.slice (some ⟨g, off, none⟩) ln lc) rfl
                      have g0 := blk_free HB8.out 0
                      go_wp2_with (go_at_call 29; refine Hid.out ?_)
                      refine Lib.hid ?_
                      clear b0 g0
                      refine HWO.out.mono ?_
                      rintro E9 w9 ⟨am, cm, rfl, h9c, h9e, h9f, hx9⟩
                      have HB9 := Lib.hid (hx9.heap HB8.out)
                      have HQ9 := Lib.hid (hx9.heap HQ8.out)
                      have HP9 := Lib.hid (hx9.heap HP8.out)
                      have HX9 := Lib.hid (HX8.out.trans hx9)
                      have HLT8 : Hid (B < w8.heap.size ∧ Q < w8.heap.size) := Lib.hid ⟨(Array.getElem?_eq_some_iff.1 HB8.out).1, (Array.getElem?_eq_some_iff.1 HQ8.out).1⟩
                      have H9 := Lib.hid (And.intro h9c (And.intro h9e (And.intro h9f hx9))); clear h9c h9e h9f hx9 HWO HB8 HQ8 HP8
                      have hff : (L.eraseP (isP ds)).find? (isP xp) = some ⟨xp, xi, false⟩ := by rw [find_erase HNE.out]; exact HF.out.2.2.1
                      have hml : (L.eraseP (isP ds)).length ≤ L.length := List.eraseP_sublist.length_le
                      obtain ⟨M, hM⟩ : ∃ M, M = L.eraseP (isP ds) := ⟨_, rfl⟩
                      rw [← hM] at H9 E hff hml ⊢
                      clear hM
                      have hbl : M.length ≤ 1000000000 := by have := HLN.out; omega
                      have HFF := Lib.hid hff; clear hff hml
                      have b0 := blk_cell HB9.out 0 (Value.slice (some ⟨g, off, none⟩) ln lc) rfl
                      have g0 := blk_free HB9.out 0
                      go_upto_region 56 with fail
                      clear b0 g0
                      have hs := setCell_row (i := 0) HB9.out (.slice am M.length cm)
                      have hbu := (But.refl B w9).setCell 0 (.slice am M.length cm)
                      have hQn := (Keep.of_but hbu).heap (fun e => HBQ.out.2.2.1 e.symm) HQ9.out
                      have hXn : Ext w (w9.setCell ⟨B, 0, none⟩ (.slice am M.length cm)) := ((Keep.of_ext (S := fun j => j < w.heap.size) HX9.out).andThen (Keep.of_but hbu) (fun j hj _ => by have := HBQ.out; show j ≠ B; omega)).ext_lt
                      generalize w9.setCell ⟨B, 0, none⟩ (.slice am M.length cm) = wa at hs hbu hQn hXn ⊢
                      have hBn : wa.heap[B]? = some (.cells #[.slice am M.length cm, .slice fa n fc, .int .i64 nx, .int .i64 q] 30 (0, 0)) := by simpa using hs
                      have HB_wa := Lib.hid hBn
                      have HQ_wa := Lib.hid hQn
                      have HX_wa := Lib.hid hXn
                      have HU_wa := Lib.hid hbu
                      clear hs hbu hQn hXn hBn
                      have HPa := Lib.hid ((Keep.of_but HU_wa.out).heap HPN.out.1.1 HP9.out)
                      have hEn : EntsR wa am M := runM_keep H9.out.2.1 (Keep.of_but HU_wa.out) (fun ad h => by have h1 := H9.out.2.2.1 ad h; have h2 := HLT8.out; show ad.block ≠ B; omega)
                      have hEl := H9.out.1
                      obtain ⟨k3, hk3⟩ : ∃ k3 : Nat, findI M xp = k3 ∧ k3 < M.length := by
                        rcases findI_cases M xp with ⟨_, h2⟩ | ⟨k3, h1, h2, _⟩
                        · rw [HFF.out] at h2; cases h2
                        · exact ⟨k3, h2, h1⟩
                      have HK3 := Lib.hid hk3; clear hk3
                      have hfd2 := fun W (kk : Ext wa W) => ref_find M (am) cm fa n fc nx q xp W (hEn.ext kk) (by omega)
                      rw [HK3.out.1] at hfd2
                      have hwo2 := fun W (kk : Ext wa W) => ref_without M (am) cm k3 W (hEn.ext kk) hEl HK3.out.2 (by omega)
                      rw [erase_idx HK3.out.2 HK3.out.1] at hwo2
                      have HFD2 := Lib.hid hfd2; clear hfd2
                      have HWO2 := Lib.hid hwo2; clear hwo2 hEn hEl
                      obtain ⟨N, hNN⟩ : ∃ N, N = M.eraseP (isP xp) := ⟨_, rfl⟩
                      have hnl : N.length ≤ 1000000000 := Nat.le_trans (by rw [hNN]; exact List.eraseP_sublist.length_le) hbl
                      rw [← hNN] at HWO2 E
                      clear hNN
                      obtain ⟨mn, hmn⟩ : ∃ n, n = M.length := ⟨_, rfl⟩
                      rw [← hmn] at HFD2 HWO2 HB_wa hbl ⊢
                      clear hmn
                      have hcs : ∀ W, Ext wa W → (W.cell? ⟨B, 0, none⟩ = some (.slice (am) mn cm) ∧ W.cell? ⟨B, 1, none⟩ = some (.slice fa n fc) ∧ W.cell? ⟨B, 2, none⟩ = some (.int .i64 nx) ∧ W.cell? ⟨B, 3, none⟩ = some (.int .i64 q)) := fun W k => ⟨blk_cell (k.heap HB_wa.out) 0 _ rfl, blk_cell (k.heap HB_wa.out) 1 _ rfl, blk_cell (k.heap HB_wa.out) 2 _ rfl, blk_cell (k.heap HB_wa.out) 3 _ rfl⟩
                      have HCS := Lib.hid hcs; clear hcs
                      have HK := Lib.hid (Ext.refl wa).drew
                      go_upto_region 57 with fail
                      refine wp_region_noPanic ?_
                      refine wp_region_K (S := (fun W => W.cell? ⟨B, 0, none⟩ = some (.slice (am) mn cm) ∧ W.cell? ⟨B, 1, none⟩ = some (.slice fa n fc) ∧ W.cell? ⟨B, 2, none⟩ = some (.int .i64 nx) ∧ W.cell? ⟨B, 3, none⟩ = some (.int .i64 q))) (I := [1, 2]) (by kernel_rfl) (HCS.out _ HK.out) (fun hHeld => ?_)
                      clear hHeld
                      generalize wa.drew = wc at HK ⊢
                      refine wpAnyK_free (i := 0) (v := ?_) rfl (by kernel_rfl) (by kernel_rfl) (by kernel_rfl) (fun _ _ _ h => h) (by kernel_rfl) ?_ (fun _ => (HCS.out _ HK.out)) ?_
                      rotate_left
                      · (intro wq; first | (go_simp; done) | (go_simp; with_reducible rfl))
                      try simp only [List.getElem_toArray, List.getElem_cons_zero, Act.put, List.setIfInBounds_toArray, List.set_cons_zero, List.set_cons_succ]
                      refine wpAnyK_load (i := 1) (v := ?_) rfl (by kernel_rfl) (by kernel_rfl) (by kernel_rfl) (fun _ _ _ h => h) (by kernel_rfl) (by kernel_rfl) ?_ (HCS.out _ HK.out) ?_
                      rotate_left
                      · (intro wq hSw; (try dsimp only at hSw); first | (go_simp; done) | (go_simp; with_reducible rfl))
                      try simp only [List.getElem_toArray, List.getElem_cons_zero, List.getElem_cons_succ, Act.put, List.setIfInBounds_toArray, List.set_cons_zero, List.set_cons_succ]
                      refine wpAnyK_load (i := 2) (v := ?_) rfl (by kernel_rfl) (by kernel_rfl) (by kernel_rfl) (fun _ _ _ h => h) (by kernel_rfl) (by kernel_rfl) ?_ (HCS.out _ HK.out) ?_
                      rotate_left
                      · (intro wq hSw; (try dsimp only at hSw); first | (go_simp; done) | (go_simp; with_reducible rfl))
                      try simp only [List.getElem_toArray, List.getElem_cons_zero, List.getElem_cons_succ, Act.put, List.setIfInBounds_toArray, List.set_cons_zero, List.set_cons_succ]
                      refine wpAnyK_free (i := 3) (v := ?_) rfl (by kernel_rfl) (by kernel_rfl) (by kernel_rfl) (fun _ _ _ h => h) (by kernel_rfl) ?_ (fun _ => (HCS.out _ HK.out)) ?_
                      rotate_left
                      · (intro wq; first | (go_simp; done) | (go_simp; with_reducible rfl))
                      try simp only [List.getElem_toArray, List.getElem_cons_zero, List.getElem_cons_succ, Act.put, List.setIfInBounds_toArray, List.set_cons_zero, List.set_cons_succ]
                      all_goals (
                        first
                          | refine wpAnyK_ready (rs := [4]) (by decide +kernel) (by simp) ?_
                        repeat' (first | exact AllReadyK.nil | (refine AllReadyK.cons rfl (fun K hK => ?_) ?_)))
                      all_goals (
                        first
                          | (go_simp
                             first
                               | (go_at_call 14
                                  refine (HFD2.out wc HK.out).mono ?_
                                  rintro E wn ⟨rfl, hx⟩
                                  replace HK := Lib.hid (HK.out.trans hx)
                                  clear hx
                                  go_wp2_with fail
                                  refine hK.out _ _ (HCS.out _ HK.out) (fun _ => ?_)
                                  clear hK K
                                  obtain ⟨wc, rfl⟩ : ∃ x : World, x = wn := ⟨_, rfl⟩
                                  try simp only [List.getElem_toArray, List.getElem_cons_zero, List.getElem_cons_succ, Act.put, List.setIfInBounds_toArray, List.set_cons_zero, List.set_cons_succ])))
                      all_goals (
                        first
                          | refine wpAnyK_ready (rs := [5]) (by decide +kernel) (by simp) ?_
                        repeat' (first | exact AllReadyK.nil | (refine AllReadyK.cons rfl (fun K hK => ?_) ?_)))
                      all_goals (
                        first
                          | (go_simp
                             first
                               | (go_at_call 29
                                  refine (HWO2.out wc HK.out).mono ?_
                                  rintro E wn ⟨a5, c5, rfl, h5c, h5e, h5f, hx⟩
                                  have H5 := Lib.hid (And.intro h5c (And.intro h5e (fun ad h => Nat.le_trans HK.out.size (h5f ad h))))
                                  replace HK := Lib.hid (HK.out.trans hx)
                                  clear hx h5c h5e h5f
                                  go_wp2_with fail
                                  refine hK.out _ _ (HCS.out _ HK.out) (fun _ => ?_)
                                  clear hK K
                                  obtain ⟨wc, rfl⟩ : ∃ x : World, x = wn := ⟨_, rfl⟩
                                  try simp only [List.getElem_toArray, List.getElem_cons_zero, List.getElem_cons_succ, Act.put, List.setIfInBounds_toArray, List.set_cons_zero, List.set_cons_succ]
                                  refine wpAnyK_free (i := 6) (v := ?_) rfl (by kernel_rfl) (by kernel_rfl) (by kernel_rfl) (fun _ _ _ h => h) (by kernel_rfl) ?_ (fun _ => (HCS.out _ HK.out)) ?_
                                  rotate_left
                                  · (intro wq; first | (go_simp; done) | (go_simp; with_reducible rfl))
                                  try simp only [List.getElem_toArray, List.getElem_cons_zero, List.getElem_cons_succ, Act.put, List.setIfInBounds_toArray, List.set_cons_zero, List.set_cons_succ])))
                      all_goals (
                        have n0 := blk_cell (HK.out.heap HB_wa.out) 0 (Value.slice (am) mn cm) rfl
                        have g0 := blk_free (HK.out.heap HB_wa.out) 0
                        refine wpAnyK_last (i := 7) (by kernel_rfl) rfl (by kernel_rfl) ?_
                        intro K hK
                        go_simp
                        refine hK.out _ _ ?_
                        clear hK K
                        try simp only [List.getElem_toArray, List.getElem_cons_zero, List.getElem_cons_succ, Act.put, List.setIfInBounds_toArray, List.set_cons_zero, List.set_cons_succ])
                      all_goals (
                        refine wpAnyK_done (by kernel_rfl) ?_ _
                        refine NoPanic.normal ?_
                        clear n0 g0
                        go_upto_region 58 with fail)
                      have HBc := Lib.hid (HK.out.heap HB_wa.out)
                      have HQc := Lib.hid (HK.out.heap HQ_wa.out)
                      have HPc := Lib.hid (HK.out.heap HPa.out)
                      have HXc := Lib.hid (HX_wa.out.trans HK.out)
                      have hs := setCell_row (i := 0) HBc.out (.slice a5 N.length c5)
                      have hbu := (But.refl B wc).setCell 0 (.slice a5 N.length c5)
                      have hQn := (Keep.of_but hbu).heap (fun e => HBQ.out.2.2.1 e.symm) HQc.out
                      have hXn : Ext w (wc.setCell ⟨B, 0, none⟩ (.slice a5 N.length c5)) := ((Keep.of_ext (S := fun j => j < w.heap.size) HXc.out).andThen (Keep.of_but hbu) (fun j hj _ => by have := HBQ.out; show j ≠ B; omega)).ext_lt
                      generalize wc.setCell ⟨B, 0, none⟩ (.slice a5 N.length c5) = wd at hs hbu hQn hXn ⊢
                      have hBn : wd.heap[B]? = some (.cells #[.slice a5 N.length c5, .slice fa n fc, .int .i64 nx, .int .i64 q] 30 (0, 0)) := by simpa using hs
                      have HB_wd := Lib.hid hBn
                      have HQ_wd := Lib.hid hQn
                      have HX_wd := Lib.hid hXn
                      have HU_wd := Lib.hid hbu
                      clear hs hbu hQn hXn hBn
                      have HPd := Lib.hid ((Keep.of_but HU_wd.out).heap HPN.out.1.1 HPc.out)
                      have HNd : Hid (EntsR wd a5 N ∧ B < wd.heap.size ∧ Q < wd.heap.size) := Lib.hid ⟨runM_keep H5.out.2.1 (Keep.of_but HU_wd.out) (fun ad h => by have h1 := H5.out.2.2 ad h; have h2 := (Array.getElem?_eq_some_iff.1 HB_wa.out).1; show ad.block ≠ B; omega), (Array.getElem?_eq_some_iff.1 HB_wd.out).1, (Array.getElem?_eq_some_iff.1 HQ_wd.out).1⟩
                      have hwi := ref_with N a5 c5 ⟨ds, xi, false⟩ wd HNd.out.1 (by omega)
                      have HWI := Lib.hid hwi; clear hwi
                      have HMM : Hid (N = N) := Lib.hid rfl
                      obtain ⟨M, hM⟩ : ∃ M, M = N := ⟨_, rfl⟩
                      rw [← hM] at HWI E ⊢
                      have HMM := Lib.hid hM; clear hM
                      have b0 := blk_cell HB_wd.out 0 (Value.slice a5 N.length c5) rfl
                      have p1 := blk_cell HPd.out 1 (Value.int .i64 xi) rfl
                      rw [← HMM.out] at b0
                      go_wp2_with (go_at_call 28; refine Hid.out ?_)
                      refine Lib.hid ?_
                      clear b0 p1
                      have HXF : Hid (B < wd.heap.size ∧ Q < wd.heap.size) := Lib.hid HNd.out.2
                      refine HWI.out.mono ?_
                      rintro E9 w9 ⟨a9, c9, rfl, h9c, h9e, h9f, hx9⟩
                      have HB9 := Lib.hid (hx9.heap HB_wd.out)
                      have HQ9 := Lib.hid (hx9.heap HQ_wd.out)
                      have HX9 := Lib.hid (HX_wd.out.trans hx9)
                      have H9 := Lib.hid (And.intro h9c (And.intro h9e (And.intro h9f hx9))); clear h9c h9e h9f hx9 HWI
                      obtain ⟨MM, hMM⟩ : ∃ MM, MM = M ++ [(⟨ds, xi, false⟩ : EntD)] := ⟨_, rfl⟩
                      rw [← hMM] at H9 E ⊢
                      clear hMM
                      have b0 := blk_cell HB9.out 0 (Value.slice a5 N.length c5) rfl
                      have g0 := blk_free HB9.out 0
                      go_upto_region 59 with fail
                      clear b0 g0
                      have hs := setCell_row (i := 0) HB9.out (.slice a9 MM.length c9)
                      have hbu := (But.refl B w9).setCell 0 (.slice a9 MM.length c9)
                      have hQn := (Keep.of_but hbu).heap (fun e => HBQ.out.2.2.1 e.symm) HQ9.out
                      have hXn : Ext w (w9.setCell ⟨B, 0, none⟩ (.slice a9 MM.length c9)) := ((Keep.of_ext (S := fun j => j < w.heap.size) HX9.out).andThen (Keep.of_but hbu) (fun j hj _ => by have := HBQ.out; show j ≠ B; omega)).ext_lt
                      generalize w9.setCell ⟨B, 0, none⟩ (.slice a9 MM.length c9) = we at hs hbu hQn hXn ⊢
                      have hBn : we.heap[B]? = some (.cells #[.slice a9 MM.length c9, .slice fa n fc, .int .i64 nx, .int .i64 q] 30 (0, 0)) := by simpa using hs
                      have HB_we := Lib.hid hBn
                      have HQ_we := Lib.hid hQn
                      have HX_we := Lib.hid hXn
                      have HU_we := Lib.hid hbu
                      clear hs hbu hQn hXn hBn
                      have b0 := blk_cell HB_we.out 0 (Value.slice a9 MM.length c9) rfl
                      have b1 := blk_cell HB_we.out 1 (Value.slice fa n fc) rfl
                      have b2 := blk_cell HB_we.out 2 (Value.int .i64 nx) rfl
                      have b3 := blk_cell HB_we.out 3 (Value.int .i64 q) rfl
                      have q0 := blk_cell HQ_we.out 0 (Value.slice none 0 0) rfl
                      have q1 := blk_cell HQ_we.out 1 (Value.slice none 0 0) rfl
                      have q2 := blk_cell HQ_we.out 2 (Value.int .i64 0) rfl
                      have q3 := blk_cell HQ_we.out 3 (Value.int .i64 0) rfl
                      have g0 := blk_free HQ_we.out 0
                      have g1 := blk_free HQ_we.out 1
                      have g2 := blk_free HQ_we.out 2
                      have g3 := blk_free HQ_we.out 3
                      go_wp2_with fail
                      have e := E.out
                      have hs := set4r HQ_we.out (.slice a9 MM.length c9) (.slice fa n fc) (.int .i64 nx) (.int .i64 q)
                      have e0 := blk_cell hs.1 0 (Value.slice a9 MM.length c9) rfl
                      have e1 := blk_cell hs.1 1 (Value.slice fa n fc) rfl
                      have e2 := blk_cell hs.1 2 (Value.int .i64 nx) rfl
                      have e3 := blk_cell hs.1 3 (Value.int .i64 q) rfl
                      refine bodyPost_ret (v := .tuple #[.agg #[.slice a9 MM.length c9, .slice fa n fc, .int .i64 nx, .int .i64 q], .int .i64 0]) (by simp [results, Tryz.results9, go_sem, e0, e1, e2, e3]) rfl ?_
                      rw [HR.out, e]
                      have hx : Ext w ((((we.setCell ⟨Q, 0, none⟩ (.slice a9 MM.length c9)).setCell ⟨Q, 1, none⟩ (.slice fa n fc)).setCell ⟨Q, 2, none⟩ (.int .i64 nx)).setCell ⟨Q, 3, none⟩ (.int .i64 q)) := ((Keep.of_ext (S := fun j => j < w.heap.size) HX_we.out).andThen (Keep.of_but hs.2) (fun j hj _ => by have := HBQ.out; show j ≠ Q; omega)).ext_lt
                      have hkq : Keep (fun j => j ≠ B ∧ j ≠ Q) w9 _ := ((Keep.of_but HU_we.out).mono (fun j _ hj => hj.1)).andThen (Keep.of_but hs.2) (fun j _ hj => hj.2)
                      refine ⟨⟨a9, c9, fa, fc, F⟩, ?_, ⟨runM_keep H9.out.2.1 hkq (fun ad h => ?_), H9.out.1, HM.out.fils.ext hx, HM.out.flen, HM.out.fmap⟩, hx⟩
                      · unfold refV
                        simp only
                        rw [← HN.out]
                      · have h1 := H9.out.2.2.1 ad h
                        have h2 := HXF.out
                        exact ⟨by omega, by omega⟩
end Go.Proofs.YtldgpcmnmegioaaGreatDoor
