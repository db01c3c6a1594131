/- farrierref06.Step: kd = 0 ∨ kd = 2 ∨ kd < 0 ∨ 6 < kd. -/
import Derived.Test.YtldgpcmnmegioaaGreatDoorM4
namespace Go.Proofs.YtldgpcmnmegioaaGreatDoor
open Go.RowKit
attribute [local go_sem ↓] Go.wp_at_zero Go.wp_at_succ
set_option maxRecDepth 100000 in
set_option maxHeartbeats 51200000 in
theorem ref_stepA (m : RefD) (A : RefA) (kd : Int) (pt ds dt : By) (oa : Option Addr) (oc : Nat) (w : World) (hM : RefM w m A) (hB : Bytes w oa dt) (hdl : dt.length ≤ 100000000000) (hl : m.list.length ≤ 1000000000) (hf : m.files.length ≤ 1000000000) (hnx : -1000000000000 ≤ m.next ∧ m.next ≤ 1000000000000) (_hp : pt.length ≤ 100000) (hs : ∀ e ∈ m.list, e.path.length ≤ 100000) (hkd : kd = 0 ∨ kd = 2 ∨ kd < 0 ∨ 6 < kd) :
    Calls Tryz.prog 9 #[refV m A, .int .i64 kd, .string (bs pt), .string (bs ds), .slice oa dt.length oc] w (RefE (stepM m ⟨kd, pt, ds, dt⟩).1 (stepM m ⟨kd, pt, ds, dt⟩).2 w) := by
  obtain ⟨rr, hrr⟩ : ∃ rr, rr = stepM m ⟨kd, pt, ds, dt⟩ := ⟨_, rfl⟩
  rw [← hrr]
  have HRR := Lib.hid hrr; clear hrr
  obtain ⟨R, hR⟩ : ∃ R, R = RefE rr.1 rr.2 w := ⟨_, rfl⟩
  rw [← hR]
  have HR := Lib.hid hR; clear hR
  have hfl := hM.flen'
  obtain ⟨L, files, nx, q⟩ := m
  obtain ⟨la, lc, fa, fc, F⟩ := A
  unfold refV
  simp only at hl hf hfl hnx hs ⊢
  have hpl := fun d W (k : Ext w W) => ref_place L la lc fa files.length fc nx q d W (hM.ents.ext k) (by omega)
  have hfd := fun d W (k : Ext w W) => ref_find L la lc fa files.length fc nx q d W (hM.ents.ext k) (by omega)
  have HM := Lib.hid hM; clear hM
  have HDT := Lib.hid hB; clear hB
  have HSH := Lib.hid hs; clear hs
  obtain ⟨ln, hln⟩ : ∃ n, n = L.length := ⟨_, rfl⟩
  obtain ⟨n, hn⟩ : ∃ n, n = files.length := ⟨_, rfl⟩
  obtain ⟨dn, hdn⟩ : ∃ n, n = dt.length := ⟨_, rfl⟩
  rw [← hln] at hl hpl hfd ⊢
  rw [← hn] at hf hfl hpl hfd ⊢
  rw [← hdn] at hdl ⊢
  have HLN := Lib.hid hln; clear hln
  have HN := Lib.hid hn; clear hn
  have HDN := Lib.hid hdn; clear hdn
  have HFL := Lib.hid hfl; clear hfl
  have HPL := Lib.hid hpl; clear hpl
  have HFD := Lib.hid hfd; clear hfd
  have hsame : ∀ W, Ext w W → ∀ code, RefE ⟨L, files, nx, q⟩ code w (.returned (.tuple #[.agg #[.slice la ln lc, .slice fa n fc, .int .i64 nx, .int .i64 q], .int .i64 code])) W := fun W k code => ⟨⟨la, lc, fa, fc, F⟩, by rw [HLN.out, HN.out]; rfl, HM.out.ext k, k⟩
  have HSAME := Lib.hid hsame; clear hsame
  go_enter Tryz.func9, Tryz.ntmps9
  go_upto_region 1 with fail
  have hx_w2 : Ext w ((w.alloc (.cells #[.slice la ln lc, .slice fa n fc, .int .i64 nx, .int .i64 q] 30)).alloc (.cells #[.slice none 0 0, .slice none 0 0, .int .i64 0, .int .i64 0] 30)) := ((Ext.alloc _ _).trans (Ext.alloc _ _))
  have hf_B := (Ext.alloc (w.alloc (.cells #[.slice la ln lc, .slice fa n fc, .int .i64 nx, .int .i64 q] 30)) (.cells #[.slice none 0 0, .slice none 0 0, .int .i64 0, .int .i64 0] 30)).heap (heap_alloc_new w (.cells #[.slice la ln lc, .slice fa n fc, .int .i64 nx, .int .i64 q] 30))
  have hf_Q := heap_alloc_new (w.alloc (.cells #[.slice la ln lc, .slice fa n fc, .int .i64 nx, .int .i64 q] 30)) (.cells #[.slice none 0 0, .slice none 0 0, .int .i64 0, .int .i64 0] 30)
  simp only [World.size_alloc] at hf_Q
  generalize (w.alloc (.cells #[.slice la ln lc, .slice fa n fc, .int .i64 nx, .int .i64 q] 30)).alloc (.cells #[.slice none 0 0, .slice none 0 0, .int .i64 0, .int .i64 0] 30) = w2 at hx_w2 hf_B hf_Q ⊢
  obtain ⟨B, h_B⟩ : ∃ x, x = w.heap.size := ⟨_, rfl⟩
  obtain ⟨Q, h_Q⟩ : ∃ x, x = w.heap.size + 1 := ⟨_, rfl⟩
  rw [← h_Q] at hf_Q
  rw [← h_B] at hf_B
  try rw [← h_Q, ← h_B]
  have hs_B : w.heap.size ≤ B := by omega
  have hs_Q : w.heap.size ≤ Q := by omega
  have hBQ : w.heap.size ≤ B ∧ w.heap.size ≤ Q ∧ B ≠ Q ∧ Q < w2.heap.size ∧ B < w2.heap.size := ⟨hs_B, hs_Q, by omega, (Array.getElem?_eq_some_iff.1 hf_Q).1, (Array.getElem?_eq_some_iff.1 hf_B).1⟩
  have HBQ := Lib.hid hBQ; clear hBQ hs_B hs_Q h_B h_Q
  have HB := Lib.hid hf_B; clear hf_B
  have HQ := Lib.hid hf_Q; clear hf_Q
  have HX := Lib.hid hx_w2; clear hx_w2
  by_cases k1 : kd < 0
  · have hd1 : decide (kd < 0) = true := decide_eq_true k1
    have e : rr = (⟨L, files, nx, q⟩, 1) := by rw [HRR.out]; unfold stepM; rw [if_pos (Or.inl k1)]
    have b0 := blk_cell HB.out 0 (Value.slice la ln lc) rfl
    have b1 := blk_cell HB.out 1 (Value.slice fa n fc) rfl
    have b2 := blk_cell HB.out 2 (Value.int .i64 nx) rfl
    have b3 := blk_cell HB.out 3 (Value.int .i64 q) rfl
    have q0 := blk_cell HQ.out 0 (Value.slice none 0 0) rfl
    have q1 := blk_cell HQ.out 1 (Value.slice none 0 0) rfl
    have q2 := blk_cell HQ.out 2 (Value.int .i64 0) rfl
    have q3 := blk_cell HQ.out 3 (Value.int .i64 0) rfl
    have g0 := blk_free HQ.out 0
    have g1 := blk_free HQ.out 1
    have g2 := blk_free HQ.out 2
    have g3 := blk_free HQ.out 3
    have E := Lib.hid e; clear e
    go_wp2_with fail
    have e := E.out
    have hs := set4r HQ.out (.slice la ln lc) (.slice fa n fc) (.int .i64 nx) (.int .i64 q)
    have e0 := blk_cell hs.1 0 (Value.slice la ln lc) rfl
    have e1 := blk_cell hs.1 1 (Value.slice fa n fc) rfl
    have e2 := blk_cell hs.1 2 (Value.int .i64 nx) rfl
    have e3 := blk_cell hs.1 3 (Value.int .i64 q) rfl
    refine bodyPost_ret (v := .tuple #[.agg #[.slice la ln lc, .slice fa n fc, .int .i64 nx, .int .i64 q], .int .i64 1]) (by simp [results, Tryz.results9, go_sem, e0, e1, e2, e3]) rfl ?_
    rw [HR.out, e]
    have hx : Ext w ((((w2.setCell ⟨Q, 0, none⟩ (.slice la ln lc)).setCell ⟨Q, 1, none⟩ (.slice fa n fc)).setCell ⟨Q, 2, none⟩ (.int .i64 nx)).setCell ⟨Q, 3, none⟩ (.int .i64 q)) := ((Keep.of_ext (S := fun j => j < w.heap.size) HX.out).andThen (Keep.of_but hs.2) (fun j hj _ => by have := HBQ.out; show j ≠ Q; omega)).ext_lt
    exact HSAME.out _ hx _
  by_cases k2 : 6 < kd
  · have hd1 : decide (kd < 0) = false := decide_eq_false k1
    have hd2 : decide (6 < kd) = true := decide_eq_true k2
    have e : rr = (⟨L, files, nx, q⟩, 1) := by rw [HRR.out]; unfold stepM; rw [if_pos (Or.inr k2)]
    have b0 := blk_cell HB.out 0 (Value.slice la ln lc) rfl
    have b1 := blk_cell HB.out 1 (Value.slice fa n fc) rfl
    have b2 := blk_cell HB.out 2 (Value.int .i64 nx) rfl
    have b3 := blk_cell HB.out 3 (Value.int .i64 q) rfl
    have q0 := blk_cell HQ.out 0 (Value.slice none 0 0) rfl
    have q1 := blk_cell HQ.out 1 (Value.slice none 0 0) rfl
    have q2 := blk_cell HQ.out 2 (Value.int .i64 0) rfl
    have q3 := blk_cell HQ.out 3 (Value.int .i64 0) rfl
    have g0 := blk_free HQ.out 0
    have g1 := blk_free HQ.out 1
    have g2 := blk_free HQ.out 2
    have g3 := blk_free HQ.out 3
    have E := Lib.hid e; clear e
    go_wp2_with fail
    have e := E.out
    have hs := set4r HQ.out (.slice la ln lc) (.slice fa n fc) (.int .i64 nx) (.int .i64 q)
    have e0 := blk_cell hs.1 0 (Value.slice la ln lc) rfl
    have e1 := blk_cell hs.1 1 (Value.slice fa n fc) rfl
    have e2 := blk_cell hs.1 2 (Value.int .i64 nx) rfl
    have e3 := blk_cell hs.1 3 (Value.int .i64 q) rfl
    refine bodyPost_ret (v := .tuple #[.agg #[.slice la ln lc, .slice fa n fc, .int .i64 nx, .int .i64 q], .int .i64 1]) (by simp [results, Tryz.results9, go_sem, e0, e1, e2, e3]) rfl ?_
    rw [HR.out, e]
    have hx : Ext w ((((w2.setCell ⟨Q, 0, none⟩ (.slice la ln lc)).setCell ⟨Q, 1, none⟩ (.slice fa n fc)).setCell ⟨Q, 2, none⟩ (.int .i64 nx)).setCell ⟨Q, 3, none⟩ (.int .i64 q)) := ((Keep.of_ext (S := fun j => j < w.heap.size) HX.out).andThen (Keep.of_but hs.2) (fun j hj _ => by have := HBQ.out; show j ≠ Q; omega)).ext_lt
    exact HSAME.out _ hx _
  have hd1 : decide (kd < 0) = false := decide_eq_false k1
  have hd2 : decide (6 < kd) = false := decide_eq_false k2
  have hk06 : 0 ≤ kd ∧ kd ≤ 6 := by omega
  have C1 : Hid (¬ (kd < 0 ∨ 6 < kd)) := Lib.hid (by omega)
  have b0 := blk_cell HB.out 0 (Value.slice la ln lc) rfl
  have b1 := blk_cell HB.out 1 (Value.slice fa n fc) rfl
  have b2 := blk_cell HB.out 2 (Value.int .i64 nx) rfl
  have b3 := blk_cell HB.out 3 (Value.int .i64 q) rfl
  have q0 := blk_cell HQ.out 0 (Value.slice none 0 0) rfl
  have q1 := blk_cell HQ.out 1 (Value.slice none 0 0) rfl
  have q2 := blk_cell HQ.out 2 (Value.int .i64 0) rfl
  have q3 := blk_cell HQ.out 3 (Value.int .i64 0) rfl
  have g0 := blk_free HQ.out 0
  have g1 := blk_free HQ.out 1
  have g2 := blk_free HQ.out 2
  have g3 := blk_free HQ.out 3
  go_wp2_with (go_at_call 27; refine Hid.out ?_)
  refine Lib.hid ?_
  clear b0 b1 b2 b3 q0 q1 q2 q3 g0 g1 g2 g3
  refine (HPL.out pt _ HX.out).mono ?_
  rintro E w3 ⟨rfl, hx3⟩
  have HB3 := Lib.hid (hx3.heap HB.out); clear HB
  have HQ3 := Lib.hid (hx3.heap HQ.out); clear HQ
  have HX3 := Lib.hid (HX.out.trans hx3); clear HX hx3
  by_cases p0 : placeL L pt = 0
  case neg =>
    have e : rr = (⟨L, files, nx, q⟩, placeL L pt) := by rw [HRR.out]; unfold stepM; rw [if_neg C1.out, ← placeL_eq, if_pos p0]
    generalize placeL L pt = pz at p0 e ⊢
    have hb := int_bne p0
    have hb2 : (pz != 0) = true := by simp [p0]
    have b0 := blk_cell HB3.out 0 (Value.slice la ln lc) rfl
    have b1 := blk_cell HB3.out 1 (Value.slice fa n fc) rfl
    have b2 := blk_cell HB3.out 2 (Value.int .i64 nx) rfl
    have b3 := blk_cell HB3.out 3 (Value.int .i64 q) rfl
    have q0 := blk_cell HQ3.out 0 (Value.slice none 0 0) rfl
    have q1 := blk_cell HQ3.out 1 (Value.slice none 0 0) rfl
    have q2 := blk_cell HQ3.out 2 (Value.int .i64 0) rfl
    have q3 := blk_cell HQ3.out 3 (Value.int .i64 0) rfl
    have g0 := blk_free HQ3.out 0
    have g1 := blk_free HQ3.out 1
    have g2 := blk_free HQ3.out 2
    have g3 := blk_free HQ3.out 3
    have E := Lib.hid e; clear e
    go_wp2_with fail
    have e := E.out
    have hs := set4r HQ3.out (.slice la ln lc) (.slice fa n fc) (.int .i64 nx) (.int .i64 q)
    have e0 := blk_cell hs.1 0 (Value.slice la ln lc) rfl
    have e1 := blk_cell hs.1 1 (Value.slice fa n fc) rfl
    have e2 := blk_cell hs.1 2 (Value.int .i64 nx) rfl
    have e3 := blk_cell hs.1 3 (Value.int .i64 q) rfl
    refine bodyPost_ret (v := .tuple #[.agg #[.slice la ln lc, .slice fa n fc, .int .i64 nx, .int .i64 q], .int .i64 pz]) (by simp [results, Tryz.results9, go_sem, e0, e1, e2, e3]) rfl ?_
    rw [HR.out, e]
    have hx : Ext w ((((w3.setCell ⟨Q, 0, none⟩ (.slice la ln lc)).setCell ⟨Q, 1, none⟩ (.slice fa n fc)).setCell ⟨Q, 2, none⟩ (.int .i64 nx)).setCell ⟨Q, 3, none⟩ (.int .i64 q)) := ((Keep.of_ext (S := fun j => j < w.heap.size) HX3.out).andThen (Keep.of_but hs.2) (fun j hj _ => by have := HBQ.out; show j ≠ Q; omega)).ext_lt
    exact HSAME.out _ hx _
  case pos =>
    have C2 : Hid (¬ placeM ⟨L, files, nx, q⟩ pt ≠ 0) := Lib.hid (by rw [← placeL_eq]; simpa using p0)
    rw [p0]
    clear p0
    by_cases hlen : 3500 < dn
    · have hd3 : decide ((3500 : Int) < (dn : Int)) = true := decide_eq_true (by omega)
      have e : rr = (⟨L, files, nx, q⟩, 6) := by rw [HRR.out]; unfold stepM; rw [if_neg C1.out, if_neg C2.out, if_pos (by rw [← HDN.out]; exact hlen)]
      have b0 := blk_cell HB3.out 0 (Value.slice la ln lc) rfl
      have b1 := blk_cell HB3.out 1 (Value.slice fa n fc) rfl
      have b2 := blk_cell HB3.out 2 (Value.int .i64 nx) rfl
      have b3 := blk_cell HB3.out 3 (Value.int .i64 q) rfl
      have q0 := blk_cell HQ3.out 0 (Value.slice none 0 0) rfl
      have q1 := blk_cell HQ3.out 1 (Value.slice none 0 0) rfl
      have q2 := blk_cell HQ3.out 2 (Value.int .i64 0) rfl
      have q3 := blk_cell HQ3.out 3 (Value.int .i64 0) rfl
      have g0 := blk_free HQ3.out 0
      have g1 := blk_free HQ3.out 1
      have g2 := blk_free HQ3.out 2
      have g3 := blk_free HQ3.out 3
      have E := Lib.hid e; clear e
      go_wp2_with fail
      have e := E.out
      have hs := set4r HQ3.out (.slice la ln lc) (.slice fa n fc) (.int .i64 nx) (.int .i64 q)
      have e0 := blk_cell hs.1 0 (Value.slice la ln lc) rfl
      have e1 := blk_cell hs.1 1 (Value.slice fa n fc) rfl
      have e2 := blk_cell hs.1 2 (Value.int .i64 nx) rfl
      have e3 := blk_cell hs.1 3 (Value.int .i64 q) rfl
      refine bodyPost_ret (v := .tuple #[.agg #[.slice la ln lc, .slice fa n fc, .int .i64 nx, .int .i64 q], .int .i64 6]) (by simp [results, Tryz.results9, go_sem, e0, e1, e2, e3]) rfl ?_
      rw [HR.out, e]
      have hx : Ext w ((((w3.setCell ⟨Q, 0, none⟩ (.slice la ln lc)).setCell ⟨Q, 1, none⟩ (.slice fa n fc)).setCell ⟨Q, 2, none⟩ (.int .i64 nx)).setCell ⟨Q, 3, none⟩ (.int .i64 q)) := ((Keep.of_ext (S := fun j => j < w.heap.size) HX3.out).andThen (Keep.of_but hs.2) (fun j hj _ => by have := HBQ.out; show j ≠ Q; omega)).ext_lt
      exact HSAME.out _ hx _
    have hd3 : decide ((3500 : Int) < (dn : Int)) = false := decide_eq_false (by omega)
    have C3 : Hid (¬ 3500 < dt.length) := Lib.hid (by rw [← HDN.out]; exact hlen)
    have b0 := blk_cell HB3.out 0 (Value.slice la ln lc) rfl
    have b1 := blk_cell HB3.out 1 (Value.slice fa n fc) rfl
    have b2 := blk_cell HB3.out 2 (Value.int .i64 nx) rfl
    have b3 := blk_cell HB3.out 3 (Value.int .i64 q) rfl
    have q0 := blk_cell HQ3.out 0 (Value.slice none 0 0) rfl
    have q1 := blk_cell HQ3.out 1 (Value.slice none 0 0) rfl
    have q2 := blk_cell HQ3.out 2 (Value.int .i64 0) rfl
    have q3 := blk_cell HQ3.out 3 (Value.int .i64 0) rfl
    have g0 := blk_free HQ3.out 0
    have g1 := blk_free HQ3.out 1
    have g2 := blk_free HQ3.out 2
    have g3 := blk_free HQ3.out 3
    go_wp2_with (go_at_call 14; refine Hid.out ?_)
    refine Lib.hid ?_
    clear b0 b1 b2 b3 q0 q1 q2 q3 g0 g1 g2 g3
    refine (HFD.out pt _ HX3.out).mono ?_
    rintro E w4 ⟨rfl, hx4⟩
    have HB4 := Lib.hid (hx4.heap HB3.out); clear HB3
    have HQ4 := Lib.hid (hx4.heap HQ3.out); clear HQ3
    have HX4 := Lib.hid (HX3.out.trans hx4); clear HX3 hx4
    have hcs := findI_cases L pt
    have HCS := Lib.hid hcs; clear hcs
    have HLT4 := Lib.hid (And.intro (Array.getElem?_eq_some_iff.1 HB4.out).1 (Array.getElem?_eq_some_iff.1 HQ4.out).1)
    · have c4 : kd = 0 ∨ kd = 2 := by omega
      have C4 := Lib.hid c4
      rcases HCS.out with ⟨f1, f2⟩ | ⟨k, f1, f2, f3, f4⟩
      · rw [f1]
        have HF2 := Lib.hid f2
        clear f1 f2
        have hwi := ref_with L la lc ⟨pt, nx, decide (kd = 0)⟩ w4 (HM.out.ents.ext HX4.out) (by have := HLN.out; omega)
        unfold NewEnts at hwi
        simp only [List.length_append, List.length_cons, List.length_nil] at hwi
        rw [← HLN.out] at hwi
        have hwr : IntKind.i64.wrap (nx + 1) = nx + 1 := IntWalk.i64_in _ (by omega)
        rcases c4 with rfl | rfl
        · have e : rr = (⟨L ++ [⟨pt, nx, true⟩], files, nx + 1, q⟩, 0) := by
            rw [HRR.out]; unfold stepM
            rw [if_neg C1.out, if_neg C2.out, if_neg C3.out, if_pos C4.out]
            simp only [entM, HF2.out]
            rfl
          have E := Lib.hid e; clear e
          have hwi : Calls _ _ #[.slice la ln lc, .agg #[.string (bs pt), .int .i64 nx, .bool true]] _ _ := hwi
          have HWI := Lib.hid hwi; clear hwi
          have b0 := blk_cell HB4.out 0 (Value.slice la ln lc) rfl
          have b1 := blk_cell HB4.out 1 (Value.slice fa n fc) rfl
          have b2 := blk_cell HB4.out 2 (Value.int .i64 nx) rfl
          have b3 := blk_cell HB4.out 3 (Value.int .i64 q) rfl
          have q0 := blk_cell HQ4.out 0 (Value.slice none 0 0) rfl
          have q1 := blk_cell HQ4.out 1 (Value.slice none 0 0) rfl
          have q2 := blk_cell HQ4.out 2 (Value.int .i64 0) rfl
          have q3 := blk_cell HQ4.out 3 (Value.int .i64 0) rfl
          have g0 := blk_free HQ4.out 0
          have g1 := blk_free HQ4.out 1
          have g2 := blk_free HQ4.out 2
          have g3 := blk_free HQ4.out 3
          have g0 := blk_free HB4.out 0
          go_wp2_with (go_at_call 28; refine Hid.out ?_)
          refine Lib.hid ?_
          clear b0 b1 b2 b3 q0 q1 q2 q3 g0 g1 g2 g3
          refine HWI.out.mono ?_
          rintro E5 w5 ⟨a5, c5, rfl, h5c, h5e, h5f, hx5⟩
          have HB5 := Lib.hid (hx5.heap HB4.out); clear HB4
          have HQ5 := Lib.hid (hx5.heap HQ4.out); clear HQ4
          have HX5 := Lib.hid (HX4.out.trans hx5)
          have H5 := Lib.hid (And.intro h5c (And.intro h5e (And.intro h5f hx5))); clear h5c h5e h5f hx5 HWI
          have b0 := blk_cell HB5.out 0 (Value.slice la ln lc) rfl
          have b1 := blk_cell HB5.out 1 (Value.slice fa n fc) rfl
          have b2 := blk_cell HB5.out 2 (Value.int .i64 nx) rfl
          have b3 := blk_cell HB5.out 3 (Value.int .i64 q) rfl
          have q0 := blk_cell HQ5.out 0 (Value.slice none 0 0) rfl
          have q1 := blk_cell HQ5.out 1 (Value.slice none 0 0) rfl
          have q2 := blk_cell HQ5.out 2 (Value.int .i64 0) rfl
          have q3 := blk_cell HQ5.out 3 (Value.int .i64 0) rfl
          have g0 := blk_free HQ5.out 0
          have g1 := blk_free HQ5.out 1
          have g2 := blk_free HQ5.out 2
          have g3 := blk_free HQ5.out 3
          have g0 := blk_free HB5.out 0
          go_upto_region 13 with fail
          clear b0 b1 b2 b3 q0 q1 q2 q3 g0 g1 g2 g3
          have hs := setCell_row (i := 0) HB5.out (.slice a5 (ln + 1) c5)
          have hbu := (But.refl B w5).setCell 0 (.slice a5 (ln + 1) c5)
          have hQn := (Keep.of_but hbu).heap (fun e => HBQ.out.2.2.1 e.symm) HQ5.out
          have hXn : Ext w (w5.setCell ⟨B, 0, none⟩ (.slice a5 (ln + 1) c5)) := ((Keep.of_ext (S := fun j => j < w.heap.size) HX5.out).andThen (Keep.of_but hbu) (fun j hj _ => by have := HBQ.out; show j ≠ B; omega)).ext_lt
          generalize w5.setCell ⟨B, 0, none⟩ (.slice a5 (ln + 1) c5) = w6 at hs hbu hQn hXn ⊢
          have hBn : w6.heap[B]? = some (.cells #[.slice a5 (ln + 1) c5, .slice fa n fc, .int .i64 nx, .int .i64 q] 30 (0, 0)) := by simpa using hs
          have HB_w6 := Lib.hid hBn
          have HQ_w6 := Lib.hid hQn
          have HX_w6 := Lib.hid hXn
          have HU_w6 := Lib.hid hbu
          clear hs hbu hQn hXn hBn
          have b2 := blk_cell HB_w6.out 2 (Value.int .i64 nx) rfl
          have g2 := blk_free HB_w6.out 2
          go_upto_region 16 with fail
          clear b2 g2
          have hs := setCell_row (i := 2) HB_w6.out (.int .i64 (nx + 1))
          have hbu := (But.refl B w6).setCell 2 (.int .i64 (nx + 1))
          have hQn := (Keep.of_but hbu).heap (fun e => HBQ.out.2.2.1 e.symm) HQ_w6.out
          have hXn : Ext w (w6.setCell ⟨B, 2, none⟩ (.int .i64 (nx + 1))) := ((Keep.of_ext (S := fun j => j < w.heap.size) HX_w6.out).andThen (Keep.of_but hbu) (fun j hj _ => by have := HBQ.out; show j ≠ B; omega)).ext_lt
          generalize w6.setCell ⟨B, 2, none⟩ (.int .i64 (nx + 1)) = w7 at hs hbu hQn hXn ⊢
          have hBn : w7.heap[B]? = some (.cells #[.slice a5 (ln + 1) c5, .slice fa n fc, .int .i64 (nx + 1), .int .i64 q] 30 (0, 0)) := by simpa using hs
          have HB_w7 := Lib.hid hBn
          have HQ_w7 := Lib.hid hQn
          have HX_w7 := Lib.hid hXn
          have HU_w7 := Lib.hid hbu
          clear hs hbu hQn hXn hBn
          have b0 := blk_cell HB_w7.out 0 (Value.slice a5 (ln + 1) c5) rfl
          have b1 := blk_cell HB_w7.out 1 (Value.slice fa n fc) rfl
          have b2 := blk_cell HB_w7.out 2 (Value.int .i64 (nx + 1)) rfl
          have b3 := blk_cell HB_w7.out 3 (Value.int .i64 q) rfl
          have q0 := blk_cell HQ_w7.out 0 (Value.slice none 0 0) rfl
          have q1 := blk_cell HQ_w7.out 1 (Value.slice none 0 0) rfl
          have q2 := blk_cell HQ_w7.out 2 (Value.int .i64 0) rfl
          have q3 := blk_cell HQ_w7.out 3 (Value.int .i64 0) rfl
          have g0 := blk_free HQ_w7.out 0
          have g1 := blk_free HQ_w7.out 1
          have g2 := blk_free HQ_w7.out 2
          have g3 := blk_free HQ_w7.out 3
          go_wp2_with fail
          have e := E.out
          have hs := set4r HQ_w7.out (.slice a5 (ln + 1) c5) (.slice fa n fc) (.int .i64 (nx + 1)) (.int .i64 q)
          have e0 := blk_cell hs.1 0 (Value.slice a5 (ln + 1) c5) rfl
          have e1 := blk_cell hs.1 1 (Value.slice fa n fc) rfl
          have e2 := blk_cell hs.1 2 (Value.int .i64 (nx + 1)) rfl
          have e3 := blk_cell hs.1 3 (Value.int .i64 q) rfl
          refine bodyPost_ret (v := .tuple #[.agg #[.slice a5 (ln + 1) c5, .slice fa n fc, .int .i64 (nx + 1), .int .i64 q], .int .i64 0]) (by simp [results, Tryz.results9, go_sem, e0, e1, e2, e3]) rfl ?_
          rw [HR.out, e]
          have hx : Ext w ((((w7.setCell ⟨Q, 0, none⟩ (.slice a5 (ln + 1) c5)).setCell ⟨Q, 1, none⟩ (.slice fa n fc)).setCell ⟨Q, 2, none⟩ (.int .i64 (nx + 1))).setCell ⟨Q, 3, none⟩ (.int .i64 q)) := ((Keep.of_ext (S := fun j => j < w.heap.size) HX_w7.out).andThen (Keep.of_but hs.2) (fun j hj _ => by have := HBQ.out; show j ≠ Q; omega)).ext_lt
          have hkq : Keep (fun j => j ≠ B ∧ j ≠ Q) w5 _ := (((Keep.of_but HU_w6.out).mono (fun j _ hj => hj.1)).andThen (Keep.of_but HU_w7.out) (fun j _ hj => hj.1)).andThen (Keep.of_but hs.2) (fun j _ hj => hj.2)
          refine ⟨⟨a5, c5, fa, fc, F⟩, ?_, ⟨runM_keep H5.out.2.1 hkq (fun ad h => ?_), ?_, HM.out.fils.ext hx, HM.out.flen, HM.out.fmap⟩, hx⟩
          · unfold refV
            simp only [List.length_append, List.length_cons, List.length_nil]
            rw [← HLN.out, ← HN.out]
          · have h1 := H5.out.2.2.1 ad h
            have h2 := HLT4.out
            exact ⟨by omega, by omega⟩
          · simp only [List.length_append, List.length_cons, List.length_nil]
            rw [← HLN.out]
            exact H5.out.1
        · have hdt : dt.length ≤ 3500 := by have := C3.out; omega
          have HDT3 := Lib.hid hdt; clear hdt
          have hdn3 : dn ≤ 3500 := by omega
          have e : rr = (⟨L ++ [⟨pt, nx, false⟩], files ++ [⟨nx, dt⟩], nx + 1, q⟩, 0) := by
            rw [HRR.out]; unfold stepM
            rw [if_neg C1.out, if_neg C2.out, if_neg C3.out, if_pos C4.out]
            simp only [entM, HF2.out]
            rfl
          have E := Lib.hid e; clear e
          have hwi : Calls _ _ #[.slice la ln lc, .agg #[.string (bs pt), .int .i64 nx, .bool false]] _ _ := hwi
          have HWI := Lib.hid hwi; clear hwi
          have b0 := blk_cell HB4.out 0 (Value.slice la ln lc) rfl
          have b1 := blk_cell HB4.out 1 (Value.slice fa n fc) rfl
          have b2 := blk_cell HB4.out 2 (Value.int .i64 nx) rfl
          have b3 := blk_cell HB4.out 3 (Value.int .i64 q) rfl
          have q0 := blk_cell HQ4.out 0 (Value.slice none 0 0) rfl
          have q1 := blk_cell HQ4.out 1 (Value.slice none 0 0) rfl
          have q2 := blk_cell HQ4.out 2 (Value.int .i64 0) rfl
          have q3 := blk_cell HQ4.out 3 (Value.int .i64 0) rfl
          have g0 := blk_free HQ4.out 0
          have g1 := blk_free HQ4.out 1
          have g2 := blk_free HQ4.out 2
          have g3 := blk_free HQ4.out 3
          have g0 := blk_free HB4.out 0
          go_wp2_with (go_at_call 28; refine Hid.out ?_)
          refine Lib.hid ?_
          clear b0 b1 b2 b3 q0 q1 q2 q3 g0 g1 g2 g3
          refine HWI.out.mono ?_
          rintro E5 w5 ⟨a5, c5, rfl, h5c, h5e, h5f, hx5⟩
          have HB5 := Lib.hid (hx5.heap HB4.out); clear HB4
          have HQ5 := Lib.hid (hx5.heap HQ4.out); clear HQ4
          have HX5 := Lib.hid (HX4.out.trans hx5)
          have H5 := Lib.hid (And.intro h5c (And.intro h5e (And.intro h5f hx5))); clear h5c h5e h5f hx5 HWI
          have b0 := blk_cell HB5.out 0 (Value.slice la ln lc) rfl
          have b1 := blk_cell HB5.out 1 (Value.slice fa n fc) rfl
          have b2 := blk_cell HB5.out 2 (Value.int .i64 nx) rfl
          have b3 := blk_cell HB5.out 3 (Value.int .i64 q) rfl
          have q0 := blk_cell HQ5.out 0 (Value.slice none 0 0) rfl
          have q1 := blk_cell HQ5.out 1 (Value.slice none 0 0) rfl
          have q2 := blk_cell HQ5.out 2 (Value.int .i64 0) rfl
          have q3 := blk_cell HQ5.out 3 (Value.int .i64 0) rfl
          have g0 := blk_free HQ5.out 0
          have g1 := blk_free HQ5.out 1
          have g2 := blk_free HQ5.out 2
          have g3 := blk_free HQ5.out 3
          have g0 := blk_free HB5.out 0
          go_upto_region 14 with fail
          clear b0 b1 b2 b3 q0 q1 q2 q3 g0 g1 g2 g3
          have hs := setCell_row (i := 0) HB5.out (.slice a5 (ln + 1) c5)
          have hbu := (But.refl B w5).setCell 0 (.slice a5 (ln + 1) c5)
          have hQn := (Keep.of_but hbu).heap (fun e => HBQ.out.2.2.1 e.symm) HQ5.out
          have hXn : Ext w (w5.setCell ⟨B, 0, none⟩ (.slice a5 (ln + 1) c5)) := ((Keep.of_ext (S := fun j => j < w.heap.size) HX5.out).andThen (Keep.of_but hbu) (fun j hj _ => by have := HBQ.out; show j ≠ B; omega)).ext_lt
          generalize w5.setCell ⟨B, 0, none⟩ (.slice a5 (ln + 1) c5) = w6 at hs hbu hQn hXn ⊢
          have hBn : w6.heap[B]? = some (.cells #[.slice a5 (ln + 1) c5, .slice fa n fc, .int .i64 nx, .int .i64 q] 30 (0, 0)) := by simpa using hs
          have HB_w6 := Lib.hid hBn
          have HQ_w6 := Lib.hid hQn
          have HX_w6 := Lib.hid hXn
          have HU_w6 := Lib.hid hbu
          clear hs hbu hQn hXn hBn
          have hcs : ∀ W, Ext w6 W → (W.cell? ⟨B, 0, none⟩ = some (.slice a5 (ln + 1) c5) ∧ W.cell? ⟨B, 1, none⟩ = some (.slice fa n fc) ∧ W.cell? ⟨B, 2, none⟩ = some (.int .i64 nx) ∧ W.cell? ⟨B, 3, none⟩ = some (.int .i64 q)) := fun W k => ⟨blk_cell (k.heap HB_w6.out) 0 _ rfl, blk_cell (k.heap HB_w6.out) 1 _ rfl, blk_cell (k.heap HB_w6.out) 2 _ rfl, blk_cell (k.heap HB_w6.out) 3 _ rfl⟩
          clear HCS
          have HCS := Lib.hid hcs; clear hcs
          have HK := Lib.hid (Ext.refl w6).drew
          go_cut [62] from 62 to 74 (fun _ wx => ∃ (a c : _) (xa : OpA), Hid (wx.heap[B]? = some (.cells #[.slice a5 (ln + 1) c5, .slice a (n + 1) c, .int .i64 nx, .int .i64 q] 30 (0, 0))) ∧ Hid (RunM wx a ((F ++ [((⟨nx, dt⟩, xa) : FilD × OpA)]).flatMap filV)) ∧ Hid (n + 1 ≤ c) ∧ Hid (DataM wx xa.oa dt ∧ dn ≤ xa.oc) ∧ Hid (Fresh w6.heap.size a) ∧ Hid (Keep (· ≠ B) w6 wx))
          case first =>
            refine wp_region_noPanic ?_
            refine wp_region_K (S := (fun W => W.cell? ⟨B, 0, none⟩ = some (.slice a5 (ln + 1) c5) ∧ W.cell? ⟨B, 1, none⟩ = some (.slice fa n fc) ∧ W.cell? ⟨B, 2, none⟩ = some (.int .i64 nx) ∧ W.cell? ⟨B, 3, none⟩ = some (.int .i64 q))) (I := [2, 5]) (by kernel_rfl) (HCS.out _ HK.out) (fun hHeld => ?_)
            clear hHeld
            generalize w6.drew = wc at HK ⊢
            refine wpAnyK_free (i := 1) (v := ?_) rfl (by kernel_rfl) (by kernel_rfl) (by kernel_rfl) (fun _ _ _ h => h) (by kernel_rfl) ?_ (fun _ => (HCS.out _ HK.out)) ?_
            rotate_left
            · (intro wq; first | (go_simp; done) | (go_simp; with_reducible rfl))
            try simp only [List.getElem_toArray, List.getElem_cons_zero, List.getElem_cons_succ, Act.put, List.setIfInBounds_toArray, List.set_cons_zero, List.set_cons_succ]
            refine wpAnyK_load (i := 2) (v := ?_) rfl (by kernel_rfl) (by kernel_rfl) (by kernel_rfl) (fun _ _ _ h => h) (by kernel_rfl) (by kernel_rfl) ?_ (HCS.out _ HK.out) ?_
            rotate_left
            · (intro wq hSw; (try dsimp only at hSw); first | (go_simp; done) | (go_simp; with_reducible rfl))
            try simp only [List.getElem_toArray, List.getElem_cons_zero, List.getElem_cons_succ, Act.put, List.setIfInBounds_toArray, List.set_cons_zero, List.set_cons_succ]
            refine wpAnyK_free (i := 4) (v := ?_) rfl (by kernel_rfl) (by kernel_rfl) (by kernel_rfl) (fun _ _ _ h => h) (by kernel_rfl) ?_ (fun _ => (HCS.out _ HK.out)) ?_
            rotate_left
            · (intro wq; first | (go_simp; done) | (go_simp; with_reducible rfl))
            try simp only [List.getElem_toArray, List.getElem_cons_zero, List.getElem_cons_succ, Act.put, List.setIfInBounds_toArray, List.set_cons_zero, List.set_cons_succ]
            refine wpAnyK_load (i := 5) (v := ?_) rfl (by kernel_rfl) (by kernel_rfl) (by kernel_rfl) (fun _ _ _ h => h) (by kernel_rfl) (by kernel_rfl) ?_ (HCS.out _ HK.out) ?_
            rotate_left
            · (intro wq hSw; (try dsimp only at hSw); first | (go_simp; done) | (go_simp; with_reducible rfl))
            try simp only [List.getElem_toArray, List.getElem_cons_zero, List.getElem_cons_succ, Act.put, List.setIfInBounds_toArray, List.set_cons_zero, List.set_cons_succ]
            refine wpAnyK_free (i := 7) (v := ?_) rfl (by kernel_rfl) (by kernel_rfl) (by kernel_rfl) (fun _ _ _ h => h) (by kernel_rfl) ?_ (fun _ => (HCS.out _ HK.out)) ?_
            rotate_left
            · (intro wq; first | (go_simp; done) | (go_simp; with_reducible rfl))
            try simp only [List.getElem_toArray, List.getElem_cons_zero, List.getElem_cons_succ, Act.put, List.setIfInBounds_toArray, List.set_cons_zero, List.set_cons_succ]
            all_goals (
              first
                | refine wpAnyK_ready (rs := [0, 6]) (by decide +kernel) (by simp) ?_
              repeat' (first | exact AllReadyK.nil | (refine AllReadyK.cons rfl (fun K hK => ?_) ?_)))
            all_goals (
              first
                | (go_simp
                   first
                     | (have hx := Ext.alloc wc (.cells #[] 77)
                        have hbn := heap_alloc_new wc (.cells #[] 77)
                        have hle := HK.out.size
                        refine hK.out _ (wc.alloc (.cells #[] 77)) (HCS.out _ (HK.out.trans hx)) (fun _ => ?_)
                        clear hK K
                        try replace HG0 := Lib.hid (hx.heap HG0.out)
                        try replace HGN := Lib.hid (hx.heap HGN.out)
                        try replace HO := Lib.hid (ownsRow_keep HO.out (Keep.of_ext (S := fun _ => True) hx) (fun _ _ _ _ _ => trivial))
                        try replace HD := Lib.hid (ownsRow_keep HD.out (Keep.of_ext (S := fun _ => True) hx) (fun _ _ _ _ _ => trivial))
                        replace HK := Lib.hid (HK.out.trans hx)
                        obtain ⟨G0, hB⟩ : ∃ x, x = wc.heap.size := ⟨_, rfl⟩
                        rw [← hB] at hbn hle ⊢
                        have HO := Lib.hid (row_zero (base := w6.heap.size) (size := 2) hbn hle)
                        have HG0 := Lib.hid hbn
                        clear hbn hB hle hx
                        generalize wc.alloc (.cells #[] 77) = wc at *
                        try simp only [List.getElem_toArray, List.getElem_cons_zero, List.getElem_cons_succ, Act.put, List.setIfInBounds_toArray, List.set_cons_zero, List.set_cons_succ])
                     | (have hx := Ext.alloc wc (.cells #[] 5)
                        have hbn := heap_alloc_new wc (.cells #[] 5)
                        have hle := HK.out.size
                        refine hK.out _ (wc.alloc (.cells #[] 5)) (HCS.out _ (HK.out.trans hx)) (fun _ => ?_)
                        clear hK K
                        try replace HG0 := Lib.hid (hx.heap HG0.out)
                        try replace HGN := Lib.hid (hx.heap HGN.out)
                        try replace HO := Lib.hid (ownsRow_keep HO.out (Keep.of_ext (S := fun _ => True) hx) (fun _ _ _ _ _ => trivial))
                        try replace HD := Lib.hid (ownsRow_keep HD.out (Keep.of_ext (S := fun _ => True) hx) (fun _ _ _ _ _ => trivial))
                        replace HK := Lib.hid (HK.out.trans hx)
                        obtain ⟨GD, hB⟩ : ∃ x, x = wc.heap.size := ⟨_, rfl⟩
                        rw [← hB] at hbn hle ⊢
                        have HD := Lib.hid (row_zero (base := w6.heap.size) (size := 1) hbn hle)
                        clear hbn hB hle hx
                        generalize wc.alloc (.cells #[] 5) = wc at *
                        try simp only [List.getElem_toArray, List.getElem_cons_zero, List.getElem_cons_succ, Act.put, List.setIfInBounds_toArray, List.set_cons_zero, List.set_cons_succ])))
            all_goals (
              first
                | refine wpAnyK_ready (rs := [3, 6]) (by decide +kernel) (by simp) ?_
                | refine wpAnyK_ready (rs := [0]) (by decide +kernel) (by simp) ?_
              repeat' (first | exact AllReadyK.nil | (refine AllReadyK.cons rfl (fun K hK => ?_) ?_)))
            all_goals (
              first
                | (refine step_append_any (by rfl) _ _ 28 77 (.agg #[.int .i64 0, .slice none 0 0]) 2 32 (by rfl) Tryz.underlying28 info_fil06 rfl (by decide) w6.heap.size (some ⟨G0, 0, none⟩) 0 0 ([]) (by simp [Act.eval]) HO.out fa n fc (F.flatMap filV) (by simp [Act.eval]) (by rw [fils_len, HFL.out]) ((HM.out.fils.run.ext (HX_w6.out.trans HK.out))) (filV_one F) (by omega) (by decide) HK.out.size (n) (by omega) ?_
                   intro a3 c3 wn hown hkp hbl
                   try have hot := ownsRow_keep HD.out hkp (fun g cur _ _ h3 => row_apart HO.out h3 (by decide))
                   try replace HD := Lib.hid hot
                   try clear hot
                   try have hgn := hkp.heap (by intro e; have e := Option.some.inj e; subst e; have h := HGN.out; rw [HG0.out] at h; cases h) HGN.out
                   try replace HGN := Lib.hid hgn
                   try clear hgn
                   replace HK := Lib.hid (ext_below06 HK.out hbl)
                   replace HO := Lib.hid hown
                   clear hown hkp hbl
                   clear HG0
                   refine hK.out _ _ (HCS.out _ HK.out) (fun _ => ?_)
                   clear hK K
                   obtain ⟨wc, rfl⟩ : ∃ x : World, x = wn := ⟨_, rfl⟩
                   try simp only [List.getElem_toArray, List.getElem_cons_zero, List.getElem_cons_succ, Act.put, List.setIfInBounds_toArray, List.set_cons_zero, List.set_cons_succ])
                | (go_simp
                   first
                     | (have hx := Ext.alloc wc (.cells #[] 77)
                        have hbn := heap_alloc_new wc (.cells #[] 77)
                        have hle := HK.out.size
                        refine hK.out _ (wc.alloc (.cells #[] 77)) (HCS.out _ (HK.out.trans hx)) (fun _ => ?_)
                        clear hK K
                        try replace HG0 := Lib.hid (hx.heap HG0.out)
                        try replace HGN := Lib.hid (hx.heap HGN.out)
                        try replace HO := Lib.hid (ownsRow_keep HO.out (Keep.of_ext (S := fun _ => True) hx) (fun _ _ _ _ _ => trivial))
                        try replace HD := Lib.hid (ownsRow_keep HD.out (Keep.of_ext (S := fun _ => True) hx) (fun _ _ _ _ _ => trivial))
                        replace HK := Lib.hid (HK.out.trans hx)
                        obtain ⟨G0, hB⟩ : ∃ x, x = wc.heap.size := ⟨_, rfl⟩
                        rw [← hB] at hbn hle ⊢
                        have HO := Lib.hid (row_zero (base := w6.heap.size) (size := 2) hbn hle)
                        have HG0 := Lib.hid hbn
                        clear hbn hB hle hx
                        generalize wc.alloc (.cells #[] 77) = wc at *
                        try simp only [List.getElem_toArray, List.getElem_cons_zero, List.getElem_cons_succ, Act.put, List.setIfInBounds_toArray, List.set_cons_zero, List.set_cons_succ])
                     | (have hx := Ext.alloc wc (.cells #[] 5)
                        have hbn := heap_alloc_new wc (.cells #[] 5)
                        have hle := HK.out.size
                        refine hK.out _ (wc.alloc (.cells #[] 5)) (HCS.out _ (HK.out.trans hx)) (fun _ => ?_)
                        clear hK K
                        try replace HG0 := Lib.hid (hx.heap HG0.out)
                        try replace HGN := Lib.hid (hx.heap HGN.out)
                        try replace HO := Lib.hid (ownsRow_keep HO.out (Keep.of_ext (S := fun _ => True) hx) (fun _ _ _ _ _ => trivial))
                        try replace HD := Lib.hid (ownsRow_keep HD.out (Keep.of_ext (S := fun _ => True) hx) (fun _ _ _ _ _ => trivial))
                        replace HK := Lib.hid (HK.out.trans hx)
                        obtain ⟨GD, hB⟩ : ∃ x, x = wc.heap.size := ⟨_, rfl⟩
                        rw [← hB] at hbn hle ⊢
                        have HD := Lib.hid (row_zero (base := w6.heap.size) (size := 1) hbn hle)
                        clear hbn hB hle hx
                        generalize wc.alloc (.cells #[] 5) = wc at *
                        try simp only [List.getElem_toArray, List.getElem_cons_zero, List.getElem_cons_succ, Act.put, List.setIfInBounds_toArray, List.set_cons_zero, List.set_cons_succ])))
            all_goals (
              first
                | refine wpAnyK_ready (rs := [6]) (by decide +kernel) (by simp) ?_
                | refine wpAnyK_ready (rs := [3]) (by decide +kernel) (by simp) ?_
              repeat' (first | exact AllReadyK.nil | (refine AllReadyK.cons rfl (fun K hK => ?_) ?_)))
            all_goals (
              first
                | (refine step_append_any (by rfl) _ _ 28 77 (.agg #[.int .i64 0, .slice none 0 0]) 2 32 (by rfl) Tryz.underlying28 info_fil06 rfl (by decide) w6.heap.size (some ⟨G0, 0, none⟩) 0 0 ([]) (by simp [Act.eval]) HO.out fa n fc (F.flatMap filV) (by simp [Act.eval]) (by rw [fils_len, HFL.out]) ((HM.out.fils.run.ext (HX_w6.out.trans HK.out))) (filV_one F) (by omega) (by decide) HK.out.size (n) (by omega) ?_
                   intro a3 c3 wn hown hkp hbl
                   try have hot := ownsRow_keep HD.out hkp (fun g cur _ _ h3 => row_apart HO.out h3 (by decide))
                   try replace HD := Lib.hid hot
                   try clear hot
                   try have hgn := hkp.heap (by intro e; have e := Option.some.inj e; subst e; have h := HGN.out; rw [HG0.out] at h; cases h) HGN.out
                   try replace HGN := Lib.hid hgn
                   try clear hgn
                   replace HK := Lib.hid (ext_below06 HK.out hbl)
                   replace HO := Lib.hid hown
                   clear hown hkp hbl
                   clear HG0
                   refine hK.out _ _ (HCS.out _ HK.out) (fun _ => ?_)
                   clear hK K
                   obtain ⟨wc, rfl⟩ : ∃ x : World, x = wn := ⟨_, rfl⟩
                   try simp only [List.getElem_toArray, List.getElem_cons_zero, List.getElem_cons_succ, Act.put, List.setIfInBounds_toArray, List.set_cons_zero, List.set_cons_succ])
                | (go_simp
                   first
                     | (have hx := Ext.alloc wc (.cells #[] 5)
                        have hbn := heap_alloc_new wc (.cells #[] 5)
                        have hle := HK.out.size
                        refine hK.out _ (wc.alloc (.cells #[] 5)) (HCS.out _ (HK.out.trans hx)) (fun _ => ?_)
                        clear hK K
                        try replace HG0 := Lib.hid (hx.heap HG0.out)
                        try replace HGN := Lib.hid (hx.heap HGN.out)
                        try replace HO := Lib.hid (ownsRow_keep HO.out (Keep.of_ext (S := fun _ => True) hx) (fun _ _ _ _ _ => trivial))
                        try replace HD := Lib.hid (ownsRow_keep HD.out (Keep.of_ext (S := fun _ => True) hx) (fun _ _ _ _ _ => trivial))
                        replace HK := Lib.hid (HK.out.trans hx)
                        obtain ⟨GD, hB⟩ : ∃ x, x = wc.heap.size := ⟨_, rfl⟩
                        rw [← hB] at hbn hle ⊢
                        have HD := Lib.hid (row_zero (base := w6.heap.size) (size := 1) hbn hle)
                        clear hbn hB hle hx
                        generalize wc.alloc (.cells #[] 5) = wc at *
                        try simp only [List.getElem_toArray, List.getElem_cons_zero, List.getElem_cons_succ, Act.put, List.setIfInBounds_toArray, List.set_cons_zero, List.set_cons_succ])))
            all_goals (
              first
                | refine wpAnyK_ready (rs := [8]) (by decide +kernel) (by simp) ?_
              repeat' (first | exact AllReadyK.nil | (refine AllReadyK.cons rfl (fun K hK => ?_) ?_)))
            all_goals (
              first
                | (refine step_append_any (by rfl) _ _ 36 5 (.int .u8 0) 1 1 (by rfl) Tryz.underlying36 info_byte1 rfl (by decide) w6.heap.size (some ⟨GD, 0, none⟩) 0 0 ([]) (by simp [Act.eval]) HD.out oa dn oc (byteV dt) (by simp [Act.eval]) (by rw [HDN.out]; simp [byteV]) (((HDT.out.ext (HX_w6.out.trans HK.out)).run)) (byteV_one dt) (by omega) (by decide) HK.out.size (dn) (by omega) ?_
                   intro a8 c8 wn hown hkp hbl
                   try have hot := ownsRow_keep HO.out hkp (fun g cur _ _ h3 => row_apart HD.out h3 (by decide))
                   try replace HO := Lib.hid hot
                   try clear hot
                   try have htt := hkp.heap (row_apart HD.out HG0.out (by decide)) HG0.out
                   try replace HG0 := Lib.hid htt
                   try clear htt
                   replace HK := Lib.hid (ext_below06 HK.out hbl)
                   replace HD := Lib.hid hown
                   clear hown hkp hbl
                   refine hK.out _ _ (HCS.out _ HK.out) (fun _ => ?_)
                   clear hK K
                   obtain ⟨wc, rfl⟩ : ∃ x : World, x = wn := ⟨_, rfl⟩
                   try simp only [List.getElem_toArray, List.getElem_cons_zero, List.getElem_cons_succ, Act.put, List.setIfInBounds_toArray, List.set_cons_zero, List.set_cons_succ]
                   refine wpAnyK_free (i := 9) (v := ?_) rfl (by kernel_rfl) (by kernel_rfl) (by kernel_rfl) (fun _ _ _ h => h) (by kernel_rfl) ?_ (fun _ => (HCS.out _ HK.out)) ?_
                   rotate_left
                   · (intro wq; first | (go_simp; done) | (go_simp; with_reducible rfl))
                   try simp only [List.getElem_toArray, List.getElem_cons_zero, List.getElem_cons_succ, Act.put, List.setIfInBounds_toArray, List.set_cons_zero, List.set_cons_succ]))
            all_goals (
              first
                | refine wpAnyK_ready (rs := [10]) (by decide +kernel) (by simp) ?_
              repeat' (first | exact AllReadyK.nil | (refine AllReadyK.cons rfl (fun K hK => ?_) ?_)))
            all_goals (
              first
                | (go_simp
                   first
                     | (have hx := Ext.alloc wc (.cells #[.int .i64 nx, .slice a8 dn c8] 77)
                        have hbn := heap_alloc_new wc (.cells #[.int .i64 nx, .slice a8 dn c8] 77)
                        have hle := HK.out.size
                        refine hK.out _ (wc.alloc (.cells #[.int .i64 nx, .slice a8 dn c8] 77)) (HCS.out _ (HK.out.trans hx)) (fun _ => ?_)
                        clear hK K
                        try replace HG0 := Lib.hid (hx.heap HG0.out)
                        try replace HGN := Lib.hid (hx.heap HGN.out)
                        try replace HO := Lib.hid (ownsRow_keep HO.out (Keep.of_ext (S := fun _ => True) hx) (fun _ _ _ _ _ => trivial))
                        try replace HD := Lib.hid (ownsRow_keep HD.out (Keep.of_ext (S := fun _ => True) hx) (fun _ _ _ _ _ => trivial))
                        replace HK := Lib.hid (HK.out.trans hx)
                        obtain ⟨GN, hB⟩ : ∃ x, x = wc.heap.size := ⟨_, rfl⟩
                        rw [← hB] at hbn hle ⊢
                        have HGN := Lib.hid hbn
                        clear hbn hB hle hx
                        generalize wc.alloc (.cells #[.int .i64 nx, .slice a8 dn c8] 77) = wc at *
                        try simp only [List.getElem_toArray, List.getElem_cons_zero, List.getElem_cons_succ, Act.put, List.setIfInBounds_toArray, List.set_cons_zero, List.set_cons_succ])))
            all_goals (
              first
                | refine wpAnyK_ready (rs := [11]) (by decide +kernel) (by simp) ?_
              repeat' (first | exact AllReadyK.nil | (refine AllReadyK.cons rfl (fun K hK => ?_) ?_)))
            all_goals (
              first
                | (refine step_append_any (by rfl) _ _ 28 77 (.agg #[.int .i64 0, .slice none 0 0]) 2 32 (by rfl) Tryz.underlying28 info_fil06 rfl (by decide) w6.heap.size a3 n c3 ([] ++ F.flatMap filV) (by simp [Act.eval]) HO.out (some ⟨GN, 0, none⟩) 1 1 ([.int .i64 nx, .slice a8 dn c8]) (by simp [Act.eval]) (by rfl) ((run_blk HGN.out)) (by intro u hu; simp only [List.mem_cons, List.not_mem_nil, or_false] at hu; rcases hu with rfl | rfl <;> rfl) (by omega) (by decide) HK.out.size (n + 1) (by omega) ?_
                   intro a11 c11 wn hown hkp hbl
                   try have hot := ownsRow_keep HD.out hkp (fun g cur _ _ h3 => row_apart HO.out h3 (by decide))
                   try replace HD := Lib.hid hot
                   try clear hot
                   replace HK := Lib.hid (ext_below06 HK.out hbl)
                   replace HO := Lib.hid hown
                   clear hown hkp hbl
                   refine hK.out _ _ (HCS.out _ HK.out) (fun _ => ?_)
                   clear hK K
                   obtain ⟨wc, rfl⟩ : ∃ x : World, x = wn := ⟨_, rfl⟩
                   try simp only [List.getElem_toArray, List.getElem_cons_zero, List.getElem_cons_succ, Act.put, List.setIfInBounds_toArray, List.set_cons_zero, List.set_cons_succ]
                   refine wpAnyK_free (i := 12) (v := ?_) rfl (by kernel_rfl) (by kernel_rfl) (by kernel_rfl) (fun _ _ _ h => h) (by kernel_rfl) ?_ (fun _ => (HCS.out _ HK.out)) ?_
                   rotate_left
                   · (intro wq; first | (go_simp; done) | (go_simp; with_reducible rfl))
                   try simp only [List.getElem_toArray, List.getElem_cons_zero, List.getElem_cons_succ, Act.put, List.setIfInBounds_toArray, List.set_cons_zero, List.set_cons_succ]))
            all_goals (
              have n1 := blk_cell (HK.out.heap HB_w6.out) 1 (Value.slice fa n fc) rfl
              have g1 := blk_free (HK.out.heap HB_w6.out) 1
              refine wpAnyK_last (i := 13) (by kernel_rfl) rfl (by kernel_rfl) ?_
              intro K hK
              go_simp
              refine hK.out _ _ ?_
              clear hK K
              try simp only [List.getElem_toArray, List.getElem_cons_zero, List.getElem_cons_succ, Act.put, List.setIfInBounds_toArray, List.set_cons_zero, List.set_cons_succ])
            all_goals (
              refine wpAnyK_done (by kernel_rfl) ?_ _
              refine NoPanic.normal ?_
              have hset := setCell_row (i := 1) (HK.out.heap HB_w6.out) (Value.slice a11 (n + 1) c11)
              have hbu := (But.refl B wc).setCell 1 (Value.slice a11 (n + 1) c11)
              have hB6 : B < w6.heap.size := (Array.getElem?_eq_some_iff.1 HB_w6.out).1
              obtain ⟨a', c', hv, hcc, hrun, hfr⟩ := run_of_row HO.out
              cases hv
              have e : [] ++ F.flatMap filV ++ [Value.int .i64 nx, .slice a8 dn c8] = (F ++ [((⟨nx, dt⟩, ⟨a8, c8⟩) : FilD × OpA)]).flatMap filV := by
                rw [List.flatMap_append, HDN.out]; simp [filV]
              rw [e] at hrun
              have hdd := HD.out
              rw [List.nil_append] at hdd
              obtain ⟨a', c', hv, hdc, hdm, _⟩ := DataM.of_row hdd
              cases hv
              have hRUN := Lib.hid (runM_keep hrun (Keep.of_but hbu) (fun ad h => by have := hfr ad h; show ad.block ≠ B; omega))
              have hDM := Lib.hid (hdm.keep (Keep.of_but hbu) (datas_cells (HK.out.heap HB_w6.out) (by decide)))
              have hKP : Hid (Keep (· ≠ B) w6 (wc.setCell ⟨B, 1, none⟩ (.slice a11 (n + 1) c11))) := Lib.hid ((Keep.of_ext HK.out).andThen (Keep.of_but hbu) (fun j _ hj => hj))
              have hSET := Lib.hid hset
              have hFR := Lib.hid hfr
              clear hset hbu hrun hfr e hdd hdm
              go_wp2_with fail
              go_meet
              exact ⟨a11, c11, ⟨a8, c8⟩, Lib.hid (by simpa using hSET.out), hRUN, Lib.hid hcc, Lib.hid ⟨hDM.out, hdc⟩, hFR, hKP⟩)
          case rest =>
            obtain ⟨a, c, xa, hBx, hrun, hcc, hdm, hfr, hkp⟩ := hcut
            obtain ⟨wx, rfl⟩ : ∃ x : World, x = wc := ⟨_, rfl⟩
            clear HK HCS
            have hQx : Hid (wx.heap[Q]? = some (.cells #[.slice none 0 0, .slice none 0 0, .int .i64 0, .int .i64 0] 30 (0, 0))) := Lib.hid (hkp.out.heap (fun e => HBQ.out.2.2.1 e.symm) HQ_w6.out)
            have hXx : Hid (Ext w wx) := Lib.hid ((Keep.of_ext (S := fun j => j < w.heap.size) HX_w6.out).andThen hkp.out (fun j hj _ => by have := HBQ.out; show j ≠ B; omega)).ext_lt
            have b2 := blk_cell hBx.out 2 (Value.int .i64 nx) rfl
            have g2 := blk_free hBx.out 2
            go_upto_region 16 with fail
            clear b2 g2
            have hs := setCell_row (i := 2) hBx.out (.int .i64 (nx + 1))
            have hbu := (But.refl B wx).setCell 2 (.int .i64 (nx + 1))
            have hQn := (Keep.of_but hbu).heap (fun e => HBQ.out.2.2.1 e.symm) hQx.out
            have hXn : Ext w (wx.setCell ⟨B, 2, none⟩ (.int .i64 (nx + 1))) := ((Keep.of_ext (S := fun j => j < w.heap.size) hXx.out).andThen (Keep.of_but hbu) (fun j hj _ => by have := HBQ.out; show j ≠ B; omega)).ext_lt
            generalize wx.setCell ⟨B, 2, none⟩ (.int .i64 (nx + 1)) = w7 at hs hbu hQn hXn ⊢
            have hBn : w7.heap[B]? = some (.cells #[.slice a5 (ln + 1) c5, .slice a (n + 1) c, .int .i64 (nx + 1), .int .i64 q] 30 (0, 0)) := by simpa using hs
            have HB_w7 := Lib.hid hBn
            have HQ_w7 := Lib.hid hQn
            have HX_w7 := Lib.hid hXn
            have HU_w7 := Lib.hid hbu
            clear hs hbu hQn hXn hBn
            have b0 := blk_cell HB_w7.out 0 (Value.slice a5 (ln + 1) c5) rfl
            have b1 := blk_cell HB_w7.out 1 (Value.slice a (n + 1) c) rfl
            have b2 := blk_cell HB_w7.out 2 (Value.int .i64 (nx + 1)) rfl
            have b3 := blk_cell HB_w7.out 3 (Value.int .i64 q) rfl
            have q0 := blk_cell HQ_w7.out 0 (Value.slice none 0 0) rfl
            have q1 := blk_cell HQ_w7.out 1 (Value.slice none 0 0) rfl
            have q2 := blk_cell HQ_w7.out 2 (Value.int .i64 0) rfl
            have q3 := blk_cell HQ_w7.out 3 (Value.int .i64 0) rfl
            have g0 := blk_free HQ_w7.out 0
            have g1 := blk_free HQ_w7.out 1
            have g2 := blk_free HQ_w7.out 2
            have g3 := blk_free HQ_w7.out 3
            go_wp2_with fail
            have e := E.out
            have hs := set4r HQ_w7.out (.slice a5 (ln + 1) c5) (.slice a (n + 1) c) (.int .i64 (nx + 1)) (.int .i64 q)
            have e0 := blk_cell hs.1 0 (Value.slice a5 (ln + 1) c5) rfl
            have e1 := blk_cell hs.1 1 (Value.slice a (n + 1) c) rfl
            have e2 := blk_cell hs.1 2 (Value.int .i64 (nx + 1)) rfl
            have e3 := blk_cell hs.1 3 (Value.int .i64 q) rfl
            refine bodyPost_ret (v := .tuple #[.agg #[.slice a5 (ln + 1) c5, .slice a (n + 1) c, .int .i64 (nx + 1), .int .i64 q], .int .i64 0]) (by simp [results, Tryz.results9, go_sem, e0, e1, e2, e3]) rfl ?_
            rw [HR.out, e]
            have hx : Ext w ((((w7.setCell ⟨Q, 0, none⟩ (.slice a5 (ln + 1) c5)).setCell ⟨Q, 1, none⟩ (.slice a (n + 1) c)).setCell ⟨Q, 2, none⟩ (.int .i64 (nx + 1))).setCell ⟨Q, 3, none⟩ (.int .i64 q)) := ((Keep.of_ext (S := fun j => j < w.heap.size) HX_w7.out).andThen (Keep.of_but hs.2) (fun j hj _ => by have := HBQ.out; show j ≠ Q; omega)).ext_lt
            have hkq : Keep (fun j => j ≠ B ∧ j ≠ Q) wx _ := ((Keep.of_but HU_w7.out).mono (fun j _ hj => hj.1)).andThen (Keep.of_but hs.2) (fun j _ hj => hj.2)
            have hk5 : Keep (· ≠ B) w5 wx := (Keep.of_but HU_w6.out).andThen hkp.out (fun j _ hj => hj)
            have hB6 : B < w6.heap.size ∧ Q < w6.heap.size := ⟨(Array.getElem?_eq_some_iff.1 HB_w6.out).1, (Array.getElem?_eq_some_iff.1 HQ_w6.out).1⟩
            have hS45 : w4.heap.size ≤ w5.heap.size := H5.out.2.2.2.size
            refine ⟨⟨a5, c5, a, c, F ++ [((⟨nx, dt⟩, xa) : FilD × OpA)]⟩, ?_, ⟨runM_keep (runM_keep H5.out.2.1 hk5 (fun ad h => ?_)) hkq (fun ad h => ?_), ?_, ⟨runM_keep hrun.out hkq (fun ad h => ?_), fun x hx2 => ?_⟩, ?_, ?_⟩, hx⟩
            · unfold refV
              simp only [List.length_append, List.length_cons, List.length_nil]
              rw [← HLN.out, ← HN.out]
            · have h1 := H5.out.2.2.1 ad h
              have h2 := HLT4.out
              show ad.block ≠ B
              omega
            · have h1 := H5.out.2.2.1 ad h
              have h2 := HLT4.out
              exact ⟨by omega, by omega⟩
            · simp only [List.length_append, List.length_cons, List.length_nil]
              rw [← HLN.out]
              exact H5.out.1
            · have h1 := hfr.out ad h
              exact ⟨by omega, by omega⟩
            · rcases List.mem_append.1 hx2 with h | h
              · have hd := HM.out.fils.dat x h
                exact ⟨hd.1.ext hx, hd.2⟩
              · rw [List.mem_singleton.1 h]
                refine ⟨hdm.out.1.keep hkq (fun g cs fr hg => ⟨datas_cells hBx.out (by decide) g cs fr hg, datas_cells hQx.out (by decide) g cs fr hg⟩), ?_, HDT3.out⟩
                show dt.length ≤ xa.oc
                rw [← HDN.out]; exact hdm.out.2
            · simp only [List.length_append, List.length_cons, List.length_nil]
              rw [← HN.out]
              exact hcc.out
            · rw [List.map_append, HM.out.fmap]
              rfl
      · have e : rr = (⟨L, files, nx, q⟩, 9) := by
          rw [HRR.out]; unfold stepM
          rw [if_neg C1.out, if_neg C2.out, if_neg C3.out, if_pos C4.out]
          simp only [entM, f3]
        have hg0 : decide ((0 : Int) ≤ (k : Int)) = true := decide_eq_true (by omega)
        rw [f2]
        clear f1 f2 f3 f4
        have E := Lib.hid e; clear e
        have b0 := blk_cell HB4.out 0 (Value.slice la ln lc) rfl
        have b1 := blk_cell HB4.out 1 (Value.slice fa n fc) rfl
        have b2 := blk_cell HB4.out 2 (Value.int .i64 nx) rfl
        have b3 := blk_cell HB4.out 3 (Value.int .i64 q) rfl
        have q0 := blk_cell HQ4.out 0 (Value.slice none 0 0) rfl
        have q1 := blk_cell HQ4.out 1 (Value.slice none 0 0) rfl
        have q2 := blk_cell HQ4.out 2 (Value.int .i64 0) rfl
        have q3 := blk_cell HQ4.out 3 (Value.int .i64 0) rfl
        have g0 := blk_free HQ4.out 0
        have g1 := blk_free HQ4.out 1
        have g2 := blk_free HQ4.out 2
        have g3 := blk_free HQ4.out 3
        rcases c4 with rfl | rfl
        · go_wp2_with fail
          have e := E.out
          have hs := set4r HQ4.out (.slice la ln lc) (.slice fa n fc) (.int .i64 nx) (.int .i64 q)
          have e0 := blk_cell hs.1 0 (Value.slice la ln lc) rfl
          have e1 := blk_cell hs.1 1 (Value.slice fa n fc) rfl
          have e2 := blk_cell hs.1 2 (Value.int .i64 nx) rfl
          have e3 := blk_cell hs.1 3 (Value.int .i64 q) rfl
          refine bodyPost_ret (v := .tuple #[.agg #[.slice la ln lc, .slice fa n fc, .int .i64 nx, .int .i64 q], .int .i64 9]) (by simp [results, Tryz.results9, go_sem, e0, e1, e2, e3]) rfl ?_
          rw [HR.out, e]
          have hx : Ext w ((((w4.setCell ⟨Q, 0, none⟩ (.slice la ln lc)).setCell ⟨Q, 1, none⟩ (.slice fa n fc)).setCell ⟨Q, 2, none⟩ (.int .i64 nx)).setCell ⟨Q, 3, none⟩ (.int .i64 q)) := ((Keep.of_ext (S := fun j => j < w.heap.size) HX4.out).andThen (Keep.of_but hs.2) (fun j hj _ => by have := HBQ.out; show j ≠ Q; omega)).ext_lt
          exact HSAME.out _ hx _
        · go_wp2_with fail
          have e := E.out
          have hs := set4r HQ4.out (.slice la ln lc) (.slice fa n fc) (.int .i64 nx) (.int .i64 q)
          have e0 := blk_cell hs.1 0 (Value.slice la ln lc) rfl
          have e1 := blk_cell hs.1 1 (Value.slice fa n fc) rfl
          have e2 := blk_cell hs.1 2 (Value.int .i64 nx) rfl
          have e3 := blk_cell hs.1 3 (Value.int .i64 q) rfl
          refine bodyPost_ret (v := .tuple #[.agg #[.slice la ln lc, .slice fa n fc, .int .i64 nx, .int .i64 q], .int .i64 9]) (by simp [results, Tryz.results9, go_sem, e0, e1, e2, e3]) rfl ?_
          rw [HR.out, e]
          have hx : Ext w ((((w4.setCell ⟨Q, 0, none⟩ (.slice la ln lc)).setCell ⟨Q, 1, none⟩ (.slice fa n fc)).setCell ⟨Q, 2, none⟩ (.int .i64 nx)).setCell ⟨Q, 3, none⟩ (.int .i64 q)) := ((Keep.of_ext (S := fun j => j < w.heap.size) HX4.out).andThen (Keep.of_but hs.2) (fun j hj _ => by have := HBQ.out; show j ≠ Q; omega)).ext_lt
          exact HSAME.out _ hx _
end Go.Proofs.YtldgpcmnmegioaaGreatDoor
