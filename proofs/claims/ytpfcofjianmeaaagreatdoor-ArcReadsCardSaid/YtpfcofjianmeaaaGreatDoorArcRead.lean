/- arc.Read, where the sum is right. -/
import Derived.Test.YtpfcofjianmeaaaGreatDoorArcReadA
namespace Go.Proofs.YtpfcofjianmeaaaGreatDoor
open Go.RowKit
attribute [local go_sem ↓] Go.wp_at_zero Go.wp_at_succ
set_option maxRecDepth 100000 in
set_option maxHeartbeats 6400000 in
theorem arc_read_good (g off c : Nat) (b : By) (w : World) (hb : Bytes w (some ⟨g, off, none⟩) b) (hc : b.length ≤ c) (hl : 4 ≤ b.length) (hm : b.length ≤ 100000) (hE : EnvN w) (hs : le32 (b.drop (b.length - 4)) = (crcL (b.take (b.length - 4))).toNat) :
    Calls Tryz.prog 11 #[.slice (some ⟨g, off, none⟩) b.length c] w (ReadR b w) := by
  have hr : readP b = if (unP (b.take (b.length - 4))).ok && rightP (unP (b.take (b.length - 4))).p then ((unP (b.take (b.length - 4))).p, 0) else (pz, 4) := by unfold readP; rw [if_neg (by omega), if_neg (by simpa using hs)]
  have HE := Lib.hid hE; clear hE
  obtain ⟨Q, hQ⟩ : ∃ Q, Q = ReadR b w := ⟨_, rfl⟩
  rw [← hQ]
  have HQ := Lib.hid hQ; clear hQ
  obtain ⟨m, hmb⟩ : ∃ m, b.length = m + 4 := ⟨b.length - 4, by omega⟩
  rw [show b.length - 4 = m by omega] at hs hr
  rw [hmb] at hc hm ⊢
  have HR := Lib.hid hr; clear hr
  have HS := Lib.hid hs; clear hs hl
  have HMB := Lib.hid hmb; clear hmb
  have HB := Lib.hid hb; clear hb
  have h0 : ((m : Int) + 4 - 4 = m) := by omega
  have h0b : decide (((m + 4 : Nat) : Int) - 4 < 0) = false := decide_eq_false (by omega)
  have hx0 : Ext w (w.alloc (.cells #[.string ⟨#[]⟩, .string ⟨#[]⟩, .slice none 0 0, .slice none 0 0, .slice none 0 0, .slice none 0 0] 26)) := Ext.alloc _ _
  have hbx := heap_alloc_new w (.cells #[.string ⟨#[]⟩, .string ⟨#[]⟩, .slice none 0 0, .slice none 0 0, .slice none 0 0, .slice none 0 0] 26)
  go_enter Tryz.func11, Tryz.ntmps11
  go_upto_region 1 with (fail)
  generalize w.alloc (.cells #[.string ⟨#[]⟩, .string ⟨#[]⟩, .slice none 0 0, .slice none 0 0, .slice none 0 0, .slice none 0 0] 26) = wz at hx0 hbx ⊢
  go_upto_region 2 with (fail)
  have hz0 : Ext wz wz.drew := (Ext.refl wz).drew
  have hd4 : (b.drop m).length = 4 := by rw [List.length_drop, HMB.out]; omega
  have ht4 : (b.take m).length = m := by rw [List.length_take, HMB.out]; omega
  have hrd := fun W (k : Ext wz W) => rec_read (some ⟨g, off + m, none⟩) (c - m) (b.drop m) W ((HB.out.ext (hx0.trans k)).drop m) (by omega)
  rw [hd4] at hrd
  have hnum := fun S R W h => rd_num S R 4294967295 (b.drop m, false) W h (by simp only; omega) (Nat.le_refl _)
  have hle : le32 (b.drop m) < 4294967296 := le32_lt _
  have hn1 : rNum 4294967295 (b.drop m, false) = (le32 (b.drop m), ((b.drop m).drop 4, false)) := rNum_ok (by simp only; omega) (by simp only; omega)
  rw [hn1] at hnum
  simp only at hnum
  have hcr := fun B W (hW : W.cell? ⟨B, 0, none⟩ = some (.slice (some ⟨g, off, none⟩) (b.take m).length c)) (k : Ext wz W) => crc_of B 0 c (some ⟨g, off, none⟩) (b.take m) W hW ((HB.out.ext (hx0.trans k)).take m) (by omega)
  rw [ht4] at hcr
  have hS := HS.out
  generalize le32 (b.drop m) = x at hnum hS
  have hyb : (crcL (b.take m)).toNat < 4294967296 := (crcL (b.take m)).isLt
  generalize (crcL (b.take m)).toNat = y at hcr hS hyb
  have hwy : IntKind.i64.wrap (y : Int) = (y : Int) := IntWalk.i64_in _ (by omega)
  subst hS
  have hne3 : ((x : Int) != (x : Int)) = false := by simp
  have HRD := Lib.hid hrd; clear hrd
  have HNUM := Lib.hid hnum; clear hnum
  have HCR := Lib.hid hcr; clear hcr hn1 hle
  have hi1 : (m : Int) ≤ (m : Int) + 4 := by omega
  have hi2 : (m : Int) + 4 ≤ (c : Int) := by omega
  have hi3 : (m : Int) ≤ (c : Int) := by omega
  have hcm : ¬ c = m := by omega
  have h0d : decide ((m : Int) < 0) = false := decide_eq_false (by omega)
  go_cut [0, 29] from 14 to 29 (fun a v wx => a = .slice (some ⟨g, off, none⟩) (m + 4) c ∧ v = .bool false ∧ Ext wz wx)
  case first =>
    go_region_held3 (fun w' => Ext wz w')
      (first | exact hz0 | assumption | exact Ext.trans (by assumption : Ext wz _) (Ext.alloc _ _))
      (first
        | (go_at_call 34; refine (HRD.out _ (by assumption)).mono ?_; rintro e w1 ⟨R0, rfl, hR0, X0, hx1⟩; have hr0 := X0.lt; have hR1 := hR0; (try (change (World.alloc wz _).heap.size ≤ R0 at hR1; rw [World.size_alloc] at hR1)); have hR2 : wz.drew.heap.size = wz.heap.size := rfl; have hq0 : wz.heap.size ≤ R0 := Nat.le_trans (Ext.size (by assumption : Ext wz _)) hR0; have hS1 := Ext.trans (by assumption : Ext wz _) hx1)
        | (go_at_call 35; refine (HNUM.out _ _ _ (by first | exact X0 | exact X0.ext (Ext.alloc _ _))).mono ?_; rintro e w2 ⟨rfl, X1, hb2⟩; have hS2 : Ext wz w2 := Keep.ext_lt (Keep.trans (Keep.of_ext (by first | exact hS1 | exact hS1.trans (Ext.alloc _ _))) ((Keep.of_but hb2).mono (fun k _ hk => by show k ≠ R0; have : k < wz.heap.size := hk; omega))))
        | (go_at_call 17; refine (HCR.out _ _ (by first | exact cell_new _ _ _ 0 _ rfl | exact But.cell hb2 (by omega) (cell_new _ _ _ 0 _ rfl) | exact But.cell hb2 (by omega) (Ext.cell hx1 (cell_new _ _ _ 0 _ rfl))) (by assumption)).mono ?_; rintro e w3 ⟨rfl, rfl⟩))
    all_goals
      refine any_world (S := fun W => Ext wz W) _ (by first | assumption | exact hS2.trans (Ext.alloc _ _)) (fun wd hz1 => ?_)
      go_wp2_with fail
      go_meet
      exact ⟨rfl, rfl, hz1⟩
  case rest =>
    obtain ⟨rfl, rfl, hz1⟩ := hcut
    clear HRD HNUM HCR hne3 hyb hwy hd4 hi1 h0b h0d
    have HTB := Lib.hid ((HB.out.ext (hx0.trans hz1)).take m)
    have hbc := hz1.heap hbx
    have hxc := hx0.trans hz1
    have HBC := Lib.hid hbc; clear hbc hbx
    have HXC := Lib.hid hxc; clear hxc hz1 hx0 hz0
    have hrb := rec_read (some ⟨g, off, none⟩) c (b.take m) wc HTB.out (by omega)
    rw [ht4] at hrb
    have HRB := Lib.hid hrb; clear hrb HB HTB
    generalize b.take m = bt at *
    obtain ⟨s1, h1⟩ : ∃ s1, s1 = rRaw 12 (bt, false) := ⟨_, rfl⟩
    obtain ⟨s2, h2⟩ : ∃ s2, s2 = rRaw 30 s1.2 := ⟨_, rfl⟩
    obtain ⟨n, h3⟩ : ∃ n, n = rList s2.2 := ⟨_, rfl⟩
    obtain ⟨cf, h4⟩ : ∃ cf, cf = rList n.2 := ⟨_, rfl⟩
    obtain ⟨f, h5⟩ : ∃ f, f = rList cf.2 := ⟨_, rfl⟩
    obtain ⟨u, h6⟩ : ∃ u, u = rList f.2 := ⟨_, rfl⟩
    have l1 : s1.2.1.length ≤ 100000 := by rw [h1]; have := (rRaw_len 12 (bt, false)).1; simp only at this; omega
    have l2 : s2.2.1.length ≤ 100000 := by rw [h2]; exact Nat.le_trans (rRaw_len 30 _).1 l1
    have l3 : n.1.1.length ≤ 100000 ∧ n.2.1.length ≤ 100000 := by rw [h3]; have := rRaw_len 16777216 s2.2; exact ⟨Nat.le_trans this.2 l2, Nat.le_trans this.1 l2⟩
    have l4 : cf.1.1.length ≤ 100000 ∧ cf.2.1.length ≤ 100000 := by rw [h4]; have := rRaw_len 16777216 n.2; exact ⟨Nat.le_trans this.2 l3.2, Nat.le_trans this.1 l3.2⟩
    have l5 : f.1.1.length ≤ 100000 ∧ f.2.1.length ≤ 100000 := by rw [h5]; have := rRaw_len 16777216 cf.2; exact ⟨Nat.le_trans this.2 l4.2, Nat.le_trans this.1 l4.2⟩
    have l6 : u.1.1.length ≤ 100000 ∧ u.2.1.length ≤ 100000 := by rw [h6]; have := rRaw_len 16777216 f.2; exact ⟨Nat.le_trans this.2 l5.2, Nat.le_trans this.1 l5.2⟩
    obtain ⟨l3a, l3b⟩ := l3
    obtain ⟨l4a, l4b⟩ := l4
    obtain ⟨l5a, l5b⟩ := l5
    obtain ⟨l6a, l6b⟩ := l6
    have c1 := fun S R W h => rd_text S R 12 (bt, false) W h (by simp only; omega) (by omega)
    have c2 := fun S R W h => rd_text S R 30 s1.2 W h (by omega) (by omega)
    have c3 := fun S R W h => rd_list S R s2.2 W h (by omega)
    have c4 := fun S R W h => rd_list S R n.2 W h (by omega)
    have c5 := fun S R W h => rd_list S R cf.2 W h (by omega)
    have c6 := fun S R W h => rd_list S R f.2 W h (by omega)
    rw [← h1] at c1
    rw [← h2] at c2
    rw [← h3] at c3
    rw [← h4] at c4
    rw [← h5] at c5
    rw [← h6] at c6
    have HC1 := Lib.hid c1; clear c1
    have HC2 := Lib.hid c2; clear c2
    have HC3 := Lib.hid c3; clear c3
    have HC4 := Lib.hid c4; clear c4
    have HC5 := Lib.hid c5; clear c5
    have HC6 := Lib.hid c6; clear c6
    have HH := Lib.hid (And.intro h1 (And.intro h2 (And.intro h3 (And.intro h4 (And.intro h5 h6))))); clear h1 h2 h3 h4 h5 h6
    have HT4 := Lib.hid ht4; clear ht4
    go_wp2_with fail
    refine (HRB.out).mono ?_
    rintro e wa ⟨R0, rfl, hR0, X0, ea⟩
    have X0 := Lib.hid X0
    have ea := Lib.hid ea
    go_wp2_with fail
    refine (HC1.out _ _ _ X0.out).mono ?_
    rintro e wb ⟨rfl, Y0, eb⟩
    have Y0 := Lib.hid Y0
    have eb := Lib.hid eb
    go_wp2_with fail
    refine (HC2.out _ _ _ Y0.out).mono ?_
    rintro e wd ⟨rfl, Z0, ed⟩
    have Z0 := Lib.hid Z0
    have ed := Lib.hid ed
    go_wp2_with fail
    refine (HC3.out _ _ _ (Z0.out.ext (Ext.alloc _ _))).mono ?_
    rintro e we ⟨R1, rfl, hR1, A0, A1, ee⟩
    have A0 := Lib.hid A0
    have A1 := Lib.hid A1
    have ee := Lib.hid ee
    rw [World.size_alloc] at hR1
    go_wp2_with fail
    refine (HC4.out _ _ _ A0.out).mono ?_
    rintro e wf ⟨R2, rfl, hR2, B0, B2, ef⟩
    have B0 := Lib.hid B0
    have B2 := Lib.hid B2
    have ef := Lib.hid ef
    go_wp2_with fail
    refine (HC5.out _ _ _ B0.out).mono ?_
    rintro e wg ⟨R3, rfl, hR3, D0, D3, eg⟩
    have D0 := Lib.hid D0
    have D3 := Lib.hid D3
    have eg := Lib.hid eg
    go_wp2_with fail
    refine (HC6.out _ _ _ D0.out).mono ?_
    rintro e wo ⟨R4, rfl, hR4, E0, E4, eo⟩
    have E0 := Lib.hid E0
    have E4 := Lib.hid E4
    have eo := Lib.hid eo
    go_wp2_with fail
    have q0 := X0.out.lt
    have q1 := A1.out.lt
    have q2 := B2.out.lt
    have q3 := D3.out.lt
    have q4 := E4.out.lt
    have z1 := eb.out.size
    have z2 := ed.out.size
    have z3 := ee.out.size
    rw [World.size_alloc] at z3
    have z4 := ef.out.size
    have z5 := eg.out.size
    have z6 := eo.out.size
    have z0 := HXC.out.size
    have hwc : w.heap.size < wc.heap.size := (Array.getElem?_eq_some_iff.1 HBC.out).1
    have F1 := Lib.hid ((Rd.but D0.out (Rd.but B0.out (Rd.but A0.out A1.out ef.out (by omega)) eg.out (by omega)) eo.out (by omega)).mono (T := fun k => wd.heap.size < k ∧ k < R1) (fun k _ hk => ⟨by have := hk.1; rw [World.size_alloc] at this; omega, hk.2⟩))
    have F2 := Lib.hid ((Rd.but D0.out (Rd.but B0.out B2.out eg.out (by omega)) eo.out (by omega)).mono (T := fun k => R1 < k ∧ k < R2) (fun k _ hk => ⟨by have := hk.1; omega, hk.2⟩))
    have F3 := Lib.hid ((Rd.but D0.out D3.out eo.out (by omega)).mono (T := fun k => R2 < k ∧ k < R3) (fun k _ hk => ⟨by have := hk.1; omega, hk.2⟩))
    have F4 := Lib.hid (E4.out.mono (T := fun k => R3 < k ∧ k < R4) (fun k _ hk => ⟨by have := hk.1; omega, hk.2⟩))
    have F0 := E0
    have HB0 : Hid (wo.heap[wd.heap.size]? = some (.cells #[.string (bs s1.1), .string (bs s2.1), .slice none 0 0, .slice none 0 0, .slice none 0 0, .slice none 0 0] 26 (0, 0))) := Lib.hid (((Keep.of_but ee.out).trans ((Keep.of_but ef.out).trans ((Keep.of_but eg.out).trans (Keep.of_but eo.out)))).heap (g := wd.heap.size) (by omega) (heap_alloc_new wd _))
    have KW0 : Hid (Keep (· ≠ R0) wc wo) := Lib.hid ((Keep.of_ext ea.out).trans ((Keep.of_but eb.out).trans ((Keep.of_but ed.out).trans ((Keep.of_ext (Ext.alloc wd _)).trans ((Keep.of_but ee.out).trans ((Keep.of_but ef.out).trans ((Keep.of_but eg.out).trans (Keep.of_but eo.out))))))))
    clear A0 A1 B0 B2 Z0 Y0 X0 D0 D3 E0 E4 ea eb ed ee ef eg eo HC1 HC2 HC3 HC4 HC5 HC6 HRB
    generalize hBe : wd.heap.size = B at *
    clear hBe
    have e1 := each_need (fun k => B < k ∧ k < R1) R1 n.1 wo (fun k hk => hk.2) F1.out (by omega)
    obtain ⟨P1, hP1⟩ : ∃ P, P = rEach oneNeed n.1 := ⟨_, rfl⟩
    rw [← hP1] at e1
    obtain ⟨L1, t1⟩ := P1
    simp only at e1
    have HP1 := Lib.hid hP1; clear hP1
    have EE1 := Lib.hid e1; clear e1
    go_wp2_with (go_at_call 38; refine EE1.out.mono ?_; rintro e w1 ⟨a1, q1, rfl, xo, xr, xk⟩; have y1 := xk.size; have xb := xk.heap (g := B) (by omega) HB0.out; have b1 := blk_cell xb 2 _ rfl; have f1 := blk_free xb 2; have hb1 := Lib.hid xb; have o1 := Lib.hid xo; have r1 := Lib.hid xr; have k1 := Lib.hid xk; clear xo xr xk xb)
    clear EE1 b1 f1
    have HB1 : Hid ((w1.setCell ⟨B, 2, none⟩ (.slice a1 L1.length q1)).heap[B]? = some (.cells #[.string (bs s1.1), .string (bs s2.1), .slice a1 L1.length q1, .slice none 0 0, .slice none 0 0, .slice none 0 0] 26 (0, 0))) := Lib.hid (by rw [setCell_row hb1.out]; rfl)
    have kc1 : Keep (· ≠ B) w1 (w1.setCell ⟨B, 2, none⟩ (.slice a1 L1.length q1)) := Keep.setCell (Keep.refl _ _) (fun k hk => hk) _ _
    have KS1 := Lib.hid ((k1.out.mono (T := fun k => k ≠ R1 ∧ k ≠ B) (fun _ _ h => h.1)).trans (kc1.mono (fun _ _ h => h.2)))
    replace F1 := Lib.hid (r1.out.keep kc1 (show R1 ≠ B by omega) (fun g _ hg => by have h1 := hg.1; have h2 := hg.2; show g ≠ B; omega))
    have O1 : Hid (OwnNd _ wo.heap.size a1 q1 L1) := Lib.hid (ownsRow_keep o1.out kc1 (fun g _ _ hb _ => by show g ≠ B; omega))
    replace F0 := Lib.hid (F0.out.keep KS1.out (show R0 ≠ R1 ∧ R0 ≠ B by omega) (fun g _ hg => by have h1 := hg.1; have h2 := hg.2; show g ≠ R1 ∧ g ≠ B; omega))
    replace F2 := Lib.hid (F2.out.keep KS1.out (show R2 ≠ R1 ∧ R2 ≠ B by omega) (fun g _ hg => by have h1 := hg.1; have h2 := hg.2; show g ≠ R1 ∧ g ≠ B; omega))
    replace F3 := Lib.hid (F3.out.keep KS1.out (show R3 ≠ R1 ∧ R3 ≠ B by omega) (fun g _ hg => by have h1 := hg.1; have h2 := hg.2; show g ≠ R1 ∧ g ≠ B; omega))
    replace F4 := Lib.hid (F4.out.keep KS1.out (show R4 ≠ R1 ∧ R4 ≠ B by omega) (fun g _ hg => by have h1 := hg.1; have h2 := hg.2; show g ≠ R1 ∧ g ≠ B; omega))
    clear r1 o1 hb1 k1
    have y1b := KS1.out.size
    clear y1 kc1
    generalize w1.setCell ⟨B, 2, none⟩ (.slice a1 L1.length q1) = v1 at *
    have e2 := each_text2 (fun k => R1 < k ∧ k < R2) R2 cf.1 v1 (fun k hk => hk.2) F2.out (by omega)
    obtain ⟨P2, hP2⟩ : ∃ P, P = rEach (oneText 12) cf.1 := ⟨_, rfl⟩
    rw [← hP2] at e2
    obtain ⟨L2, t2⟩ := P2
    simp only at e2
    have HP2 := Lib.hid hP2; clear hP2
    have EE2 := Lib.hid e2; clear e2
    go_wp2_with (go_at_call 40; refine EE2.out.mono ?_; rintro e w2 ⟨a2, q2, rfl, xo, xr, xk⟩; have y2 := xk.size; have xb := xk.heap (g := B) (by omega) HB1.out; have b2 := blk_cell xb 3 _ rfl; have f2 := blk_free xb 3; have hb2 := Lib.hid xb; have o2 := Lib.hid xo; have r2 := Lib.hid xr; have k2 := Lib.hid xk; clear xo xr xk xb)
    clear EE2 b2 f2
    have HB2 : Hid ((w2.setCell ⟨B, 3, none⟩ (.slice a2 L2.length q2)).heap[B]? = some (.cells #[.string (bs s1.1), .string (bs s2.1), .slice a1 L1.length q1, .slice a2 L2.length q2, .slice none 0 0, .slice none 0 0] 26 (0, 0))) := Lib.hid (by rw [setCell_row hb2.out]; rfl)
    have kc2 : Keep (· ≠ B) w2 (w2.setCell ⟨B, 3, none⟩ (.slice a2 L2.length q2)) := Keep.setCell (Keep.refl _ _) (fun k hk => hk) _ _
    have KS2 := Lib.hid ((k2.out.mono (T := fun k => k ≠ R2 ∧ k ≠ B) (fun _ _ h => h.1)).trans (kc2.mono (fun _ _ h => h.2)))
    replace F2 := Lib.hid (r2.out.keep kc2 (show R2 ≠ B by omega) (fun g _ hg => by have h1 := hg.1; have h2 := hg.2; show g ≠ B; omega))
    have O2 : Hid (OwnS _ v1.heap.size a2 q2 L2) := Lib.hid (ownsRow_keep o2.out kc2 (fun g _ _ hb _ => by show g ≠ B; omega))
    replace F0 := Lib.hid (F0.out.keep KS2.out (show R0 ≠ R2 ∧ R0 ≠ B by omega) (fun g _ hg => by have h1 := hg.1; have h2 := hg.2; show g ≠ R2 ∧ g ≠ B; omega))
    replace F1 := Lib.hid (F1.out.keep KS2.out (show R1 ≠ R2 ∧ R1 ≠ B by omega) (fun g _ hg => by have h1 := hg.1; have h2 := hg.2; show g ≠ R2 ∧ g ≠ B; omega))
    replace F3 := Lib.hid (F3.out.keep KS2.out (show R3 ≠ R2 ∧ R3 ≠ B by omega) (fun g _ hg => by have h1 := hg.1; have h2 := hg.2; show g ≠ R2 ∧ g ≠ B; omega))
    replace F4 := Lib.hid (F4.out.keep KS2.out (show R4 ≠ R2 ∧ R4 ≠ B by omega) (fun g _ hg => by have h1 := hg.1; have h2 := hg.2; show g ≠ R2 ∧ g ≠ B; omega))
    replace O1 := Lib.hid (ownsRow_keep O1.out KS2.out (fun g _ _ hb _ => by show g ≠ R2 ∧ g ≠ B; omega))
    clear r2 o2 hb2 k2
    have y2b := KS2.out.size
    clear y2 kc2
    generalize w2.setCell ⟨B, 3, none⟩ (.slice a2 L2.length q2) = v2 at *
    have e3 := each_file (fun k => R2 < k ∧ k < R3) R3 f.1 v2 (fun k hk => hk.2) F3.out (by omega)
    obtain ⟨P3, hP3⟩ : ∃ P, P = rEach oneFile f.1 := ⟨_, rfl⟩
    rw [← hP3] at e3
    obtain ⟨L3, t3⟩ := P3
    simp only at e3
    have HP3 := Lib.hid hP3; clear hP3
    have EE3 := Lib.hid e3; clear e3
    go_wp2_with (go_at_call 42; refine EE3.out.mono ?_; rintro e w3 ⟨a3, q3, rfl, xo, xr, xk⟩; have y3 := xk.size; have xb := xk.heap (g := B) (by omega) HB2.out; have b3 := blk_cell xb 4 _ rfl; have f3 := blk_free xb 4; have hb3 := Lib.hid xb; have o3 := Lib.hid xo; have r3 := Lib.hid xr; have k3 := Lib.hid xk; clear xo xr xk xb)
    clear EE3 b3 f3
    have HB3 : Hid ((w3.setCell ⟨B, 4, none⟩ (.slice a3 L3.length q3)).heap[B]? = some (.cells #[.string (bs s1.1), .string (bs s2.1), .slice a1 L1.length q1, .slice a2 L2.length q2, .slice a3 L3.length q3, .slice none 0 0] 26 (0, 0))) := Lib.hid (by rw [setCell_row hb3.out]; rfl)
    have kc3 : Keep (· ≠ B) w3 (w3.setCell ⟨B, 4, none⟩ (.slice a3 L3.length q3)) := Keep.setCell (Keep.refl _ _) (fun k hk => hk) _ _
    have KS3 := Lib.hid ((k3.out.mono (T := fun k => k ≠ R3 ∧ k ≠ B) (fun _ _ h => h.1)).trans (kc3.mono (fun _ _ h => h.2)))
    replace F3 := Lib.hid (r3.out.keep kc3 (show R3 ≠ B by omega) (fun g _ hg => by have h1 := hg.1; have h2 := hg.2; show g ≠ B; omega))
    have O3 := Lib.hid (o3.out.keep kc3 (by omega))
    replace F0 := Lib.hid (F0.out.keep KS3.out (show R0 ≠ R3 ∧ R0 ≠ B by omega) (fun g _ hg => by have h1 := hg.1; have h2 := hg.2; show g ≠ R3 ∧ g ≠ B; omega))
    replace F1 := Lib.hid (F1.out.keep KS3.out (show R1 ≠ R3 ∧ R1 ≠ B by omega) (fun g _ hg => by have h1 := hg.1; have h2 := hg.2; show g ≠ R3 ∧ g ≠ B; omega))
    replace F2 := Lib.hid (F2.out.keep KS3.out (show R2 ≠ R3 ∧ R2 ≠ B by omega) (fun g _ hg => by have h1 := hg.1; have h2 := hg.2; show g ≠ R3 ∧ g ≠ B; omega))
    replace F4 := Lib.hid (F4.out.keep KS3.out (show R4 ≠ R3 ∧ R4 ≠ B by omega) (fun g _ hg => by have h1 := hg.1; have h2 := hg.2; show g ≠ R3 ∧ g ≠ B; omega))
    replace O1 := Lib.hid (ownsRow_keep O1.out KS3.out (fun g _ _ hb _ => by show g ≠ R3 ∧ g ≠ B; omega))
    replace O2 := Lib.hid (ownsRow_keep O2.out KS3.out (fun g _ _ hb _ => by show g ≠ R3 ∧ g ≠ B; omega))
    clear r3 o3 hb3 k3
    have y3b := KS3.out.size
    clear y3 kc3
    generalize w3.setCell ⟨B, 4, none⟩ (.slice a3 L3.length q3) = v3 at *
    have e4 := each_text4 (fun k => R3 < k ∧ k < R4) R4 u.1 v3 (fun k hk => hk.2) F4.out (by omega)
    obtain ⟨P4, hP4⟩ : ∃ P, P = rEach (oneText 300) u.1 := ⟨_, rfl⟩
    rw [← hP4] at e4
    obtain ⟨L4, t4⟩ := P4
    simp only at e4
    have HP4 := Lib.hid hP4; clear hP4
    have EE4 := Lib.hid e4; clear e4
    go_wp2_with (go_at_call 40; refine EE4.out.mono ?_; rintro e w4 ⟨a4, q4, rfl, xo, xr, xk⟩; have y4 := xk.size; have xb := xk.heap (g := B) (by omega) HB3.out; have b4 := blk_cell xb 5 _ rfl; have f4 := blk_free xb 5; have hb4 := Lib.hid xb; have o4 := Lib.hid xo; have r4 := Lib.hid xr; have k4 := Lib.hid xk; clear xo xr xk xb)
    clear EE4 b4 f4
    have HB4 : Hid ((w4.setCell ⟨B, 5, none⟩ (.slice a4 L4.length q4)).heap[B]? = some (.cells #[.string (bs s1.1), .string (bs s2.1), .slice a1 L1.length q1, .slice a2 L2.length q2, .slice a3 L3.length q3, .slice a4 L4.length q4] 26 (0, 0))) := Lib.hid (by rw [setCell_row hb4.out]; rfl)
    have kc4 : Keep (· ≠ B) w4 (w4.setCell ⟨B, 5, none⟩ (.slice a4 L4.length q4)) := Keep.setCell (Keep.refl _ _) (fun k hk => hk) _ _
    have KS4 := Lib.hid ((k4.out.mono (T := fun k => k ≠ R4 ∧ k ≠ B) (fun _ _ h => h.1)).trans (kc4.mono (fun _ _ h => h.2)))
    replace F4 := Lib.hid (r4.out.keep kc4 (show R4 ≠ B by omega) (fun g _ hg => by have h1 := hg.1; have h2 := hg.2; show g ≠ B; omega))
    have O4 : Hid (OwnS _ v3.heap.size a4 q4 L4) := Lib.hid (ownsRow_keep o4.out kc4 (fun g _ _ hb _ => by show g ≠ B; omega))
    replace F0 := Lib.hid (F0.out.keep KS4.out (show R0 ≠ R4 ∧ R0 ≠ B by omega) (fun g _ hg => by have h1 := hg.1; have h2 := hg.2; show g ≠ R4 ∧ g ≠ B; omega))
    replace F1 := Lib.hid (F1.out.keep KS4.out (show R1 ≠ R4 ∧ R1 ≠ B by omega) (fun g _ hg => by have h1 := hg.1; have h2 := hg.2; show g ≠ R4 ∧ g ≠ B; omega))
    replace F2 := Lib.hid (F2.out.keep KS4.out (show R2 ≠ R4 ∧ R2 ≠ B by omega) (fun g _ hg => by have h1 := hg.1; have h2 := hg.2; show g ≠ R4 ∧ g ≠ B; omega))
    replace F3 := Lib.hid (F3.out.keep KS4.out (show R3 ≠ R4 ∧ R3 ≠ B by omega) (fun g _ hg => by have h1 := hg.1; have h2 := hg.2; show g ≠ R4 ∧ g ≠ B; omega))
    replace O1 := Lib.hid (ownsRow_keep O1.out KS4.out (fun g _ _ hb _ => by show g ≠ R4 ∧ g ≠ B; omega))
    replace O2 := Lib.hid (ownsRow_keep O2.out KS4.out (fun g _ _ hb _ => by show g ≠ R4 ∧ g ≠ B; omega))
    replace O3 := Lib.hid ((O3.out.keep (R := R4) k4.out (by omega)).keep kc4 (by omega))
    clear r4 o4 hb4 k4
    have y4b := KS4.out.size
    clear y4 kc4
    generalize w4.setCell ⟨B, 5, none⟩ (.slice a4 L4.length q4) = v4 at *
    have KW := (KW0.out.mono (T := fun k => k < wc.heap.size) (fun k _ (hk : k < wc.heap.size) => by show k ≠ R0; omega)).trans ((KS1.out.mono (fun k _ (hk : k < wc.heap.size) => ⟨by omega, by omega⟩)).trans ((KS2.out.mono (fun k _ (hk : k < wc.heap.size) => ⟨by omega, by omega⟩)).trans ((KS3.out.mono (fun k _ (hk : k < wc.heap.size) => ⟨by omega, by omega⟩)).trans (KS4.out.mono (fun k _ (hk : k < wc.heap.size) => ⟨by omega, by omega⟩)))))
    have hxw : Ext w v4 := HXC.out.trans (Keep.ext_lt KW)
    have HBR := Lib.hid (KW.heap (g := w.heap.size) hwc HBC.out)
    have hBlt : B < v4.heap.size := (Array.getElem?_eq_some_iff.1 HB4.out).1
    have hwB : w.heap.size < B := by omega
    have hun : unP bt = ⟨(⟨s1.1, s2.1, L1, L2, L3, L4⟩ : PkgD), (rDone u.2 && (rDone t1 && (rDone t2 && (rDone t3 && rDone t4))))⟩ := by
      obtain ⟨h1, h2, h3, h4, h5, h6⟩ := HH.out
      simp only [unP]
      rw [← h1, ← h2, ← h3, ← h4, ← h5, ← h6, ← HP1.out, ← HP2.out, ← HP3.out, ← HP4.out]
    have hrd : readP b = if (rDone u.2 && (rDone t1 && (rDone t2 && (rDone t3 && rDone t4)))) && rightP (⟨s1.1, s2.1, L1, L2, L3, L4⟩ : PkgD) then ((⟨s1.1, s2.1, L1, L2, L3, L4⟩ : PkgD), 0) else (pz, 4) := by
      have := HR.out
      rw [hun] at this
      exact this
    have hfit : (rDone u.2 && (rDone t1 && (rDone t2 && (rDone t3 && rDone t4)))) = true → FitP (⟨s1.1, s2.1, L1, L2, L3, L4⟩ : PkgD) := fun h => by
      have := unP_fit (b := bt) (by rw [hun]; exact h) (by rw [HT4.out]; omega)
      rw [hun] at this
      exact this
    have k0 := rd_done _ _ _ _ F0.out
    have k1 := rd_done _ _ _ _ F1.out
    have k2 := rd_done _ _ _ _ F2.out
    have k3 := rd_done _ _ _ _ F3.out
    have k4 := rd_done _ _ _ _ F4.out
    have pmk : ∀ W, Keep (· ≠ w.heap.size) v4 W → PkgM W (⟨s1.1, s2.1, L1, L2, L3, L4⟩ : PkgD) ⟨a1, a2, a3, a4, q1, q2, q3, q4⟩ := fun W k => ⟨(OwnNd.needs (ownsRow_keep O1.out k (fun g _ _ hb _ => by show g ≠ w.heap.size; omega))).1, (OwnS.strs (ownsRow_keep O2.out k (fun g _ _ hb _ => by show g ≠ w.heap.size; omega))).1, (OwnF.files (O3.out.keep (R := w.heap.size) k (by omega))).1, (OwnS.strs (ownsRow_keep O4.out k (fun g _ _ hb _ => by show g ≠ w.heap.size; omega))).1⟩
    have pm := pmk v4 (Keep.refl _ _)
    have pc : PkgC (⟨s1.1, s2.1, L1, L2, L3, L4⟩ : PkgD) ⟨a1, a2, a3, a4, q1, q2, q3, q4⟩ := ⟨(OwnNd.needs O1.out).2, (OwnS.strs O2.out).2, O3.out.files.2, (OwnS.strs O4.out).2⟩
    have htr := fun hf => arc_right0 (⟨s1.1, s2.1, L1, L2, L3, L4⟩ : PkgD) a1 a2 a3 a4 q1 q2 q3 q4 v4 (HE.out.ext hxw) pm hf pc.2.2.1
    generalize rDone u.2 = d0 at *
    generalize rDone t1 = d1 at *
    generalize rDone t2 = d2 at *
    generalize rDone t3 = d3 at *
    generalize rDone t4 = d4 at *
    have PM := Lib.hid pmk; clear pmk pm
    have PC := Lib.hid pc; clear pc
    have HRD := Lib.hid hrd; clear hrd hun HR HH HP1 HP2 HP3 HP4 O1 O2 O3 O4 F0 F1 F2 F3 F4 KS1 KS2 KS3 KS4 KW0 KW
    have HXW := Lib.hid hxw; clear hxw
    have K0 := Lib.hid k0; clear k0
    have K1 := Lib.hid k1; clear k1
    have K2 := Lib.hid k2; clear k2
    have K3 := Lib.hid k3; clear k3
    have K4 := Lib.hid k4; clear k4
    clear l1 l2 l3a l3b l4a l4b l5a l5b l6a l6b z0 z1 z2 z3 z4 z5 z6 y1b y2b y3b y4b HB0 HB1 HB2 HB3 hR0 hR1 hR2 hR3 hR4 hwc HXC HBC HS HT4 HMB HE hi2 hi3 hcm h0
    cases d0 with
    | false =>
      clear htr hfit
      have hbw := HBR.out
      have c0 := blk_cell hbw 0 _ rfl
      have c1 := blk_cell hbw 1 _ rfl
      have c2 := blk_cell hbw 2 _ rfl
      have c3 := blk_cell hbw 3 _ rfl
      have c4 := blk_cell hbw 4 _ rfl
      have c5 := blk_cell hbw 5 _ rfl
      have f0 := blk_free hbw 0
      have f1 := blk_free hbw 1
      have f2 := blk_free hbw 2
      have f3 := blk_free hbw 3
      have f4 := blk_free hbw 4
      have f5 := blk_free hbw 5
      go_wp2_with (first | (go_at_call_of 47 (Value.pointer (some ⟨R0, 0, none⟩)); refine K0.out.mono ?_; rintro e w1 ⟨rfl, rfl⟩))
      obtain ⟨hs6, hbut⟩ := set6 hbw (.string ⟨#[]⟩) (.string ⟨#[]⟩) (.slice none 0 0) (.slice none 0 0) (.slice none 0 0) (.slice none 0 0)
      generalize ((((((v4.setCell ⟨w.heap.size, 0, none⟩ (.string ⟨#[]⟩)).setCell ⟨w.heap.size, 1, none⟩ (.string ⟨#[]⟩)).setCell ⟨w.heap.size, 2, none⟩ (.slice none 0 0)).setCell ⟨w.heap.size, 3, none⟩ (.slice none 0 0)).setCell ⟨w.heap.size, 4, none⟩ (.slice none 0 0)).setCell ⟨w.heap.size, 5, none⟩ (.slice none 0 0)) = wf at hs6 hbut ⊢
      clear c0 c1 c2 c3 c4 c5 f0 f1 f2 f3 f4 f5
      have c0 := blk_cell hs6 0 _ rfl
      have c1 := blk_cell hs6 1 _ rfl
      have c2 := blk_cell hs6 2 _ rfl
      have c3 := blk_cell hs6 3 _ rfl
      have c4 := blk_cell hs6 4 _ rfl
      have c5 := blk_cell hs6 5 _ rfl
      refine bodyPost_ret (v := .tuple #[pkgZ, .int .i64 4]) (by simp [pkgZ, results, Tryz.results11, go_sem, c0, c1, c2, c3, c4, c5]) rfl ?_
      rw [HQ.out]
      exact ReadR.bad (by rw [HRD.out]; simp) (((Keep.of_ext (HXW.out)).trans ((Keep.of_but hbut).mono (fun k _ hk => by show k ≠ w.heap.size; have : k < w.heap.size := hk; omega))).ext_lt)
    | true =>
      cases d1 with
      | false =>
        clear htr hfit
        have hbw := HBR.out
        have c0 := blk_cell hbw 0 _ rfl
        have c1 := blk_cell hbw 1 _ rfl
        have c2 := blk_cell hbw 2 _ rfl
        have c3 := blk_cell hbw 3 _ rfl
        have c4 := blk_cell hbw 4 _ rfl
        have c5 := blk_cell hbw 5 _ rfl
        have f0 := blk_free hbw 0
        have f1 := blk_free hbw 1
        have f2 := blk_free hbw 2
        have f3 := blk_free hbw 3
        have f4 := blk_free hbw 4
        have f5 := blk_free hbw 5
        go_wp2_with (first | (go_at_call_of 47 (Value.pointer (some ⟨R0, 0, none⟩)); refine K0.out.mono ?_; rintro e w1 ⟨rfl, rfl⟩) | (go_at_call_of 47 (Value.pointer (some ⟨R1, 0, none⟩)); refine K1.out.mono ?_; rintro e w1 ⟨rfl, rfl⟩))
        obtain ⟨hs6, hbut⟩ := set6 hbw (.string ⟨#[]⟩) (.string ⟨#[]⟩) (.slice none 0 0) (.slice none 0 0) (.slice none 0 0) (.slice none 0 0)
        generalize ((((((v4.setCell ⟨w.heap.size, 0, none⟩ (.string ⟨#[]⟩)).setCell ⟨w.heap.size, 1, none⟩ (.string ⟨#[]⟩)).setCell ⟨w.heap.size, 2, none⟩ (.slice none 0 0)).setCell ⟨w.heap.size, 3, none⟩ (.slice none 0 0)).setCell ⟨w.heap.size, 4, none⟩ (.slice none 0 0)).setCell ⟨w.heap.size, 5, none⟩ (.slice none 0 0)) = wf at hs6 hbut ⊢
        clear c0 c1 c2 c3 c4 c5 f0 f1 f2 f3 f4 f5
        have c0 := blk_cell hs6 0 _ rfl
        have c1 := blk_cell hs6 1 _ rfl
        have c2 := blk_cell hs6 2 _ rfl
        have c3 := blk_cell hs6 3 _ rfl
        have c4 := blk_cell hs6 4 _ rfl
        have c5 := blk_cell hs6 5 _ rfl
        refine bodyPost_ret (v := .tuple #[pkgZ, .int .i64 4]) (by simp [pkgZ, results, Tryz.results11, go_sem, c0, c1, c2, c3, c4, c5]) rfl ?_
        rw [HQ.out]
        exact ReadR.bad (by rw [HRD.out]; simp) (((Keep.of_ext (HXW.out)).trans ((Keep.of_but hbut).mono (fun k _ hk => by show k ≠ w.heap.size; have : k < w.heap.size := hk; omega))).ext_lt)
      | true =>
        cases d2 with
        | false =>
          clear htr hfit
          have hbw := HBR.out
          have c0 := blk_cell hbw 0 _ rfl
          have c1 := blk_cell hbw 1 _ rfl
          have c2 := blk_cell hbw 2 _ rfl
          have c3 := blk_cell hbw 3 _ rfl
          have c4 := blk_cell hbw 4 _ rfl
          have c5 := blk_cell hbw 5 _ rfl
          have f0 := blk_free hbw 0
          have f1 := blk_free hbw 1
          have f2 := blk_free hbw 2
          have f3 := blk_free hbw 3
          have f4 := blk_free hbw 4
          have f5 := blk_free hbw 5
          go_wp2_with (first | (go_at_call_of 47 (Value.pointer (some ⟨R0, 0, none⟩)); refine K0.out.mono ?_; rintro e w1 ⟨rfl, rfl⟩) | (go_at_call_of 47 (Value.pointer (some ⟨R1, 0, none⟩)); refine K1.out.mono ?_; rintro e w1 ⟨rfl, rfl⟩) | (go_at_call_of 47 (Value.pointer (some ⟨R2, 0, none⟩)); refine K2.out.mono ?_; rintro e w1 ⟨rfl, rfl⟩))
          obtain ⟨hs6, hbut⟩ := set6 hbw (.string ⟨#[]⟩) (.string ⟨#[]⟩) (.slice none 0 0) (.slice none 0 0) (.slice none 0 0) (.slice none 0 0)
          generalize ((((((v4.setCell ⟨w.heap.size, 0, none⟩ (.string ⟨#[]⟩)).setCell ⟨w.heap.size, 1, none⟩ (.string ⟨#[]⟩)).setCell ⟨w.heap.size, 2, none⟩ (.slice none 0 0)).setCell ⟨w.heap.size, 3, none⟩ (.slice none 0 0)).setCell ⟨w.heap.size, 4, none⟩ (.slice none 0 0)).setCell ⟨w.heap.size, 5, none⟩ (.slice none 0 0)) = wf at hs6 hbut ⊢
          clear c0 c1 c2 c3 c4 c5 f0 f1 f2 f3 f4 f5
          have c0 := blk_cell hs6 0 _ rfl
          have c1 := blk_cell hs6 1 _ rfl
          have c2 := blk_cell hs6 2 _ rfl
          have c3 := blk_cell hs6 3 _ rfl
          have c4 := blk_cell hs6 4 _ rfl
          have c5 := blk_cell hs6 5 _ rfl
          refine bodyPost_ret (v := .tuple #[pkgZ, .int .i64 4]) (by simp [pkgZ, results, Tryz.results11, go_sem, c0, c1, c2, c3, c4, c5]) rfl ?_
          rw [HQ.out]
          exact ReadR.bad (by rw [HRD.out]; simp) (((Keep.of_ext (HXW.out)).trans ((Keep.of_but hbut).mono (fun k _ hk => by show k ≠ w.heap.size; have : k < w.heap.size := hk; omega))).ext_lt)
        | true =>
          cases d3 with
          | false =>
            clear htr hfit
            have hbw := HBR.out
            have c0 := blk_cell hbw 0 _ rfl
            have c1 := blk_cell hbw 1 _ rfl
            have c2 := blk_cell hbw 2 _ rfl
            have c3 := blk_cell hbw 3 _ rfl
            have c4 := blk_cell hbw 4 _ rfl
            have c5 := blk_cell hbw 5 _ rfl
            have f0 := blk_free hbw 0
            have f1 := blk_free hbw 1
            have f2 := blk_free hbw 2
            have f3 := blk_free hbw 3
            have f4 := blk_free hbw 4
            have f5 := blk_free hbw 5
            go_wp2_with (first | (go_at_call_of 47 (Value.pointer (some ⟨R0, 0, none⟩)); refine K0.out.mono ?_; rintro e w1 ⟨rfl, rfl⟩) | (go_at_call_of 47 (Value.pointer (some ⟨R1, 0, none⟩)); refine K1.out.mono ?_; rintro e w1 ⟨rfl, rfl⟩) | (go_at_call_of 47 (Value.pointer (some ⟨R2, 0, none⟩)); refine K2.out.mono ?_; rintro e w1 ⟨rfl, rfl⟩) | (go_at_call_of 47 (Value.pointer (some ⟨R3, 0, none⟩)); refine K3.out.mono ?_; rintro e w1 ⟨rfl, rfl⟩))
            obtain ⟨hs6, hbut⟩ := set6 hbw (.string ⟨#[]⟩) (.string ⟨#[]⟩) (.slice none 0 0) (.slice none 0 0) (.slice none 0 0) (.slice none 0 0)
            generalize ((((((v4.setCell ⟨w.heap.size, 0, none⟩ (.string ⟨#[]⟩)).setCell ⟨w.heap.size, 1, none⟩ (.string ⟨#[]⟩)).setCell ⟨w.heap.size, 2, none⟩ (.slice none 0 0)).setCell ⟨w.heap.size, 3, none⟩ (.slice none 0 0)).setCell ⟨w.heap.size, 4, none⟩ (.slice none 0 0)).setCell ⟨w.heap.size, 5, none⟩ (.slice none 0 0)) = wf at hs6 hbut ⊢
            clear c0 c1 c2 c3 c4 c5 f0 f1 f2 f3 f4 f5
            have c0 := blk_cell hs6 0 _ rfl
            have c1 := blk_cell hs6 1 _ rfl
            have c2 := blk_cell hs6 2 _ rfl
            have c3 := blk_cell hs6 3 _ rfl
            have c4 := blk_cell hs6 4 _ rfl
            have c5 := blk_cell hs6 5 _ rfl
            refine bodyPost_ret (v := .tuple #[pkgZ, .int .i64 4]) (by simp [pkgZ, results, Tryz.results11, go_sem, c0, c1, c2, c3, c4, c5]) rfl ?_
            rw [HQ.out]
            exact ReadR.bad (by rw [HRD.out]; simp) (((Keep.of_ext (HXW.out)).trans ((Keep.of_but hbut).mono (fun k _ hk => by show k ≠ w.heap.size; have : k < w.heap.size := hk; omega))).ext_lt)
          | true =>
            cases d4 with
            | false =>
              clear htr hfit
              have hbw := HBR.out
              have c0 := blk_cell hbw 0 _ rfl
              have c1 := blk_cell hbw 1 _ rfl
              have c2 := blk_cell hbw 2 _ rfl
              have c3 := blk_cell hbw 3 _ rfl
              have c4 := blk_cell hbw 4 _ rfl
              have c5 := blk_cell hbw 5 _ rfl
              have f0 := blk_free hbw 0
              have f1 := blk_free hbw 1
              have f2 := blk_free hbw 2
              have f3 := blk_free hbw 3
              have f4 := blk_free hbw 4
              have f5 := blk_free hbw 5
              go_wp2_with (first | (go_at_call_of 47 (Value.pointer (some ⟨R0, 0, none⟩)); refine K0.out.mono ?_; rintro e w1 ⟨rfl, rfl⟩) | (go_at_call_of 47 (Value.pointer (some ⟨R1, 0, none⟩)); refine K1.out.mono ?_; rintro e w1 ⟨rfl, rfl⟩) | (go_at_call_of 47 (Value.pointer (some ⟨R2, 0, none⟩)); refine K2.out.mono ?_; rintro e w1 ⟨rfl, rfl⟩) | (go_at_call_of 47 (Value.pointer (some ⟨R3, 0, none⟩)); refine K3.out.mono ?_; rintro e w1 ⟨rfl, rfl⟩) | (go_at_call_of 47 (Value.pointer (some ⟨R4, 0, none⟩)); refine K4.out.mono ?_; rintro e w1 ⟨rfl, rfl⟩))
              obtain ⟨hs6, hbut⟩ := set6 hbw (.string ⟨#[]⟩) (.string ⟨#[]⟩) (.slice none 0 0) (.slice none 0 0) (.slice none 0 0) (.slice none 0 0)
              generalize ((((((v4.setCell ⟨w.heap.size, 0, none⟩ (.string ⟨#[]⟩)).setCell ⟨w.heap.size, 1, none⟩ (.string ⟨#[]⟩)).setCell ⟨w.heap.size, 2, none⟩ (.slice none 0 0)).setCell ⟨w.heap.size, 3, none⟩ (.slice none 0 0)).setCell ⟨w.heap.size, 4, none⟩ (.slice none 0 0)).setCell ⟨w.heap.size, 5, none⟩ (.slice none 0 0)) = wf at hs6 hbut ⊢
              clear c0 c1 c2 c3 c4 c5 f0 f1 f2 f3 f4 f5
              have c0 := blk_cell hs6 0 _ rfl
              have c1 := blk_cell hs6 1 _ rfl
              have c2 := blk_cell hs6 2 _ rfl
              have c3 := blk_cell hs6 3 _ rfl
              have c4 := blk_cell hs6 4 _ rfl
              have c5 := blk_cell hs6 5 _ rfl
              refine bodyPost_ret (v := .tuple #[pkgZ, .int .i64 4]) (by simp [pkgZ, results, Tryz.results11, go_sem, c0, c1, c2, c3, c4, c5]) rfl ?_
              rw [HQ.out]
              exact ReadR.bad (by rw [HRD.out]; simp) (((Keep.of_ext (HXW.out)).trans ((Keep.of_but hbut).mono (fun k _ hk => by show k ≠ w.heap.size; have : k < w.heap.size := hk; omega))).ext_lt)
            | true =>
              have htr := htr (hfit rfl)
              clear hfit
              obtain ⟨r, hrp⟩ : ∃ r, r = rightP (⟨s1.1, s2.1, L1, L2, L3, L4⟩ : PkgD) := ⟨_, rfl⟩
              rw [← hrp] at htr
              have HTR := Lib.hid htr; clear htr
              have b0 : v4.cell? ⟨B, 0, none⟩ = some (.string (bs s1.1)) := blk_cell HB4.out 0 _ rfl
              have b1 : v4.cell? ⟨B, 1, none⟩ = some (.string (bs s2.1)) := blk_cell HB4.out 1 _ rfl
              have b2 : v4.cell? ⟨B, 2, none⟩ = some (.slice a1 L1.length q1) := blk_cell HB4.out 2 _ rfl
              have b3 : v4.cell? ⟨B, 3, none⟩ = some (.slice a2 L2.length q2) := blk_cell HB4.out 3 _ rfl
              have b4 : v4.cell? ⟨B, 4, none⟩ = some (.slice a3 L3.length q3) := blk_cell HB4.out 4 _ rfl
              have b5 : v4.cell? ⟨B, 5, none⟩ = some (.slice a4 L4.length q4) := blk_cell HB4.out 5 _ rfl
              cases r with
              | false =>
                have HRP := Lib.hid hrp.symm; clear hrp
                go_wp2_with (first | (go_at_call_of 47 (Value.pointer (some ⟨R0, 0, none⟩)); refine K0.out.mono ?_; rintro e w1 ⟨rfl, rfl⟩) | (go_at_call_of 47 (Value.pointer (some ⟨R1, 0, none⟩)); refine K1.out.mono ?_; rintro e w1 ⟨rfl, rfl⟩) | (go_at_call_of 47 (Value.pointer (some ⟨R2, 0, none⟩)); refine K2.out.mono ?_; rintro e w1 ⟨rfl, rfl⟩) | (go_at_call_of 47 (Value.pointer (some ⟨R3, 0, none⟩)); refine K3.out.mono ?_; rintro e w1 ⟨rfl, rfl⟩) | (go_at_call_of 47 (Value.pointer (some ⟨R4, 0, none⟩)); refine K4.out.mono ?_; rintro e w1 ⟨rfl, rfl⟩) | (go_at_call 9; refine HTR.out.mono ?_; rintro e w5 ⟨rfl, hx5⟩; have hb5 := hx5.heap HB4.out; have hbw := hx5.heap HBR.out; have p0 := blk_cell hb5 0 _ rfl; have p1 := blk_cell hb5 1 _ rfl; have p2 := blk_cell hb5 2 _ rfl; have p3 := blk_cell hb5 3 _ rfl; have p4 := blk_cell hb5 4 _ rfl; have p5 := blk_cell hb5 5 _ rfl; have c0 := blk_cell hbw 0 _ rfl; have c1 := blk_cell hbw 1 _ rfl; have c2 := blk_cell hbw 2 _ rfl; have c3 := blk_cell hbw 3 _ rfl; have c4 := blk_cell hbw 4 _ rfl; have c5 := blk_cell hbw 5 _ rfl; have f0 := blk_free hbw 0; have f1 := blk_free hbw 1; have f2 := blk_free hbw 2; have f3 := blk_free hbw 3; have f4 := blk_free hbw 4; have f5 := blk_free hbw 5; have hx5 := Lib.hid hx5))
                obtain ⟨hs6, hbut⟩ := set6 hbw (.string ⟨#[]⟩) (.string ⟨#[]⟩) (.slice none 0 0) (.slice none 0 0) (.slice none 0 0) (.slice none 0 0)
                generalize ((((((w5.setCell ⟨w.heap.size, 0, none⟩ (.string ⟨#[]⟩)).setCell ⟨w.heap.size, 1, none⟩ (.string ⟨#[]⟩)).setCell ⟨w.heap.size, 2, none⟩ (.slice none 0 0)).setCell ⟨w.heap.size, 3, none⟩ (.slice none 0 0)).setCell ⟨w.heap.size, 4, none⟩ (.slice none 0 0)).setCell ⟨w.heap.size, 5, none⟩ (.slice none 0 0)) = wf at hs6 hbut ⊢
                clear c0 c1 c2 c3 c4 c5 f0 f1 f2 f3 f4 f5
                have c0 := blk_cell hs6 0 _ rfl
                have c1 := blk_cell hs6 1 _ rfl
                have c2 := blk_cell hs6 2 _ rfl
                have c3 := blk_cell hs6 3 _ rfl
                have c4 := blk_cell hs6 4 _ rfl
                have c5 := blk_cell hs6 5 _ rfl
                refine bodyPost_ret (v := .tuple #[pkgZ, .int .i64 4]) (by simp [pkgZ, results, Tryz.results11, go_sem, c0, c1, c2, c3, c4, c5]) rfl ?_
                rw [HQ.out]
                exact ReadR.bad (by rw [HRD.out]; simp [HRP.out]) (((Keep.of_ext (HXW.out.trans hx5.out)).trans ((Keep.of_but hbut).mono (fun k _ hk => by show k ≠ w.heap.size; have : k < w.heap.size := hk; omega))).ext_lt)
              | true =>
                have HRP := Lib.hid hrp.symm; clear hrp
                go_wp2_with (first | (go_at_call_of 47 (Value.pointer (some ⟨R0, 0, none⟩)); refine K0.out.mono ?_; rintro e w1 ⟨rfl, rfl⟩) | (go_at_call_of 47 (Value.pointer (some ⟨R1, 0, none⟩)); refine K1.out.mono ?_; rintro e w1 ⟨rfl, rfl⟩) | (go_at_call_of 47 (Value.pointer (some ⟨R2, 0, none⟩)); refine K2.out.mono ?_; rintro e w1 ⟨rfl, rfl⟩) | (go_at_call_of 47 (Value.pointer (some ⟨R3, 0, none⟩)); refine K3.out.mono ?_; rintro e w1 ⟨rfl, rfl⟩) | (go_at_call_of 47 (Value.pointer (some ⟨R4, 0, none⟩)); refine K4.out.mono ?_; rintro e w1 ⟨rfl, rfl⟩) | (go_at_call 9; refine HTR.out.mono ?_; rintro e w5 ⟨rfl, hx5⟩; have hb5 := hx5.heap HB4.out; have hbw := hx5.heap HBR.out; have p0 := blk_cell hb5 0 _ rfl; have p1 := blk_cell hb5 1 _ rfl; have p2 := blk_cell hb5 2 _ rfl; have p3 := blk_cell hb5 3 _ rfl; have p4 := blk_cell hb5 4 _ rfl; have p5 := blk_cell hb5 5 _ rfl; have c0 := blk_cell hbw 0 _ rfl; have c1 := blk_cell hbw 1 _ rfl; have c2 := blk_cell hbw 2 _ rfl; have c3 := blk_cell hbw 3 _ rfl; have c4 := blk_cell hbw 4 _ rfl; have c5 := blk_cell hbw 5 _ rfl; have f0 := blk_free hbw 0; have f1 := blk_free hbw 1; have f2 := blk_free hbw 2; have f3 := blk_free hbw 3; have f4 := blk_free hbw 4; have f5 := blk_free hbw 5; have hx5 := Lib.hid hx5))
                obtain ⟨hs6, hbut⟩ := set6 hbw (.string (bs s1.1)) (.string (bs s2.1)) (.slice a1 L1.length q1) (.slice a2 L2.length q2) (.slice a3 L3.length q3) (.slice a4 L4.length q4)
                generalize ((((((w5.setCell ⟨w.heap.size, 0, none⟩ (.string (bs s1.1))).setCell ⟨w.heap.size, 1, none⟩ (.string (bs s2.1))).setCell ⟨w.heap.size, 2, none⟩ (.slice a1 L1.length q1)).setCell ⟨w.heap.size, 3, none⟩ (.slice a2 L2.length q2)).setCell ⟨w.heap.size, 4, none⟩ (.slice a3 L3.length q3)).setCell ⟨w.heap.size, 5, none⟩ (.slice a4 L4.length q4)) = wf at hs6 hbut ⊢
                clear c0 c1 c2 c3 c4 c5 f0 f1 f2 f3 f4 f5 p0 p1 p2 p3 p4 p5
                have c0 := blk_cell hs6 0 _ rfl
                have c1 := blk_cell hs6 1 _ rfl
                have c2 := blk_cell hs6 2 _ rfl
                have c3 := blk_cell hs6 3 _ rfl
                have c4 := blk_cell hs6 4 _ rfl
                have c5 := blk_cell hs6 5 _ rfl
                refine bodyPost_ret (v := .tuple #[pkgV (⟨s1.1, s2.1, L1, L2, L3, L4⟩ : PkgD) ⟨a1, a2, a3, a4, q1, q2, q3, q4⟩, .int .i64 0]) (by simp [pkgV, results, Tryz.results11, go_sem, c0, c1, c2, c3, c4, c5]) rfl ?_
                rw [HQ.out]
                have hrp : readP b = ((⟨s1.1, s2.1, L1, L2, L3, L4⟩ : PkgD), 0) := by rw [HRD.out]; simp [HRP.out]
                refine ⟨⟨a1, a2, a3, a4, q1, q2, q3, q4⟩, by rw [hrp]; rfl, by rw [hrp]; exact PM.out _ ((Keep.of_ext hx5.out).trans (Keep.of_but hbut)), by rw [hrp]; exact PC.out, (((Keep.of_ext (HXW.out.trans hx5.out)).trans ((Keep.of_but hbut).mono (fun k _ hk => by show k ≠ w.heap.size; have : k < w.heap.size := hk; omega))).ext_lt)⟩
end Go.Proofs.YtpfcofjianmeaaaGreatDoor
