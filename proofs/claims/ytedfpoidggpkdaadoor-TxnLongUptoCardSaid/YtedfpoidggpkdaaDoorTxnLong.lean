/- farrierlaw18.TxnLong answers true, where the upgrade isn't too great. -/
import Derived.Test.YtedfpoidggpkdaaDoorTxnAlive
namespace Go.Proofs.YtedfpoidggpkdaaDoor
open Go.RowKit
theorem mb_take {ms : List (Int × List UInt8)} {k : Nat} (h : k < ms.length) : ((ms.take (k + 1)).flatMap moveB).length = ((ms.take k).flatMap moveB).length + (8 + (ms.getD k (0, [])).2.length) := by
  rw [List.take_succ_eq_append_getElem h, List.flatMap_append, List.length_append]
  simp [List.getD_eq_getElem?_getD, List.getElem?_eq_getElem h, moveB_len]
theorem rb_take {L : List (List UInt8)} {k : Nat} (h : k < L.length) : ((L.take (k + 1)).flatMap raw4).length = ((L.take k).flatMap raw4).length + (4 + (L.getD k []).length) := by
  rw [List.take_succ_eq_append_getElem h, List.flatMap_append, List.length_append]
  simp [List.getD_eq_getElem?_getD, List.getElem?_eq_getElem h, raw4_len]
theorem fm_take_le {α : Type} (f : α → List UInt8) (L : List α) (k : Nat) : ((L.take k).flatMap f).length ≤ (L.flatMap f).length := by
  conv => rhs; rw [← List.take_append_drop k L]
  rw [List.flatMap_append, List.length_append]; omega
set_option maxRecDepth 100000 in
set_option maxHeartbeats 3200000 in
theorem txn_long (t : TxnD) (am ac ag : Option Addr) (cm cc cg : Nat) (ph2 at2 : Int) (w : World) (hE : Env w) (hM : Moves w am t.moves) (hC : Strs w ac t.come) (hG : Strs w ag t.gone) (hl : (packT t).length ≤ 8388608) :
    Calls Tryd.prog 7 #[txnV t am ac ag cm cc cg, .int .i64 ph2, .int .i64 at2] w fun e w' => e = .returned (.bool true) ∧ Ext w w' := by
  obtain ⟨ph, dn, ms, cs, gs⟩ := t
  unfold txnV
  have hlp := packT_len ⟨ph, dn, ms, cs, gs⟩
  have hl2 : ∀ x y, (packT ⟨x, y, ms, cs, gs⟩).length = (packT ⟨ph, dn, ms, cs, gs⟩).length := fun x y => by rw [packT_len, packT_len]
  have HL2 := Lib.hid hl2; clear hl2
  obtain ⟨hml, hcl, hgl, hsum, hbm, hbc, hbg⟩ := packT_bounds hl
  simp only at hml hcl hgl hsum hbm hbc hbg hM hC hG hlp
  have HBM := Lib.hid hbm; clear hbm
  have HBC := Lib.hid hbc; clear hbc
  have HBG := Lib.hid hbg; clear hbg
  have HSUM := Lib.hid hsum; clear hsum
  have HLP := Lib.hid hlp; clear hlp
  have HM := Lib.hid hM; clear hM
  have HC := Lib.hid hC; clear hC
  have HG := Lib.hid hG; clear hG
  have HL := Lib.hid hl; clear hl
  go_enter Tryd.func7, Tryd.ntmps7
  go_wp2_with fail
  refine (alive18 _ (hE.ext (Ext.alloc _ _))).mono ?_
  rintro e w1 ⟨rfl, hx1⟩
  have t0 : w1.cell? ⟨w.heap.size, 0, none⟩ = some (.int .i64 ph) := hx1.cell (cell_new w _ _ 0 _ rfl)
  have t1 : w1.cell? ⟨w.heap.size, 1, none⟩ = some (.int .i64 dn) := hx1.cell (cell_new w _ _ 1 _ rfl)
  have t2 : w1.cell? ⟨w.heap.size, 2, none⟩ = some (.slice am ms.length cm) := hx1.cell (cell_new w _ _ 2 _ rfl)
  have t3 : w1.cell? ⟨w.heap.size, 3, none⟩ = some (.slice ac cs.length cc) := hx1.cell (cell_new w _ _ 3 _ rfl)
  have t4 : w1.cell? ⟨w.heap.size, 4, none⟩ = some (.slice ag gs.length cg) := hx1.cell (cell_new w _ _ 4 _ rfl)
  have j1 : w.heap.size < w1.heap.size := by have := hx1.size; rw [World.size_alloc] at this; omega
  by_cases hsm : ms.length ≤ 60 ∧ cs.length ≤ 60 ∧ gs.length ≤ 60
  · obtain ⟨k1, k2, k3⟩ := hsm
    go_wp2_with fail
    generalize bits BinOp.and IntKind.i64 ph2 3 = x
    generalize bits BinOp.and IntKind.i64 at2 31 = y
    have hx1w := Lib.hid ((Ext.alloc w _).trans hx1)
    go_loopw [8, 41] (fun n i wr => ∃ (k q : Nat), n = .int .i64 (q : Int) ∧ i = .int .i64 k ∧ k ≤ ms.length ∧ Hid (q = 20 + ((ms.take k).flatMap moveB).length) ∧ q ≤ 8388608 ∧ Ext (w1.alloc (.cells #[.int .i64 x, .int .i64 y, .slice am ms.length cm, .slice ac cs.length cc, .slice ag gs.length cg] 38)) wr) (fun _ i _ => ms.length - (intOf i).toNat)
    case atStart => exact ⟨0, 20, rfl, rfl, Nat.zero_le _, Lib.hid rfl, by omega, Ext.refl _⟩
    case round =>
      obtain ⟨k, q, rfl, rfl, hk, hq, hqb, hext⟩ := hrel
      by_cases hlt : k < ms.length
      · have hmx := ((HM.out.ext hx1w.out).ext (Ext.alloc w1 _)).ext hext
        rcases hmx with h0 | ⟨g, off, rfl, _, hc⟩
        · rw [h0] at hlt; simp at hlt
        obtain ⟨h1, h2⟩ := hc k hlt
        clear hc
        have htk := mb_take hlt
        have hle := fm_take_le moveB ms (k + 1)
        obtain ⟨m, hm⟩ : ∃ m, m = ms.getD k (0, []) := ⟨_, rfl⟩
        rw [← hm] at h1 h2 htk
        obtain ⟨mk, mp⟩ := m
        simp only at h1 h2 htk
        have hmp : q + (8 + (bs mp).size) ≤ 8388608 := by rw [bs_size]; have := HSUM.out; have := hq.out; omega
        have HQ : Hid (q + (8 + (bs mp).size) = 20 + ((ms.take (k + 1)).flatMap moveB).length) := Lib.hid (by rw [bs_size, htk]; have := hq.out; omega)
        clear hm htk hle
        go_wp2_with fail
        go_roundw
        case rel => exact ⟨k + 1, q + (8 + (bs mp).size), by go_num, by go_num, by omega, HQ, hmp, hext.trans (Ext.alloc _ _)⟩
        case measure => simp [intOf]; omega
      · have hkk : k = ms.length := by omega
        have hq2 := hq.out
        rw [hkk, List.take_length] at hq2
        have HQ1 := Lib.hid hq2; clear hq2 hkk hq
        have c0 : wr.cell? ⟨w1.heap.size, 0, none⟩ = some (.int .i64 x) := hext.cell (cell_new w1 _ _ 0 _ rfl)
        have c1 : wr.cell? ⟨w1.heap.size, 1, none⟩ = some (.int .i64 y) := hext.cell (cell_new w1 _ _ 1 _ rfl)
        have c2 : wr.cell? ⟨w1.heap.size, 2, none⟩ = some (.slice am ms.length cm) := hext.cell (cell_new w1 _ _ 2 _ rfl)
        have c3 : wr.cell? ⟨w1.heap.size, 3, none⟩ = some (.slice ac cs.length cc) := hext.cell (cell_new w1 _ _ 3 _ rfl)
        have c4 : wr.cell? ⟨w1.heap.size, 4, none⟩ = some (.slice ag gs.length cg) := hext.cell (cell_new w1 _ _ 4 _ rfl)
        have u0 := ((Ext.alloc w1 _).trans hext).cell t0
        have u1 := ((Ext.alloc w1 _).trans hext).cell t1
        have u2 := ((Ext.alloc w1 _).trans hext).cell t2
        have u3 := ((Ext.alloc w1 _).trans hext).cell t3
        have u4 := ((Ext.alloc w1 _).trans hext).cell t4
        have HXW := Lib.hid (hx1w.out.trans ((Ext.alloc w1 _).trans hext))
        have HCR := Lib.hid (HC.out.ext HXW.out).row
        have HGR := Lib.hid (HG.out.ext HXW.out).row
        obtain ⟨n, hn1, hn2⟩ : ∃ n, n ≤ cs.length + gs.length ∧ cs.length + gs.length ≤ n := ⟨_, Nat.le_refl _, Nat.le_refl _⟩
        obtain ⟨wo, rfl⟩ : ∃ wo : World, wo = wr := ⟨_, rfl⟩
        clear t0 t1 t2 t3 t4
        go_wp2_with fail
        clear hk hlt
        go_region_held3 (fun w' => w'.cell? ⟨w.heap.size, 3, none⟩ = some (.slice ac cs.length cc) ∧ w'.cell? ⟨w.heap.size, 4, none⟩ = some (.slice ag gs.length cg))
          (first | go_keep | exact K1.out | exact K2.out)
          (first
            | (refine step_append_row (by rfl) _ _ 23 9 (.string ⟨#[]⟩) 16 (by rfl) Tryd.underlying23 info_string rfl wo.heap.size (some ⟨wo.heap.size, 0, none⟩) 0 0 [] (by rfl) ((ownsRow_empty wo _).drew) ac cs.length cc (textV cs) (by rfl) (textV_len _) (HCR.out.keep (Keep.of_ext (Ext.alloc _ _).drew)) (textV_one _) (by omega) (by decide) (by simp) cs.length (by omega) ?_; intro ad1 cap1 wa o1 k1 b1; have x1 : Ext wo wa := ext_below rfl (Ext.refl wo) (Ext.alloc wo _).drew b1; have O1 := Lib.hid o1; clear o1; have K1 := Lib.hid (And.intro (x1.cell u3) (x1.cell u4)))
            | (refine step_append_row (by rfl) _ _ 23 9 (.string ⟨#[]⟩) 16 (by rfl) Tryd.underlying23 info_string rfl wo.heap.size ad1 cs.length cap1 _ (by rfl) O1.out ag gs.length cg (textV gs) (by rfl) (textV_len _) (HGR.out.keep (Keep.of_ext x1)) (textV_one _) (by omega) (by decide) x1.size n (by omega) ?_; intro ad2 cap2 w2 o2 k2 b2; have x2 : Ext wo w2 := ext_below rfl x1 (Ext.refl _) b2; have O2 := Lib.hid o2; clear o2; have K2 := Lib.hid (And.intro (x2.cell u3) (x2.cell u4))))
        go_wp2_with fail
        have hLn : (cs ++ gs).length = n := by rw [List.length_append]; omega
        have hrow : Strs w2 ad2 (cs ++ gs) := by
          have h := ownsRow_row (by simpa [textV] using O2.out : w2.ownsRow wo.heap.size 9 1 (.slice ad2 n cap2) n (textV (cs ++ gs)))
          exact h.strs
        have HROW := Lib.hid hrow; clear hrow
        obtain ⟨L, hL⟩ : ∃ L, L = cs ++ gs := ⟨_, rfl⟩
        have hLb : (L.flatMap raw4).length = (cs.flatMap raw4).length + (gs.flatMap raw4).length := by rw [hL, List.flatMap_append, List.length_append]
        rw [← hL] at HROW hLn
        clear hL
        have HLN := Lib.hid hLn; clear hLn
        have HLB := Lib.hid hLb; clear hLb
        have X2 := Lib.hid x2
        obtain ⟨wp, rfl⟩ : ∃ wp : World, wp = w2 := ⟨_, rfl⟩
        go_loopw [8, 60] (fun m i wr => ∃ (k r : Nat), m = .int .i64 (r : Int) ∧ i = .int .i64 k ∧ k ≤ n ∧ Hid (r = q + ((L.take k).flatMap raw4).length) ∧ r ≤ 8388608 ∧ Ext wp wr) (fun _ i _ => n - (intOf i).toNat)
        case atStart => exact ⟨0, q, rfl, rfl, Nat.zero_le _, Lib.hid rfl, hqb, Ext.refl _⟩
        case round =>
          obtain ⟨k, r, rfl, rfl, hk, hr, hrb, hext2⟩ := hrel
          by_cases hlt : k < n
          · have hltL : k < L.length := by rw [HLN.out]; exact hlt
            have hcx := HROW.out.ext hext2
            obtain ⟨g, off, rfl, _, hc⟩ := hcx.at (by intro e; rw [e] at hltL; simp at hltL)
            have h1 := hc k hltL
            clear hc hcx
            have htk := rb_take hltL
            have hle := fm_take_le raw4 L (k + 1)
            obtain ⟨p, hp⟩ : ∃ p, p = L.getD k [] := ⟨_, rfl⟩
            rw [← hp] at h1 htk
            have hmp : r + (4 + (bs p).size) ≤ 8388608 := by rw [bs_size]; have := HSUM.out; have := hr.out; have := HLB.out; have := HQ1.out; omega
            have HQ : Hid (r + (4 + (bs p).size) = q + ((L.take (k + 1)).flatMap raw4).length) := Lib.hid (by rw [bs_size, htk]; have := hr.out; omega)
            clear hp htk hle hltL
            go_wp2_with fail
            go_roundw
            case rel => exact ⟨k + 1, r + (4 + (bs p).size), by go_num, by go_num, by omega, HQ, hmp, hext2⟩
            case measure => simp [intOf]; omega
          · have hkk : k = L.length := by rw [HLN.out]; omega
            have hr2 := hr.out
            rw [hkk, List.take_length] at hr2
            have hlen : (packT ⟨ph, dn, ms, cs, gs⟩).length = r := by rw [HLP.out, hr2, HQ1.out, HLB.out]; omega
            have HLEN := Lib.hid hlen; clear hlen hr2 hkk hr
            have XW := Lib.hid (HXW.out.trans (X2.out.trans hext2))
            have p1 := fun W (hW : Ext wr W) => txn_pack ⟨ph, dn, ms, cs, gs⟩ am ac ag cm cc cg W ((HM.out.ext XW.out).ext hW) ((HC.out.ext XW.out).ext hW) ((HG.out.ext XW.out).ext hW) HL.out
            have p2 := fun W (hW : Ext wr W) => txn_pack ⟨x, y, ms, cs, gs⟩ am ac ag cm cc cg W ((HM.out.ext XW.out).ext hW) ((HC.out.ext XW.out).ext hW) ((HG.out.ext XW.out).ext hW) (by rw [HL2.out]; exact HL.out)
            unfold PackR at p1 p2
            rw [HLEN.out] at p1
            rw [HL2.out, HLEN.out] at p2
            have P1 := Lib.hid p1; clear p1
            have P2 := Lib.hid p2; clear p2
            have e2 := X2.out.trans hext2
            have v0 := e2.cell u0
            have v1 := e2.cell u1
            have v2 := e2.cell u2
            have v3 := e2.cell u3
            have v4 := e2.cell u4
            have E2 := Lib.hid e2; clear e2
            go_wp2_with fail
            refine (P1.out _ (Ext.refl _)).mono ?_
            rintro e w5 ⟨a5, c5, rfl, _, hx5⟩
            have d0 := hx5.cell (E2.out.cell c0)
            have d1 := hx5.cell (E2.out.cell c1)
            have d2 := hx5.cell (E2.out.cell c2)
            have d3 := hx5.cell (E2.out.cell c3)
            have d4 := hx5.cell (E2.out.cell c4)
            go_wp2_with fail
            refine (P2.out _ hx5).mono ?_
            rintro e w6 ⟨a6, c6, rfl, _, hx6⟩
            go_wp2_with fail
            go_ret
            exact ⟨rfl, XW.out.trans (hx5.trans hx6)⟩
  · go_wp2_with fail
    all_goals first | (exfalso; omega) | skip
    all_goals go_ret
    all_goals exact ⟨rfl, (Ext.alloc _ _).trans hx1⟩
end Go.Proofs.YtedfpoidggpkdaaDoor
