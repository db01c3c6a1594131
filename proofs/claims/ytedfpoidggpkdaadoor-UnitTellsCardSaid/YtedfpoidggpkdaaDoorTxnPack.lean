/- (txn.Txn).Pack: an upgrade's bytes. -/
import Derived.Test.YtedfpoidggpkdaaDoorParts
import Derived.Test.YtedfpoidggpkdaaDoorTxnSpec
import Derived.Deep.RegionHeld3
namespace Go.Proofs.YtedfpoidggpkdaaDoor
open Go.RowKit
/-- A slice of moves. -/
def Moves (w : World) (a : Option Addr) (L : List (Int × List UInt8)) : Prop :=
  L = [] ∨ ∃ g off, a = some ⟨g, off, none⟩ ∧ g < w.heap.size ∧ ∀ i, i < L.length → w.cell? ⟨g, off + i * 2, none⟩ = some (.int .i64 (L.getD i (0, [])).1) ∧ w.cell? ⟨g, off + i * 2 + 1, none⟩ = some (.string (bs (L.getD i (0, [])).2))
theorem Moves.ext {w w' : World} {a : Option Addr} {L} (h : Moves w a L) (k : Ext w w') : Moves w' a L := by
  rcases h with h | ⟨g, off, ha, hg, hc⟩
  · exact Or.inl h
  · exact Or.inr ⟨g, off, ha, Nat.lt_of_lt_of_le hg k.size, fun i hi => ⟨k.cell (hc i hi).1, k.cell (hc i hi).2⟩⟩
theorem mv_take {ms : List (Int × List UInt8)} {k : Nat} (h : k < ms.length) : (ms.take (k + 1)).flatMap (fun m => [numI m.1, raw4 m.2]) = (ms.take k).flatMap (fun m => [numI m.1, raw4 m.2]) ++ [numI (ms.getD k (0, [])).1, raw4 (ms.getD k (0, [])).2] := by
  rw [List.take_succ_eq_append_getElem h, List.flatMap_append]
  simp [List.getD_eq_getElem?_getD, List.getElem?_eq_getElem h]
/-- A struct of an upgrade. -/
def txnV (t : TxnD) (am ac ag : Option Addr) (cm cc cg : Nat) : Value := .agg #[.int .i64 t.phase, .int .i64 t.done, .slice am t.moves.length cm, .slice ac t.come.length cc, .slice ag t.gone.length cg]
set_option maxRecDepth 100000 in
set_option maxHeartbeats 3200000 in
theorem txn_pack (t : TxnD) (am ac ag : Option Addr) (cm cc cg : Nat) (w : World) (hM : Moves w am t.moves) (hC : Strs w ac t.come) (hG : Strs w ag t.gone) (hl : (packT t).length ≤ 8388608) :
    Calls Tryd.prog 29 #[txnV t am ac ag cm cc cg] w (PackR (packT t) w) := by
  obtain ⟨ph, dn, ms, cs, gs⟩ := t
  unfold txnV
  obtain ⟨hml, hcl, hgl, hsum, hbm, hbc, hbg⟩ := packT_bounds hl
  simp only at hml hcl hgl hsum hbm hbc hbg
  have HBM := Lib.hid hbm; clear hbm
  have HBC := Lib.hid hbc; clear hbc
  have HBG := Lib.hid hbg; clear hbg
  have HSUM := Lib.hid hsum; clear hsum
  have HM := Lib.hid hM; clear hM
  have HC := Lib.hid hC; clear hC
  have HG := Lib.hid hG; clear hG
  have HL := Lib.hid hl; clear hl
  go_enter Tryd.func29, Tryd.ntmps29
  go_wp2_with fail
  go_loopw [3, 15] (fun v i wr => ∃ (D : List (List UInt8)) (a2 : Option Addr) (cap k : Nat), v = .slice a2 D.length cap ∧ i = .int .i64 k ∧ k ≤ ms.length ∧ Hid (D = (ms.take k).flatMap (fun m => [numI m.1, raw4 m.2])) ∧ Hid (OwnP wr (w.heap.size + 1) a2 cap D) ∧ Ext (w.alloc (.cells #[.int .i64 ph, .int .i64 dn, .slice am ms.length cm, .slice ac cs.length cc, .slice ag gs.length cg] 38)) wr) (fun _ i _ => ms.length - (intOf i).toNat)
  case atStart => exact ⟨[], none, 0, 0, rfl, rfl, Nat.zero_le _, Lib.hid rfl, Lib.hid (OwnP.nil _ _), Ext.refl _⟩
  case round =>
    obtain ⟨D, a2, cap, k, rfl, rfl, hk, hD, hown, hext⟩ := hrel
    have hsz := hext.size
    rw [World.size_alloc] at hsz
    by_cases hlt : k < ms.length
    · have hmx := (HM.out.ext (Ext.alloc w _)).ext hext
      rcases hmx with h0 | ⟨g, off, rfl, _, hc⟩
      · rw [h0] at hlt; simp at hlt
      obtain ⟨h1, h2⟩ := hc k hlt
      clear hc
      obtain ⟨m, hm⟩ : ∃ m, m = ms.getD k (0, []) := ⟨_, rfl⟩
      rw [← hm] at h1 h2
      obtain ⟨mk, mp⟩ := m
      simp only at h1 h2
      have hmp : (bs mp).size ≤ 8388608 := by rw [bs_size]; exact HBM.out (mk, mp) (by rw [hm]; exact getD_mem' hlt)
      have HMM := Lib.hid hm; clear hm
      have hDn : D.length ≤ 16777216 := by rw [hD.out, mv_len, List.length_take]; omega
      go_wp2_with fail
      go_region_held3 (fun w' => w'.cell? ⟨wr.heap.size, 0, none⟩ = some (.int .i64 mk) ∧ w'.cell? ⟨wr.heap.size, 1, none⟩ = some (.string (bs mp)))
        (first | go_keep | exact HC1.out | exact HC2.out | exact HC3.out)
        (first
          | (go_at_call 55; refine (rec_num _ _).mono ?_; rintro e w1 ⟨a1, c1, rfl, hown1, hx1⟩; have hwx : Ext wr w1 := ((Ext.alloc _ _).drew).trans hx1; have H1 := Lib.hid hown1; clear hown1; have HC1 := Lib.hid (And.intro (hx1.cell (cell_new wr _ _ 0 _ rfl)) (hx1.cell (cell_new wr _ _ 1 _ rfl))))
          | (go_at_call 56; refine (rec_text _ (by omega) _).mono ?_; rintro e w2 ⟨b2, c2, rfl, hown2, hx2⟩; have hwy : Ext wr w2 := hwx.trans hx2; have H2 := Lib.hid hown2; clear hown2; have hps := part_two hown.out ((Ext.alloc _ _).drew) H1.out hx1 H2.out hx2; have HPS := Lib.hid hps; clear hps; have HC2 := Lib.hid (And.intro (hx2.cell HC1.out.1) (hx2.cell HC1.out.2)))
          | (refine step_append_parts (by rfl) _ _ (by rfl) (w.heap.size + 1) a2 cap D (by rfl) ((hown.out.ext hwy).ext (Ext.alloc _ _)) [.slice a1 (numI mk).length c1, .slice b2 (raw4 (bs mp).data.toList).length c2] [numI mk, raw4 (bs mp).data.toList] w2.heap.size 2 (by rfl) (by rfl) (heap_alloc_new w2 _) (HPS.out.keep (Keep.of_ext (Ext.alloc _ _))) (by omega) (by omega) ?_ ?_; (have hs3 := hwy.size; simp; omega); intro g1 cap1 w3 hown3 hk3 hb3; have HC3 := Lib.hid (And.intro (hk3.cell (hown.out.old (Nat.le_refl _) _ (Nat.le_refl _)) ((Ext.alloc w2 _).cell HC2.out.1)) (hk3.cell (hown.out.old (Nat.le_refl _) _ (Nat.le_refl _)) ((Ext.alloc w2 _).cell HC2.out.2)))))
      go_wp2_with fail
      go_roundw
      case rel => exact ⟨D ++ [numI mk, raw4 (bs mp).data.toList], some ⟨g1, 0, none⟩, cap1, k + 1, by simp, by go_num, by omega, Lib.hid (by rw [hD.out, mv_take hlt, ← HMM.out, bs_data]), Lib.hid hown3, ext_below (World.size_alloc _ _) hext (hwy.trans (Ext.alloc w2 _)) hb3⟩
      case measure => simp [intOf]; omega
    · have hkk : k = ms.length := by omega
      have hD2 := hD.out
      rw [hkk, List.take_length] at hD2
      have HD := Lib.hid hD2; clear hD2 hkk hD
      have c0 := hext.cell (cell_new w _ _ 0 _ rfl)
      have c1 := hext.cell (cell_new w _ _ 1 _ rfl)
      have c3 := hext.cell (cell_new w _ _ 3 _ rfl)
      have c4 := hext.cell (cell_new w _ _ 4 _ rfl)
      have C0 := Lib.hid c0; clear c0
      have C1 := Lib.hid c1; clear c1
      have C4 := Lib.hid c4; clear c4
      have hDm : D.length ≤ 16777216 := by rw [HD.out, mv_len]; omega
      obtain ⟨wo, rfl⟩ : ∃ wo : World, wo = wr := ⟨_, rfl⟩
      go_wp2_with fail
      clear hk hlt
      go_loopw [4, 32] (fun v i wr => ∃ (E : List (List UInt8)) (a3 : Option Addr) (cap3 k : Nat), v = .slice a3 E.length cap3 ∧ i = .int .i64 k ∧ k ≤ cs.length ∧ Hid (E = (cs.take k).map raw4) ∧ Hid (OwnP wr wo.heap.size a3 cap3 E) ∧ Ext wo wr) (fun _ i _ => cs.length - (intOf i).toNat)
      case atStart => exact ⟨[], none, 0, 0, rfl, rfl, Nat.zero_le _, Lib.hid rfl, Lib.hid (OwnP.nil _ _), Ext.refl _⟩
      case round =>
        obtain ⟨E, a3, cap3, k, rfl, rfl, hk, hE, hown3, hext3⟩ := hrel
        have hsz := hext3.size
        by_cases hlt : k < cs.length
        · have hcx := ((HC.out.ext (Ext.alloc w _)).ext hext).ext hext3
          obtain ⟨g, off, rfl, _, hc⟩ := hcx.at (by intro e; rw [e] at hlt; simp at hlt)
          have h1 := hc k hlt
          clear hc hcx
          obtain ⟨p, hp⟩ : ∃ p, p = cs.getD k [] := ⟨_, rfl⟩
          rw [← hp] at h1
          have hmp : (bs p).size ≤ 8388608 := by rw [bs_size]; exact HBC.out p (by rw [hp]; exact getD_mem' hlt)
          have HP := Lib.hid hp; clear hp
          have hEn : E.length ≤ 16777216 := by rw [hE.out, List.length_map, List.length_take]; omega
          go_wp2_with (first
            | (go_at_call 56; refine (rec_text _ (by omega) _).mono ?_; rintro e w2 ⟨b2, c2, rfl, hown2, hx2⟩; have H2 := Lib.hid hown2; clear hown2; have hps := part_one hown3.out (Ext.refl _) H2.out; have HPS := Lib.hid hps; clear hps)
            | (at_builtin; refine append_parts rfl _ _ rfl wo.heap.size a3 cap3 E rfl ((hown3.out.ext hx2).ext (Ext.alloc _ _)) [.slice b2 (raw4 (bs p).data.toList).length c2] [raw4 (bs p).data.toList] w2.heap.size 1 rfl rfl (heap_alloc_new w2 _) (HPS.out.keep (Keep.of_ext (Ext.alloc _ _))) (by omega) (by omega) ?_ ?_; (have hs3 := hx2.size; simp; omega); intro g1 cap1 w3 hown4 hk3 hb3))
          go_roundw
          case rel => exact ⟨E ++ [raw4 (bs p).data.toList], some ⟨g1, 0, none⟩, cap1, k + 1, by simp, by go_num, by omega, Lib.hid (by rw [hE.out, List.take_succ_eq_append_getElem hlt, List.map_append, HP.out, bs_data]; simp [List.getD_eq_getElem?_getD, List.getElem?_eq_getElem hlt]), Lib.hid hown4, ext_below rfl hext3 (hx2.trans (Ext.alloc w2 _)) hb3⟩
          case measure => simp [intOf]; omega
        · have hkk : k = cs.length := by omega
          have hE2 := hE.out
          rw [hkk, List.take_length] at hE2
          have HE := Lib.hid hE2; clear hE2 hkk hE
          have HPE := Lib.hid hown3.out.parts; clear hown3
          have HX3 := Lib.hid hext3
          have c4 := hext3.cell C4.out
          have hEm : E.length ≤ 16777216 := by rw [HE.out, List.length_map]; omega
          obtain ⟨wp, rfl⟩ : ∃ wp : World, wp = wr := ⟨_, rfl⟩
          go_wp2_with fail
          clear hk hlt hsz
          go_loopw [5, 45] (fun v i wr => ∃ (F : List (List UInt8)) (a4 : Option Addr) (cap4 k : Nat), v = .slice a4 F.length cap4 ∧ i = .int .i64 k ∧ k ≤ gs.length ∧ Hid (F = (gs.take k).map raw4) ∧ Hid (OwnP wr wp.heap.size a4 cap4 F) ∧ Ext wp wr) (fun _ i _ => gs.length - (intOf i).toNat)
          case atStart => exact ⟨[], none, 0, 0, rfl, rfl, Nat.zero_le _, Lib.hid rfl, Lib.hid (OwnP.nil _ _), Ext.refl _⟩
          case round =>
            obtain ⟨F, a4, cap4, k, rfl, rfl, hk, hF, hown4, hext4⟩ := hrel
            have hsz := hext4.size
            by_cases hlt : k < gs.length
            · have hcx := (((HG.out.ext (Ext.alloc w _)).ext hext).ext HX3.out).ext hext4
              obtain ⟨g, off, rfl, _, hc⟩ := hcx.at (by intro e; rw [e] at hlt; simp at hlt)
              have h1 := hc k hlt
              clear hc hcx
              obtain ⟨p, hp⟩ : ∃ p, p = gs.getD k [] := ⟨_, rfl⟩
              rw [← hp] at h1
              have hmp : (bs p).size ≤ 8388608 := by rw [bs_size]; exact HBG.out p (by rw [hp]; exact getD_mem' hlt)
              have HP := Lib.hid hp; clear hp
              have hFn : F.length ≤ 16777216 := by rw [hF.out, List.length_map, List.length_take]; omega
              go_wp2_with (first
                | (go_at_call 56; refine (rec_text _ (by omega) _).mono ?_; rintro e w2 ⟨b2, c2, rfl, hown2, hx2⟩; have H2 := Lib.hid hown2; clear hown2; have hps := part_one hown4.out (Ext.refl _) H2.out; have HPS := Lib.hid hps; clear hps)
                | (at_builtin; refine append_parts rfl _ _ rfl wp.heap.size a4 cap4 F rfl ((hown4.out.ext hx2).ext (Ext.alloc _ _)) [.slice b2 (raw4 (bs p).data.toList).length c2] [raw4 (bs p).data.toList] w2.heap.size 1 rfl rfl (heap_alloc_new w2 _) (HPS.out.keep (Keep.of_ext (Ext.alloc _ _))) (by omega) (by omega) ?_ ?_; (have hs3 := hx2.size; simp; omega); intro g1 cap1 w3 hown5 hk3 hb3))
              go_roundw
              case rel => exact ⟨F ++ [raw4 (bs p).data.toList], some ⟨g1, 0, none⟩, cap1, k + 1, by simp, by go_num, by omega, Lib.hid (by rw [hF.out, List.take_succ_eq_append_getElem hlt, List.map_append, HP.out, bs_data]; simp [List.getD_eq_getElem?_getD, List.getElem?_eq_getElem hlt]), Lib.hid hown5, ext_below rfl hext4 (hx2.trans (Ext.alloc w2 _)) hb3⟩
              case measure => simp [intOf]; omega
            · have hkk : k = gs.length := by omega
              have hF2 := hF.out
              rw [hkk, List.take_length] at hF2
              have HF := Lib.hid hF2; clear hF2 hkk hF
              have HPF := Lib.hid hown4.out.parts; clear hown4
              have HPE2 := Lib.hid (HPE.out.ext hext4)
              have HPD := Lib.hid ((hown.out.parts.ext HX3.out).ext hext4)
              have d0 := hext4.cell (HX3.out.cell C0.out)
              have d1 := hext4.cell (HX3.out.cell C1.out)
              have hFm : F.length ≤ 16777216 := by rw [HF.out, List.length_map]; omega
              have eD : D.flatten = ms.flatMap moveB := by rw [HD.out, flat_mv]
              have eE : E.flatten = cs.flatMap raw4 := by rw [HE.out, flat_raw]
              have eF : F.flatten = gs.flatMap raw4 := by rw [HF.out, flat_raw]
              have hsum := HSUM.out
              have hDf : D.flatten.length ≤ 16777216 := by rw [eD]; omega
              have hEf : E.flatten.length ≤ 16777216 := by rw [eE]; omega
              have hFf : F.flatten.length ≤ 16777216 := by rw [eF]; omega
              have ePK : [numI ph, numI dn, raw4 D.flatten, raw4 E.flatten, raw4 F.flatten].flatten = packT ⟨ph, dn, ms, cs, gs⟩ := by rw [eD, eE, eF]; rfl
              have hPf : [numI ph, numI dn, raw4 D.flatten, raw4 E.flatten, raw4 F.flatten].flatten.length ≤ 16777216 := by rw [ePK]; have := HL.out; omega
              have EPK := Lib.hid ePK; clear ePK eD eE eF hsum
              have HX4 := Lib.hid (hext.trans (HX3.out.trans hext4))
              obtain ⟨wz, rfl⟩ : ∃ wz : World, wz = wr := ⟨_, rfl⟩
              go_wp2_with fail
              clear hk hlt hsz
              go_region_held3 (fun w' => w'.cell? ⟨w.heap.size, 0, none⟩ = some (.int .i64 ph) ∧ w'.cell? ⟨w.heap.size, 1, none⟩ = some (.int .i64 dn))
                (first | go_keep | exact K1.out | exact K2.out | exact K3.out | exact K4.out | exact K5.out | exact K6.out)
                (first
                  | (go_at_call_of 55 (Value.int .i64 ph); refine (rec_num _ _).mono ?_; rintro e w1 ⟨p1, q1, rfl, o1, x1⟩; have y1 : Ext wz w1 := (by first | exact x1 | exact (Ext.refl wz).drew.trans x1); have O1 := Lib.hid o1.bytes.1; clear o1; have K1 := Lib.hid (And.intro (y1.cell d0) (y1.cell d1)))
                  | (go_at_call_of 55 (Value.int .i64 dn); refine (rec_num _ _).mono ?_; rintro e w2 ⟨p2, q2, rfl, o2, x2⟩; have O2 := Lib.hid o2.bytes.1; clear o2; have K2 := Lib.hid (And.intro (x2.cell K1.out.1) (x2.cell K1.out.2)))
                  | (go_at_call_of 58 (Value.slice a2 D.length cap); refine (rec_list _ _ _ _ (HPD.out.ext (y1.trans x2)) (by omega) (by omega)).mono ?_; rintro e w3 ⟨p3, q3, rfl, o3, x3⟩; have O3 := Lib.hid o3.bytes.1; clear o3; have K3 := Lib.hid (And.intro (x3.cell K2.out.1) (x3.cell K2.out.2)))
                  | (go_at_call_of 58 (Value.slice a3 E.length cap3); refine (rec_list _ _ _ _ (HPE2.out.ext (y1.trans (x2.trans x3))) (by omega) (by omega)).mono ?_; rintro e w4 ⟨p4, q4, rfl, o4, x4⟩; have O4 := Lib.hid o4.bytes.1; clear o4; have K4 := Lib.hid (And.intro (x4.cell K3.out.1) (x4.cell K3.out.2)))
                  | (go_at_call_of 58 (Value.slice a4 F.length cap4); refine (rec_list _ _ _ _ (HPF.out.ext (y1.trans (x2.trans (x3.trans x4)))) (by omega) (by omega)).mono ?_; rintro e w5 ⟨p5, q5, rfl, o5, x5⟩; have O5 := Lib.hid o5.bytes.1; clear o5; have HPS := Lib.hid (parts_five (q1 := q1) (q2 := q2) (q3 := q3) (q4 := q4) (q5 := q5) (O1.out.ext (x2.trans (x3.trans (x4.trans x5)))) (O2.out.ext (x3.trans (x4.trans x5))) (O3.out.ext (x4.trans x5)) (O4.out.ext x5) O5.out); have K5 := Lib.hid (And.intro (x5.cell K4.out.1) (x5.cell K4.out.2)))
                  | (go_at_call 57; refine (rec_pack _ _ [numI ph, numI dn, raw4 D.flatten, raw4 E.flatten, raw4 F.flatten] _ HPS.out (by omega) (by simp)).mono ?_; rintro e w6 ⟨p6, q6, rfl, o6, x6⟩; have K6 := Lib.hid (And.intro (x6.cell ((Ext.alloc w5 _).cell K5.out.1)) (x6.cell ((Ext.alloc w5 _).cell K5.out.2)))))
              go_wp2_with fail
              go_ret
              have hxx := (Ext.alloc w _).trans (HX4.out.trans ((y1.trans (x2.trans (x3.trans (x4.trans (x5.trans (Ext.alloc w5 _)))))).trans x6))
              refine ⟨p6, q6, by rw [← EPK.out]; show Ending.returned (.slice p6 _ q6) = _; simp only [List.flatten_cons, List.flatten_nil, List.length_append, List.append_nil], ?_, hxx⟩
              rw [← EPK.out]
              refine o6.base ?_
              exact ((Ext.alloc w _).trans (HX4.out.trans (y1.trans (x2.trans (x3.trans (x4.trans (x5.trans (Ext.alloc w5 _)))))))).size
end Go.Proofs.YtedfpoidggpkdaaDoor
