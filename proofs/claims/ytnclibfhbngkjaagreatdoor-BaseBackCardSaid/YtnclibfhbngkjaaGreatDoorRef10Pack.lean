/- farrierref10.Pack: the document's bytes of a package. -/
import Derived.Test.YtnclibfhbngkjaaGreatDoorRef10Raw
import Derived.Test.YtnclibfhbngkjaaGreatDoorArcPack
import Derived.Outline
namespace Go.Proofs.YtnclibfhbngkjaaGreatDoor
open Go.RowKit
attribute [local go_sem] cvOp_eq
theorem flatm_take_le {α : Type} (f : α → By) (L : List α) (k : Nat) : ((L.take k).flatMap f).length ≤ (L.flatMap f).length := by
  conv => rhs; rw [← List.take_append_drop k L, List.flatMap_append, List.length_append]
  omega
theorem flat_succ {α : Type} (f : α → By) (L : List α) (k : Nat) (d : α) (h : k < L.length) : (L.take (k + 1)).flatMap f = (L.take k).flatMap f ++ f (L.getD k d) := by
  rw [List.take_succ_eq_append_getElem h, List.flatMap_append]
  simp [List.getD_eq_getElem?_getD, List.getElem?_eq_getElem h]
theorem numI_nat (n : Nat) (h : n < 4294967296) : numI (n : Int) = num4 n := by unfold numI; rw [u32_of h]
theorem len_app {D : By} {m : Nat} (p : By) (h : D.length = m) : (D ++ p).length = m + p.length := by rw [List.length_append, h]
set_option maxRecDepth 100000 in
set_option maxHeartbeats 6400000 in
theorem pack10 (p : PkgD) (an ac af au : Option Addr) (cn cc cf cu : Nat) (w : World) (hM : PkgM w p ⟨an, ac, af, au, cn, cc, cf, cu⟩) (hS : FitP p) (hW : ∀ n ∈ p.needs, 0 ≤ n.way ∧ n.way < 4294967296) :
    Calls Tryz.prog 45 #[.agg #[.string (bs p.name), .string (bs p.ver), .slice an p.needs.length cn, .slice ac p.conf.length cc, .slice af p.files.length cf, .slice au p.units.length cu]] w (PackR (packP p) w) := by
  obtain ⟨R, hR⟩ : ∃ R, R = PackR (packP p) w := ⟨_, rfl⟩
  rw [← hR]
  have HR := Lib.hid hR; clear hR
  have HM := Lib.hid hM; clear hM
  obtain ⟨s0, sN, sC, sF, sU⟩ := small_lens hS
  have hnn := hS.nn
  have hnc := hS.nc
  have hnf := hS.nf
  have hnu := hS.nu
  have hnm := hS.name
  have hnv := hS.ver
  have HS := Lib.hid hS; clear hS
  have HW := Lib.hid hW; clear hW
  have hbx := heap_alloc_new w (.cells #[.string (bs p.name), .string (bs p.ver), .slice an p.needs.length cn, .slice ac p.conf.length cc, .slice af p.files.length cf, .slice au p.units.length cu] 93)
  have hx1 : Ext w (w.alloc (.cells #[.string (bs p.name), .string (bs p.ver), .slice an p.needs.length cn, .slice ac p.conf.length cc, .slice af p.files.length cf, .slice au p.units.length cu] 93)) := Ext.alloc _ _
  have HBX := Lib.hid hbx; clear hbx
  have HX1 := Lib.hid hx1; clear hx1
  go_enter Tryz.func45, Tryz.ntmps45
  go_upto_region 1 with (fail)
  generalize w.alloc (.cells #[.string (bs p.name), .string (bs p.ver), .slice an p.needs.length cn, .slice ac p.conf.length cc, .slice af p.files.length cf, .slice au p.units.length cu] 93) = w1 at HBX HX1 ⊢
  obtain ⟨B, hB⟩ : ∃ B, B = w.heap.size := ⟨_, rfl⟩
  rw [← hB] at HBX ⊢
  have HBn := Lib.hid hB; clear hB
  go_wp2_with fail
  go_loopw [3, 4] (fun v i wr => ∃ (D : By) (g cap k m : Nat), v = .slice (some ⟨g, 0, none⟩) m cap ∧ i = .int .i64 k ∧ k ≤ p.needs.length ∧ m ≤ 100000 ∧ Hid (D.length = m) ∧ Hid (D = (p.needs.take k).flatMap needB) ∧ Hid (OwnB wr w1.heap.size (some ⟨g, 0, none⟩) cap D) ∧ Hid (Ext w1 wr)) (fun _ i _ => p.needs.length - (intOf i).toNat)
  case atStart => exact ⟨[], w1.heap.size, 0, 0, 0, rfl, rfl, Nat.zero_le _, by omega, Lib.hid rfl, Lib.hid rfl, Lib.hid ⟨rfl, Or.inr ⟨w1.heap.size, 0, #[], rfl, Nat.le_refl _, heap_alloc_new w1 _, Nat.le_refl _, by unfold maxLen; omega, rfl, rfl⟩⟩, Lib.hid (Ext.alloc _ _)⟩
  case round =>
    obtain ⟨D, g, cap, k, m, rfl, rfl, hk, hm, HDm, hD, HO, HC⟩ := hrel
    have hb2 := blk_cell (HC.out.heap HBX.out) 2 _ rfl
    by_cases hlt : k < p.needs.length
    · obtain ⟨gN, off, rfl, _, h1, h2, h3⟩ := (HM.out.needs.ext HX1.out).at hlt
      have hsm := HS.out.needs _ (getD_memN hlt)
      have hwy := HW.out _ (getD_memN hlt)
      obtain ⟨q, hq⟩ : ∃ q, q = p.needs.getD k nz := ⟨_, rfl⟩
      rw [← hq] at h1 h2 h3 hsm hwy
      obtain ⟨mn, mk, mv⟩ := q
      simp only at h1 h2 h3 hsm hwy
      obtain ⟨hs1, hs2⟩ := hsm
      obtain ⟨wn, hwn⟩ : ∃ n : Nat, mk = (n : Int) := ⟨mk.toNat, by omega⟩
      subst hwn
      have hwn2 : wn < 4294967296 := by omega
      have hDn : ((p.needs.take (k + 1)).flatMap needB).length ≤ 100000 := Nat.le_trans (flatm_take_le _ _ _) sN
      have hD2 : (p.needs.take (k + 1)).flatMap needB = D ++ (raw4 mn ++ (num4 wn ++ raw4 mv)) := by
        rw [flat_succ needB _ _ nz hlt, ← hq, hD.out]
        simp only [needB, numI_nat wn hwn2]
      rw [hD2] at hDn
      have HD2 := Lib.hid hD2; clear hD2
      have hlen : m + ((raw4 mn).length + ((num4 wn).length + (raw4 mv).length)) ≤ 100000 := by
        simp only [List.length_append, HDm.out] at hDn; exact hDn
      clear hDn hq hwy
      have hp1 : 0 < (raw4 mn).length := by rw [raw4_len]; omega
      have hp2 : 0 < (num4 wn).length := by rw [num4_len]; omega
      have hp3 : 0 < (raw4 mv).length := by rw [raw4_len]; omega
      have hSN : ∀ W, Ext w1 W → W.cell? ⟨B, 2, none⟩ = some (.slice (some ⟨gN, off, none⟩) p.needs.length cn) ∧ W.cell? ⟨gN, off + k * 3, none⟩ = some (.string (bs mn)) ∧ W.cell? ⟨gN, off + k * 3 + 1, none⟩ = some (.int .i64 wn) ∧ W.cell? ⟨gN, off + k * 3 + 2, none⟩ = some (.string (bs mv)) :=
        fun W hW => ⟨blk_cell (hW.heap HBX.out) 2 _ rfl, hW.cell h1, hW.cell h2, hW.cell h3⟩
      have HSN := Lib.hid hSN; clear hSN h1 h2 h3
      have hi0 : (0 : Int) ≤ (k : Int) := by omega
      have hi1 : (k : Int) < (p.needs.length : Int) := by omega
      go_wp2_with fail
      have HBND := Lib.hid (And.intro s0 (And.intro sN (And.intro sC (And.intro sF (And.intro sU (And.intro hnn (And.intro hnc (And.intro hnf (And.intro hnu (And.intro hnm hnv))))))))))
      clear hb2 s0 sN sC sF sU hnc hnf hnu hnm hnv
      replace HC := Lib.hid (HC.out.drew)
      replace HO : Hid (OwnB wr.drew w1.heap.size (some ⟨g, 0, none⟩) cap D) := HO
      simp only [cv_text]
      go_region_held3 (fun W => W.cell? ⟨B, 2, none⟩ = some (.slice (some ⟨gN, off, none⟩) p.needs.length cn) ∧ W.cell? ⟨gN, off + k * 3, none⟩ = some (.string (bs mn)) ∧ W.cell? ⟨gN, off + k * 3 + 1, none⟩ = some (.int .i64 wn) ∧ W.cell? ⟨gN, off + k * 3 + 2, none⟩ = some (.string (bs mv)))
        (first | exact HSN.out _ HC.out)
        (first
          | ((with_reducible refine upon_conv mn ?_); intro g28 c28 w28 hg28 hv28 hx28; clear hg28; replace HC := Lib.hid (HC.out.trans hx28); replace HO := Lib.hid (HO.out.ext hx28); (try replace HV45 := Lib.hid (HV45.out.ext hx28)); (try replace HB29 := Lib.hid (HB29.out.ext hx28)); (try replace HB37 := Lib.hid (HB37.out.ext hx28)); have HV28 := Lib.hid hv28; clear hv28 hx28)
          | ((with_reducible refine upon_conv mv ?_); intro g45 c45 w45 hg45 hv45 hx45; clear hg45; replace HC := Lib.hid (HC.out.trans hx45); replace HO := Lib.hid (HO.out.ext hx45); (try replace HV28 := Lib.hid (HV28.out.ext hx45)); (try replace HB29 := Lib.hid (HB29.out.ext hx45)); (try replace HB37 := Lib.hid (HB37.out.ext hx45)); have HV45 := Lib.hid hv45; clear hv45 hx45)
          | (go_at_call_of 74 (Value.slice (some ⟨g28, 0, none⟩) mn.length c28); refine (raw10 (some ⟨g28, 0, none⟩) c28 _ mn _ rfl (by obtain ⟨_, _, _, hz⟩ := HV28.out; exact hz) (by omega)).mono ?_; rintro e w29 ⟨a29, q29, rfl, ho29, hx29⟩; replace HC := Lib.hid (HC.out.trans hx29); replace HO := Lib.hid (HO.out.ext hx29); (try replace HV28 := Lib.hid (HV28.out.ext hx29)); (try replace HV45 := Lib.hid (HV45.out.ext hx29)); have HB29 := Lib.hid ho29.bytes.1; clear ho29 hx29)
          | ((with_reducible refine at_app (.tmp 21) (.tmp 29) ?_); refine step_app (by rfl) (.tmp 21) (.tmp 29) (by rfl) w1.heap.size (some ⟨g, 0, none⟩) cap D (raw4 mn) m _ HDm.out rfl (by rfl) HO.out a29 q29 (by rfl) HB29.out (by omega) (by omega) HC.out.size ?_; intro g30 q30 w30 ho30 hk30 hb30; (try replace HV45 := Lib.hid (HV45.out.keep HO.out HDm.out hk30)); replace HC := Lib.hid (Ext.of_below' HC.out hb30); replace HO := Lib.hid ho30; replace HDm := Lib.hid (len_app (raw4 mn) HDm.out); clear ho30 hk30 hb30)
          | (go_at_call 75; refine (num10 wn (by omega) _).mono ?_; rintro e w37 ⟨a37, q37, rfl, ho37, hx37⟩; replace HC := Lib.hid (HC.out.trans hx37); replace HO := Lib.hid (HO.out.ext hx37); (try replace HV45 := Lib.hid (HV45.out.ext hx37)); have HB37 := Lib.hid ho37.bytes.1; clear ho37 hx37)
          | ((with_reducible refine at_app (.tmp 30) (.tmp 37) ?_); refine step_app (by rfl) (.tmp 30) (.tmp 37) (by rfl) w1.heap.size (some ⟨g30, 0, none⟩) q30 (D ++ raw4 mn) (num4 wn) _ _ HDm.out rfl (by rfl) HO.out a37 q37 (by rfl) HB37.out (by omega) (by omega) HC.out.size ?_; intro g38 q38 w38 ho38 hk38 hb38; (try replace HV45 := Lib.hid (HV45.out.keep HO.out HDm.out hk38)); replace HC := Lib.hid (Ext.of_below' HC.out hb38); replace HO := Lib.hid ho38; replace HDm := Lib.hid (len_app (num4 wn) HDm.out); clear ho38 hk38 hb38)
          | (go_at_call_of 74 (Value.slice (some ⟨g45, 0, none⟩) mv.length c45); refine (raw10 (some ⟨g45, 0, none⟩) c45 _ mv _ rfl (by obtain ⟨_, _, _, hz⟩ := HV45.out; exact hz) (by omega)).mono ?_; rintro e w46 ⟨a46, q46, rfl, ho46, hx46⟩; replace HC := Lib.hid (HC.out.trans hx46); replace HO := Lib.hid (HO.out.ext hx46); (try replace HV45 := Lib.hid (HV45.out.ext hx46)); have HB46 := Lib.hid ho46.bytes.1; clear ho46 hx46)
          | ((with_reducible refine at_app (.tmp 38) (.tmp 46) ?_); refine step_app (by rfl) (.tmp 38) (.tmp 46) (by rfl) w1.heap.size (some ⟨g38, 0, none⟩) q38 ((D ++ raw4 mn) ++ num4 wn) (raw4 mv) _ _ HDm.out rfl (by rfl) HO.out a46 q46 (by rfl) HB46.out (by omega) (by omega) HC.out.size ?_; intro g47 q47 w47 ho47 hk47 hb47; replace HC := Lib.hid (Ext.of_below' HC.out hb47); replace HO := Lib.hid ho47; replace HDm := Lib.hid (len_app (raw4 mv) HDm.out); clear ho47 hk47 hb47)
          | fail)
      all_goals (
        go_wp2_with fail
        go_roundw
        case rel => exact ⟨((D ++ raw4 mn) ++ num4 wn) ++ raw4 mv, g47, q47, k + 1, m + (raw4 mn).length + (num4 wn).length + (raw4 mv).length, rfl, by go_num, by omega, by omega, HDm, Lib.hid (by rw [HD2.out]; simp), HO, HC⟩
        case measure => simp [intOf]; omega)
    · have hkk : k = p.needs.length := by omega
      have hD2 := hD.out
      rw [hkk, List.take_length] at hD2
      subst hD2
      have HB1 := Lib.hid HO.out.bytes.1
      have HL1 := HDm
      have hm1 := hm
      clear hkk hD HDm HO
      obtain ⟨g1, hg1⟩ : ∃ x, x = g := ⟨_, rfl⟩
      obtain ⟨m1, hm1e⟩ : ∃ x, x = m := ⟨_, rfl⟩
      obtain ⟨cap1, hc1e⟩ : ∃ x, x = cap := ⟨_, rfl⟩
      rw [← hg1] at HB1 ⊢
      rw [← hm1e] at HL1 hm1 ⊢
      rw [← hc1e] at ⊢
      clear hg1 hm1e hc1e hm
      obtain ⟨w2, hwn⟩ : ∃ x : World, x = wr := ⟨_, rfl⟩
      rw [← hwn] at HB1 HC hb2 ⊢
      clear hwn
      have HXw2 := Lib.hid (HX1.out.trans HC.out)
      have HYw2 := Lib.hid (HC.out.heap HBX.out)
      clear HC
      go_wp2_with fail
      clear hb2 hk hlt
      go_loopw [5, 6] (fun v i wr => ∃ (D : By) (g cap k m : Nat), v = .slice (some ⟨g, 0, none⟩) m cap ∧ i = .int .i64 k ∧ k ≤ p.conf.length ∧ m ≤ 100000 ∧ Hid (D.length = m) ∧ Hid (D = (p.conf.take k).flatMap raw4) ∧ Hid (OwnB wr w2.heap.size (some ⟨g, 0, none⟩) cap D) ∧ Hid (Ext w2 wr)) (fun _ i _ => p.conf.length - (intOf i).toNat)
      case atStart => exact ⟨[], w2.heap.size, 0, 0, 0, rfl, rfl, Nat.zero_le _, by omega, Lib.hid rfl, Lib.hid rfl, Lib.hid ⟨rfl, Or.inr ⟨w2.heap.size, 0, #[], rfl, Nat.le_refl _, heap_alloc_new w2 _, Nat.le_refl _, by unfold maxLen; omega, rfl, rfl⟩⟩, Lib.hid (Ext.alloc _ _)⟩
      case round =>
        obtain ⟨D, g, cap, k, m, rfl, rfl, hk, hm, HDm, hD, HO, HC⟩ := hrel
        have hb2 := blk_cell (HC.out.heap HYw2.out) 3 _ rfl
        by_cases hlt : k < p.conf.length
        · obtain ⟨gN, off, rfl, _, hcl⟩ := (HM.out.conf.ext HXw2.out).at (by intro e; rw [e] at hlt; simp at hlt)
          have h1 := HC.out.cell (hcl k hlt)
          clear hcl
          have hsm := HS.out.conf _ (getD_memB hlt)
          obtain ⟨q, hq⟩ : ∃ q, q = p.conf.getD k [] := ⟨_, rfl⟩
          rw [← hq] at h1 hsm
          have hDn : ((p.conf.take (k + 1)).flatMap raw4).length ≤ 100000 := Nat.le_trans (flatm_take_le _ _ _) sC
          have hD2 : (p.conf.take (k + 1)).flatMap raw4 = D ++ raw4 q := by rw [flat_succ raw4 _ _ [] hlt, ← hq, hD.out]
          rw [hD2] at hDn
          have HD2 := Lib.hid hD2; clear hD2 hq
          have hlen : m + (raw4 q).length ≤ 100000 := by simp only [List.length_append, HDm.out] at hDn; exact hDn
          have hp1 : 0 < (raw4 q).length := by rw [raw4_len]; omega
          clear hDn
          go_wp2_with (first
            | ((with_reducible refine upon_conv q ?_); intro gv cv wv hgv hvv hxv; clear hgv; replace HC := Lib.hid (HC.out.trans hxv); replace HO := Lib.hid (HO.out.ext hxv); have HV := Lib.hid hvv; clear hvv hxv)
            | (go_at_call 74; refine (raw10 (some ⟨gv, 0, none⟩) cv _ q _ rfl (by obtain ⟨_, _, _, hz⟩ := HV.out; exact hz) (by omega)).mono ?_; rintro e wx ⟨ax, qx, rfl, hox, hxx⟩; replace HC := Lib.hid (HC.out.trans hxx); replace HO := Lib.hid (HO.out.ext hxx); have HBx := Lib.hid hox.bytes.1; clear hox hxx HV)
            | (at_builtin; refine append_bytes rfl (.tmp 56) (.tmp 63) 74 rfl Tryz.underlying74 w2.heap.size (some ⟨g, 0, none⟩) cap D (raw4 q) m (raw4 q).length HDm.out rfl rfl HO.out ax qx rfl HBx.out (by omega) HC.out.size ?_; intro gy qy wy hoy hby; replace HC := Lib.hid (Ext.of_below' HC.out hby); have HO2 := Lib.hid hoy; clear hoy hby HO))
          obtain ⟨gz, rfl⟩ := HO2.out.at_pos (by rw [List.length_append]; omega)
          go_roundw
          case rel => exact ⟨D ++ raw4 q, gz, qy, k + 1, m + (raw4 q).length, rfl, by go_num, by omega, by omega, Lib.hid (len_app (raw4 q) HDm.out), Lib.hid HD2.out.symm, HO2, HC⟩
          case measure => simp [intOf]; omega
        · have hkk : k = p.conf.length := by omega
          have hD2 := hD.out
          rw [hkk, List.take_length] at hD2
          subst hD2
          have HB2 := Lib.hid HO.out.bytes.1
          have HL2 := HDm
          have hm2 := hm
          clear hkk hD HDm HO
          obtain ⟨g2, hg2⟩ : ∃ x, x = g := ⟨_, rfl⟩
          obtain ⟨m2, hm2e⟩ : ∃ x, x = m := ⟨_, rfl⟩
          obtain ⟨cap2, hc2e⟩ : ∃ x, x = cap := ⟨_, rfl⟩
          rw [← hg2] at HB2 ⊢
          rw [← hm2e] at HL2 hm2 ⊢
          rw [← hc2e] at ⊢
          clear hg2 hm2e hc2e hm
          obtain ⟨w3, hwn⟩ : ∃ x : World, x = wr := ⟨_, rfl⟩
          rw [← hwn] at HB2 HC hb2 ⊢
          clear hwn
          have HXw3 := Lib.hid (HXw2.out.trans HC.out)
          have HYw3 := Lib.hid (HC.out.heap HYw2.out)
          replace HB1 := Lib.hid (HB1.out.ext HC.out)
          clear HC
          go_wp2_with fail
          clear hb2 hk hlt
          go_loopw [7, 8] (fun v i wr => ∃ (D : By) (g cap k m : Nat), v = .slice (some ⟨g, 0, none⟩) m cap ∧ i = .int .i64 k ∧ k ≤ p.files.length ∧ m ≤ 100000 ∧ Hid (D.length = m) ∧ Hid (D = (p.files.take k).flatMap fileB) ∧ Hid (OwnB wr w3.heap.size (some ⟨g, 0, none⟩) cap D) ∧ Hid (Ext w3 wr)) (fun _ i _ => p.files.length - (intOf i).toNat)
          case atStart => exact ⟨[], w3.heap.size, 0, 0, 0, rfl, rfl, Nat.zero_le _, by omega, Lib.hid rfl, Lib.hid rfl, Lib.hid ⟨rfl, Or.inr ⟨w3.heap.size, 0, #[], rfl, Nat.le_refl _, heap_alloc_new w3 _, Nat.le_refl _, by unfold maxLen; omega, rfl, rfl⟩⟩, Lib.hid (Ext.alloc _ _)⟩
          case round =>
            obtain ⟨D, g, cap, k, m, rfl, rfl, hk, hm, HDm, hD, HO, HC⟩ := hrel
            have hb2 := blk_cell (HC.out.heap HYw3.out) 4 _ rfl
            by_cases hlt : k < p.files.length
            · obtain ⟨gN, off, rfl, _, hfa⟩ := (HM.out.files.ext HXw3.out).at hlt
              have hsm := HS.out.files _ (getD_memF hlt)
              obtain ⟨q, hq⟩ : ∃ q, q = p.files.getD k fz := ⟨_, rfl⟩
              rw [← hq] at hfa hsm
              obtain ⟨fp, fb, fx⟩ := q
              obtain ⟨h1, h2, fd, fc, h3, _, hfd⟩ := hfa
              have HFD := Lib.hid hfd; clear hfd
              simp only at h1 h2 h3 hsm
              obtain ⟨hs1, hs2⟩ := hsm
              have hDn : ((p.files.take (k + 1)).flatMap fileB).length ≤ 100000 := Nat.le_trans (flatm_take_le _ _ _) sF
              have hD2 : (p.files.take (k + 1)).flatMap fileB = D ++ (raw4 fp ++ (num4 (boolN fb) ++ raw4 fx)) := by
                rw [flat_succ fileB _ _ fz hlt, ← hq, hD.out]; rfl
              rw [hD2] at hDn
              have HD2 := Lib.hid hD2; clear hD2
              have hlen : m + ((raw4 fp).length + ((num4 (boolN fb)).length + (raw4 fx).length)) ≤ 100000 := by
                simp only [List.length_append, HDm.out] at hDn; exact hDn
              clear hDn hq
              have hp1 : 0 < (raw4 fp).length := by rw [raw4_len]; omega
              have hp2 : 0 < (num4 (boolN fb)).length := by rw [num4_len]; omega
              have hp3 : 0 < (raw4 fx).length := by rw [raw4_len]; omega
              have hbn : boolN fb < 4294967296 := by unfold boolN; split <;> omega
              have hSN : ∀ W, Ext w3 W → W.cell? ⟨B, 4, none⟩ = some (.slice (some ⟨gN, off, none⟩) p.files.length cf) ∧ W.cell? ⟨gN, off + k * 3, none⟩ = some (.string (bs fp)) ∧ W.cell? ⟨gN, off + k * 3 + 1, none⟩ = some (.bool fb) ∧ W.cell? ⟨gN, off + k * 3 + 2, none⟩ = some (.slice fd fx.length fc) :=
                fun W hW => ⟨blk_cell (hW.heap HYw3.out) 4 _ rfl, hW.cell h1, hW.cell h2, hW.cell h3⟩
              have HSN := Lib.hid hSN; clear hSN
              have h2w := HC.out.cell h2
              clear h1 h2 h3
              have hi0 : (0 : Int) ≤ (k : Int) := by omega
              have hi1 : (k : Int) < (p.files.length : Int) := by omega
              have HBND := Lib.hid (And.intro sF (And.intro sU (And.intro hnu (And.intro hnm hnv))))
              clear sF sU hnu hnm hnv
              obtain ⟨z, hz⟩ : ∃ z, z = boolN fb := ⟨_, rfl⟩
              rw [← hz] at HD2 hlen hp2 hbn
              have hfb : (fb = false ∧ z = 0) ∨ (fb = true ∧ z = 1) := by cases hfb : fb <;> rw [hfb] at hz <;> simp [hz, boolN]
              clear hz
              rcases hfb with ⟨rfl, rfl⟩ | ⟨rfl, rfl⟩
              · have hzz : (0 : Nat) < 4294967296 := by omega
                go_wp2_with fail
                clear hb2 h2w
                replace HC := Lib.hid (HC.out.drew)
                replace HO : Hid (OwnB wr.drew w3.heap.size (some ⟨g, 0, none⟩) cap D) := HO
                simp only [cv_text]
                go_region_held3 (fun W => W.cell? ⟨B, 4, none⟩ = some (.slice (some ⟨gN, off, none⟩) p.files.length cf) ∧ W.cell? ⟨gN, off + k * 3, none⟩ = some (.string (bs fp)) ∧ W.cell? ⟨gN, off + k * 3 + 1, none⟩ = some (.bool false) ∧ W.cell? ⟨gN, off + k * 3 + 2, none⟩ = some (.slice fd fx.length fc))
                  (first | exact HSN.out _ HC.out)
                  (first
          | ((with_reducible refine upon_conv fp ?_); intro g86 c86 w86 hg86 hv86 hx86; clear hg86; replace HC := Lib.hid (HC.out.trans hx86); replace HO := Lib.hid (HO.out.ext hx86); have HV86 := Lib.hid hv86; clear hv86 hx86)
          | (go_at_call_of 74 (Value.slice (some ⟨g86, 0, none⟩) fp.length c86); refine (raw10 (some ⟨g86, 0, none⟩) c86 _ fp _ rfl (by obtain ⟨_, _, _, hz⟩ := HV86.out; exact hz) (by omega)).mono ?_; rintro e w87 ⟨a87, q87, rfl, ho87, hx87⟩; replace HC := Lib.hid (HC.out.trans hx87); replace HO := Lib.hid (HO.out.ext hx87); have HB87 := Lib.hid ho87.bytes.1; clear ho87 hx87)
          | ((with_reducible refine at_app (.tmp 79) (.tmp 87) ?_); refine step_app (by rfl) (.tmp 79) (.tmp 87) (by rfl) w3.heap.size (some ⟨g, 0, none⟩) cap D (raw4 fp) m _ HDm.out rfl (by rfl) HO.out a87 q87 (by rfl) HB87.out (by omega) (by omega) HC.out.size ?_; intro g88 q88 w88 ho88 hk88 hb88; replace HC := Lib.hid (Ext.of_below' HC.out hb88); replace HO := Lib.hid ho88; replace HDm := Lib.hid (len_app (raw4 fp) HDm.out); clear ho88 hk88 hb88)
          | (go_at_call 75; refine (num10 0 (by omega) _).mono ?_; rintro e w90 ⟨a90, q90, rfl, ho90, hx90⟩; replace HC := Lib.hid (HC.out.trans hx90); replace HO := Lib.hid (HO.out.ext hx90); have HB90 := Lib.hid ho90.bytes.1; clear ho90 hx90)
          | ((with_reducible refine at_app (.tmp 88) (.tmp 90) ?_); refine step_app (by rfl) (.tmp 88) (.tmp 90) (by rfl) w3.heap.size (some ⟨g88, 0, none⟩) q88 (D ++ raw4 fp) (num4 0) _ _ HDm.out rfl (by rfl) HO.out a90 q90 (by rfl) HB90.out (by omega) (by omega) HC.out.size ?_; intro g91 q91 w91 ho91 hk91 hb91; replace HC := Lib.hid (Ext.of_below' HC.out hb91); replace HO := Lib.hid ho91; replace HDm := Lib.hid (len_app (num4 0) HDm.out); clear ho91 hk91 hb91)
          | (go_at_call_of 74 (Value.slice fd fx.length fc); refine (raw10 fd fc _ fx _ rfl (HFD.out.ext HC.out) (by omega)).mono ?_; rintro e w98 ⟨a98, q98, rfl, ho98, hx98⟩; replace HC := Lib.hid (HC.out.trans hx98); replace HO := Lib.hid (HO.out.ext hx98); have HB98 := Lib.hid ho98.bytes.1; clear ho98 hx98)
          | ((with_reducible refine at_app (.tmp 91) (.tmp 98) ?_); refine step_app (by rfl) (.tmp 91) (.tmp 98) (by rfl) w3.heap.size (some ⟨g91, 0, none⟩) q91 ((D ++ raw4 fp) ++ num4 0) (raw4 fx) _ _ HDm.out rfl (by rfl) HO.out a98 q98 (by rfl) HB98.out (by omega) (by omega) HC.out.size ?_; intro g99 q99 w99 ho99 hk99 hb99; replace HC := Lib.hid (Ext.of_below' HC.out hb99); replace HO := Lib.hid ho99; replace HDm := Lib.hid (len_app (raw4 fx) HDm.out); clear ho99 hk99 hb99)
          | fail)
                all_goals (
                  go_wp2_with fail
                  go_roundw
                  case rel => exact ⟨((D ++ raw4 fp) ++ num4 0) ++ raw4 fx, g99, q99, k + 1, m + (raw4 fp).length + (num4 0).length + (raw4 fx).length, rfl, by go_num, by omega, by omega, HDm, Lib.hid (by rw [HD2.out]; simp), HO, HC⟩
                  case measure => simp [intOf]; omega)
              · have hzz : (1 : Nat) < 4294967296 := by omega
                go_wp2_with fail
                clear hb2 h2w
                replace HC := Lib.hid (HC.out.drew)
                replace HO : Hid (OwnB wr.drew w3.heap.size (some ⟨g, 0, none⟩) cap D) := HO
                simp only [cv_text]
                go_region_held3 (fun W => W.cell? ⟨B, 4, none⟩ = some (.slice (some ⟨gN, off, none⟩) p.files.length cf) ∧ W.cell? ⟨gN, off + k * 3, none⟩ = some (.string (bs fp)) ∧ W.cell? ⟨gN, off + k * 3 + 1, none⟩ = some (.bool true) ∧ W.cell? ⟨gN, off + k * 3 + 2, none⟩ = some (.slice fd fx.length fc))
                  (first | exact HSN.out _ HC.out)
                  (first
          | ((with_reducible refine upon_conv fp ?_); intro g86 c86 w86 hg86 hv86 hx86; clear hg86; replace HC := Lib.hid (HC.out.trans hx86); replace HO := Lib.hid (HO.out.ext hx86); have HV86 := Lib.hid hv86; clear hv86 hx86)
          | (go_at_call_of 74 (Value.slice (some ⟨g86, 0, none⟩) fp.length c86); refine (raw10 (some ⟨g86, 0, none⟩) c86 _ fp _ rfl (by obtain ⟨_, _, _, hz⟩ := HV86.out; exact hz) (by omega)).mono ?_; rintro e w87 ⟨a87, q87, rfl, ho87, hx87⟩; replace HC := Lib.hid (HC.out.trans hx87); replace HO := Lib.hid (HO.out.ext hx87); have HB87 := Lib.hid ho87.bytes.1; clear ho87 hx87)
          | ((with_reducible refine at_app (.tmp 79) (.tmp 87) ?_); refine step_app (by rfl) (.tmp 79) (.tmp 87) (by rfl) w3.heap.size (some ⟨g, 0, none⟩) cap D (raw4 fp) m _ HDm.out rfl (by rfl) HO.out a87 q87 (by rfl) HB87.out (by omega) (by omega) HC.out.size ?_; intro g88 q88 w88 ho88 hk88 hb88; replace HC := Lib.hid (Ext.of_below' HC.out hb88); replace HO := Lib.hid ho88; replace HDm := Lib.hid (len_app (raw4 fp) HDm.out); clear ho88 hk88 hb88)
          | (go_at_call 75; refine (num10 1 (by omega) _).mono ?_; rintro e w90 ⟨a90, q90, rfl, ho90, hx90⟩; replace HC := Lib.hid (HC.out.trans hx90); replace HO := Lib.hid (HO.out.ext hx90); have HB90 := Lib.hid ho90.bytes.1; clear ho90 hx90)
          | ((with_reducible refine at_app (.tmp 88) (.tmp 90) ?_); refine step_app (by rfl) (.tmp 88) (.tmp 90) (by rfl) w3.heap.size (some ⟨g88, 0, none⟩) q88 (D ++ raw4 fp) (num4 1) _ _ HDm.out rfl (by rfl) HO.out a90 q90 (by rfl) HB90.out (by omega) (by omega) HC.out.size ?_; intro g91 q91 w91 ho91 hk91 hb91; replace HC := Lib.hid (Ext.of_below' HC.out hb91); replace HO := Lib.hid ho91; replace HDm := Lib.hid (len_app (num4 1) HDm.out); clear ho91 hk91 hb91)
          | (go_at_call_of 74 (Value.slice fd fx.length fc); refine (raw10 fd fc _ fx _ rfl (HFD.out.ext HC.out) (by omega)).mono ?_; rintro e w98 ⟨a98, q98, rfl, ho98, hx98⟩; replace HC := Lib.hid (HC.out.trans hx98); replace HO := Lib.hid (HO.out.ext hx98); have HB98 := Lib.hid ho98.bytes.1; clear ho98 hx98)
          | ((with_reducible refine at_app (.tmp 91) (.tmp 98) ?_); refine step_app (by rfl) (.tmp 91) (.tmp 98) (by rfl) w3.heap.size (some ⟨g91, 0, none⟩) q91 ((D ++ raw4 fp) ++ num4 1) (raw4 fx) _ _ HDm.out rfl (by rfl) HO.out a98 q98 (by rfl) HB98.out (by omega) (by omega) HC.out.size ?_; intro g99 q99 w99 ho99 hk99 hb99; replace HC := Lib.hid (Ext.of_below' HC.out hb99); replace HO := Lib.hid ho99; replace HDm := Lib.hid (len_app (raw4 fx) HDm.out); clear ho99 hk99 hb99)
          | fail)
                all_goals (
                  go_wp2_with fail
                  go_roundw
                  case rel => exact ⟨((D ++ raw4 fp) ++ num4 1) ++ raw4 fx, g99, q99, k + 1, m + (raw4 fp).length + (num4 1).length + (raw4 fx).length, rfl, by go_num, by omega, by omega, HDm, Lib.hid (by rw [HD2.out]; simp), HO, HC⟩
                  case measure => simp [intOf]; omega)
            · have hkk : k = p.files.length := by omega
              have hD2 := hD.out
              rw [hkk, List.take_length] at hD2
              subst hD2
              have HB3 := Lib.hid HO.out.bytes.1
              have HL3 := HDm
              have hm3 := hm
              clear hkk hD HDm HO
              obtain ⟨g3, hg3⟩ : ∃ x, x = g := ⟨_, rfl⟩
              obtain ⟨m3, hm3e⟩ : ∃ x, x = m := ⟨_, rfl⟩
              obtain ⟨cap3, hc3e⟩ : ∃ x, x = cap := ⟨_, rfl⟩
              rw [← hg3] at HB3 ⊢
              rw [← hm3e] at HL3 hm3 ⊢
              rw [← hc3e] at ⊢
              clear hg3 hm3e hc3e hm
              obtain ⟨w4, hwn⟩ : ∃ x : World, x = wr := ⟨_, rfl⟩
              rw [← hwn] at HB3 HC hb2 ⊢
              clear hwn
              have HXw4 := Lib.hid (HXw3.out.trans HC.out)
              have HYw4 := Lib.hid (HC.out.heap HYw3.out)
              replace HB1 := Lib.hid (HB1.out.ext HC.out)
              replace HB2 := Lib.hid (HB2.out.ext HC.out)
              clear HC
              go_wp2_with fail
              clear hb2 hk hlt
              go_loopw [10, 11] (fun v i wr => ∃ (D : By) (g cap k m : Nat), v = .slice (some ⟨g, 0, none⟩) m cap ∧ i = .int .i64 k ∧ k ≤ p.units.length ∧ m ≤ 100000 ∧ Hid (D.length = m) ∧ Hid (D = (p.units.take k).flatMap raw4) ∧ Hid (OwnB wr w4.heap.size (some ⟨g, 0, none⟩) cap D) ∧ Hid (Ext w4 wr)) (fun _ i _ => p.units.length - (intOf i).toNat)
              case atStart => exact ⟨[], w4.heap.size, 0, 0, 0, rfl, rfl, Nat.zero_le _, by omega, Lib.hid rfl, Lib.hid rfl, Lib.hid ⟨rfl, Or.inr ⟨w4.heap.size, 0, #[], rfl, Nat.le_refl _, heap_alloc_new w4 _, Nat.le_refl _, by unfold maxLen; omega, rfl, rfl⟩⟩, Lib.hid (Ext.alloc _ _)⟩
              case round =>
                obtain ⟨D, g, cap, k, m, rfl, rfl, hk, hm, HDm, hD, HO, HC⟩ := hrel
                have hb2 := blk_cell (HC.out.heap HYw4.out) 5 _ rfl
                by_cases hlt : k < p.units.length
                · obtain ⟨gN, off, rfl, _, hcl⟩ := (HM.out.units.ext HXw4.out).at (by intro e; rw [e] at hlt; simp at hlt)
                  have h1 := HC.out.cell (hcl k hlt)
                  clear hcl
                  have hsm := HS.out.units _ (getD_memB hlt)
                  obtain ⟨q, hq⟩ : ∃ q, q = p.units.getD k [] := ⟨_, rfl⟩
                  rw [← hq] at h1 hsm
                  have hDn : ((p.units.take (k + 1)).flatMap raw4).length ≤ 100000 := Nat.le_trans (flatm_take_le _ _ _) sU
                  have hD2 : (p.units.take (k + 1)).flatMap raw4 = D ++ raw4 q := by rw [flat_succ raw4 _ _ [] hlt, ← hq, hD.out]
                  rw [hD2] at hDn
                  have HD2 := Lib.hid hD2; clear hD2 hq
                  have hlen : m + (raw4 q).length ≤ 100000 := by simp only [List.length_append, HDm.out] at hDn; exact hDn
                  have hp1 : 0 < (raw4 q).length := by rw [raw4_len]; omega
                  clear hDn
                  go_wp2_with (first
                    | ((with_reducible refine upon_conv q ?_); intro gv cv wv hgv hvv hxv; clear hgv; replace HC := Lib.hid (HC.out.trans hxv); replace HO := Lib.hid (HO.out.ext hxv); have HV := Lib.hid hvv; clear hvv hxv)
                    | (go_at_call 74; refine (raw10 (some ⟨gv, 0, none⟩) cv _ q _ rfl (by obtain ⟨_, _, _, hz⟩ := HV.out; exact hz) (by omega)).mono ?_; rintro e wx ⟨ax, qx, rfl, hox, hxx⟩; replace HC := Lib.hid (HC.out.trans hxx); replace HO := Lib.hid (HO.out.ext hxx); have HBx := Lib.hid hox.bytes.1; clear hox hxx HV)
                    | (at_builtin; refine append_bytes rfl (.tmp 108) (.tmp 115) 74 rfl Tryz.underlying74 w4.heap.size (some ⟨g, 0, none⟩) cap D (raw4 q) m (raw4 q).length HDm.out rfl rfl HO.out ax qx rfl HBx.out (by omega) HC.out.size ?_; intro gy qy wy hoy hby; replace HC := Lib.hid (Ext.of_below' HC.out hby); have HO2 := Lib.hid hoy; clear hoy hby HO))
                  obtain ⟨gz, rfl⟩ := HO2.out.at_pos (by rw [List.length_append]; omega)
                  go_roundw
                  case rel => exact ⟨D ++ raw4 q, gz, qy, k + 1, m + (raw4 q).length, rfl, by go_num, by omega, by omega, Lib.hid (len_app (raw4 q) HDm.out), Lib.hid HD2.out.symm, HO2, HC⟩
                  case measure => simp [intOf]; omega
                · have hkk : k = p.units.length := by omega
                  have hD2 := hD.out
                  rw [hkk, List.take_length] at hD2
                  subst hD2
                  have HB4 := Lib.hid HO.out.bytes.1
                  have HL4 := HDm
                  have hm4 := hm
                  clear hkk hD HDm HO
                  obtain ⟨g4, hg4⟩ : ∃ x, x = g := ⟨_, rfl⟩
                  obtain ⟨m4, hm4e⟩ : ∃ x, x = m := ⟨_, rfl⟩
                  obtain ⟨cap4, hc4e⟩ : ∃ x, x = cap := ⟨_, rfl⟩
                  rw [← hg4] at HB4 ⊢
                  rw [← hm4e] at HL4 hm4 ⊢
                  rw [← hc4e] at ⊢
                  clear hg4 hm4e hc4e hm
                  obtain ⟨w5, hwn⟩ : ∃ x : World, x = wr := ⟨_, rfl⟩
                  rw [← hwn] at HB4 HC hb2 ⊢
                  clear hwn
                  have HXw5 := Lib.hid (HXw4.out.trans HC.out)
                  have HYw5 := Lib.hid (HC.out.heap HYw4.out)
                  replace HB1 := Lib.hid (HB1.out.ext HC.out)
                  replace HB2 := Lib.hid (HB2.out.ext HC.out)
                  replace HB3 := Lib.hid (HB3.out.ext HC.out)
                  clear HC
                  go_wp2_with fail
                  clear hb2 hk hlt
                  clear hm1 hm2 hm3 hm4
                  have hn1 := HL1.out
                  have hn2 := HL2.out
                  have hn3 := HL3.out
                  have hn4 := HL4.out
                  have hml1 : m1 ≤ 100000 := by rw [← hn1]; exact sN
                  have hml2 : m2 ≤ 100000 := by rw [← hn2]; exact sC
                  have hml3 : m3 ≤ 100000 := by rw [← hn3]; exact sF
                  have hml4 : m4 ≤ 100000 := by rw [← hn4]; exact sU
                  have r1 : (raw4 p.name).length = 4 + p.name.length := raw4_len _
                  have r2 : (raw4 p.ver).length = 4 + p.ver.length := raw4_len _
                  have r3 : (raw4 (p.needs.flatMap needB)).length = 4 + m1 := by rw [raw4_len, hn1]
                  have r4 : (raw4 (p.conf.flatMap raw4)).length = 4 + m2 := by rw [raw4_len, hn2]
                  have r5 : (raw4 (p.files.flatMap fileB)).length = 4 + m3 := by rw [raw4_len, hn3]
                  have r6 : (raw4 (p.units.flatMap raw4)).length = 4 + m4 := by rw [raw4_len, hn4]
                  clear hn1 hn2 hn3 hn4 s0 sN sC sF sU hnn hnc hnf hnu
                  have hL1 : (raw4 p.name).length ≤ 1004 := by omega
                  have hL2 : (raw4 p.ver).length ≤ 1004 ∧ 0 < (raw4 p.ver).length := by omega
                  have hL3 : (raw4 (p.needs.flatMap needB)).length ≤ 100004 := by omega
                  have hL4 : (raw4 (p.conf.flatMap raw4)).length ≤ 100004 := by omega
                  have hL5 : (raw4 (p.files.flatMap fileB)).length ≤ 100004 := by omega
                  have hL6 : (raw4 (p.units.flatMap raw4)).length ≤ 100004 := by omega
                  clear r1 r2 r3 r4 r5 r6
                  have hSN : ∀ W, Ext w5 W → W.cell? ⟨B, 0, none⟩ = some (.string (bs p.name)) ∧ W.cell? ⟨B, 1, none⟩ = some (.string (bs p.ver)) := fun W hW => ⟨blk_cell (hW.heap HYw5.out) 0 _ rfl, blk_cell (hW.heap HYw5.out) 1 _ rfl⟩
                  have HSN := Lib.hid hSN; clear hSN
                  have HC := Lib.hid ((Ext.refl w5).drew)
                  simp only [cv_text]
                  go_region_held3 (fun W => W.cell? ⟨B, 0, none⟩ = some (.string (bs p.name)) ∧ W.cell? ⟨B, 1, none⟩ = some (.string (bs p.ver)))
                    (first | exact HSN.out _ HC.out)
                    (first
          | ((with_reducible refine upon_conv p.name ?_); intro g119 c119 w119 hg119 hv119 hx119; clear hg119; replace HC := Lib.hid (HC.out.trans hx119); (try replace HV123 := Lib.hid (HV123.out.ext hx119)); have HV119 := Lib.hid hv119; clear hv119 hx119)
          | ((with_reducible refine upon_conv p.ver ?_); intro g123 c123 w123 hg123 hv123 hx123; clear hg123; replace HC := Lib.hid (HC.out.trans hx123); (try replace HV119 := Lib.hid (HV119.out.ext hx123)); (try replace HO := Lib.hid (HO.out.ext hx123)); have HV123 := Lib.hid hv123; clear hv123 hx123)
          | (go_at_call_of 74 (Value.slice (some ⟨g119, 0, none⟩) p.name.length c119); refine (raw10 (some ⟨g119, 0, none⟩) c119 _ p.name _ rfl (by obtain ⟨_, _, _, hz⟩ := HV119.out; exact hz) (by omega)).mono ?_; rintro e w120 ⟨a120, q120, rfl, ho120, hx120⟩; have HO := Lib.hid (OwnB.base ho120 HC.out.size); replace HC := Lib.hid (HC.out.trans hx120); (try replace HV123 := Lib.hid (HV123.out.ext hx120)); clear ho120 hx120 HV119)
          | (go_at_call_of 74 (Value.slice (some ⟨g123, 0, none⟩) p.ver.length c123); refine (raw10 (some ⟨g123, 0, none⟩) c123 _ p.ver _ rfl (by obtain ⟨_, _, _, hz⟩ := HV123.out; exact hz) (by omega)).mono ?_; rintro e w124 ⟨a124, q124, rfl, ho124, hx124⟩; replace HC := Lib.hid (HC.out.trans hx124); replace HO := Lib.hid (HO.out.ext hx124); have HB124 := Lib.hid ho124.bytes.1; clear ho124 hx124 HV123)
          | ((with_reducible refine at_app (.tmp 120) (.tmp 124) ?_); refine step_app (by rfl) (.tmp 120) (.tmp 124) (by rfl) w5.heap.size a120 q120 (raw4 p.name) (raw4 p.ver) (raw4 p.name).length _ rfl rfl (by rfl) HO.out a124 q124 (by rfl) HB124.out (by omega) (by omega) HC.out.size ?_; intro g125 q125 w125 ho125 hk125 hb125; replace HC := Lib.hid (Ext.of_below' HC.out hb125); replace HO := Lib.hid ho125; have HDm : Hid ((raw4 p.name ++ raw4 p.ver).length = (raw4 p.name).length + (raw4 p.ver).length) := Lib.hid (len_app (raw4 p.ver) rfl); clear ho125 hk125 hb125)
          | fail)
                  all_goals (
                    go_wp2_with (first
                      | (go_at_call_of 74 (Value.slice (some ⟨g1, 0, none⟩) m1 cap1); refine (raw10 (some ⟨g1, 0, none⟩) cap1 m1 (p.needs.flatMap needB) _ HL1.out (HB1.out.ext HC.out) (by omega)).mono ?_; rintro e w128 ⟨a128, q128, rfl, ho128, hx128⟩; replace HC := Lib.hid (HC.out.trans hx128); replace HO := Lib.hid (HO.out.ext hx128); have HB128 := Lib.hid ho128.bytes.1; clear ho128 hx128)
                      | (at_builtin; refine append_bytes rfl (.tmp 126) (.tmp 128) 74 rfl Tryz.underlying74 w5.heap.size (some ⟨g125, 0, none⟩) q125 ((raw4 p.name) ++ raw4 p.ver) (raw4 (p.needs.flatMap needB)) _ (raw4 (p.needs.flatMap needB)).length HDm.out rfl rfl HO.out a128 q128 rfl HB128.out (by omega) HC.out.size ?_; intro a129 q129 w129 ho129 hb129; replace HC := Lib.hid (Ext.of_below' HC.out hb129); replace HO := Lib.hid ho129; replace HDm := Lib.hid (len_app (raw4 (p.needs.flatMap needB)) HDm.out); clear ho129 hb129)
                      | (go_at_call_of 74 (Value.slice (some ⟨g2, 0, none⟩) m2 cap2); refine (raw10 (some ⟨g2, 0, none⟩) cap2 m2 (p.conf.flatMap raw4) _ HL2.out (HB2.out.ext HC.out) (by omega)).mono ?_; rintro e w131 ⟨a131, q131, rfl, ho131, hx131⟩; replace HC := Lib.hid (HC.out.trans hx131); replace HO := Lib.hid (HO.out.ext hx131); have HB131 := Lib.hid ho131.bytes.1; clear ho131 hx131)
                      | (at_builtin; refine append_bytes rfl (.tmp 129) (.tmp 131) 74 rfl Tryz.underlying74 w5.heap.size a129 q129 (((raw4 p.name) ++ raw4 p.ver) ++ (raw4 (p.needs.flatMap needB))) (raw4 (p.conf.flatMap raw4)) _ (raw4 (p.conf.flatMap raw4)).length HDm.out rfl rfl HO.out a131 q131 rfl HB131.out (by omega) HC.out.size ?_; intro a132 q132 w132 ho132 hb132; replace HC := Lib.hid (Ext.of_below' HC.out hb132); replace HO := Lib.hid ho132; replace HDm := Lib.hid (len_app (raw4 (p.conf.flatMap raw4)) HDm.out); clear ho132 hb132)
                      | (go_at_call_of 74 (Value.slice (some ⟨g3, 0, none⟩) m3 cap3); refine (raw10 (some ⟨g3, 0, none⟩) cap3 m3 (p.files.flatMap fileB) _ HL3.out (HB3.out.ext HC.out) (by omega)).mono ?_; rintro e w135 ⟨a135, q135, rfl, ho135, hx135⟩; replace HC := Lib.hid (HC.out.trans hx135); replace HO := Lib.hid (HO.out.ext hx135); have HB135 := Lib.hid ho135.bytes.1; clear ho135 hx135)
                      | (at_builtin; refine append_bytes rfl (.tmp 133) (.tmp 135) 74 rfl Tryz.underlying74 w5.heap.size a132 q132 ((((raw4 p.name) ++ raw4 p.ver) ++ (raw4 (p.needs.flatMap needB))) ++ (raw4 (p.conf.flatMap raw4))) (raw4 (p.files.flatMap fileB)) _ (raw4 (p.files.flatMap fileB)).length HDm.out rfl rfl HO.out a135 q135 rfl HB135.out (by omega) HC.out.size ?_; intro a136 q136 w136 ho136 hb136; replace HC := Lib.hid (Ext.of_below' HC.out hb136); replace HO := Lib.hid ho136; replace HDm := Lib.hid (len_app (raw4 (p.files.flatMap fileB)) HDm.out); clear ho136 hb136)
                      | (go_at_call_of 74 (Value.slice (some ⟨g4, 0, none⟩) m4 cap4); refine (raw10 (some ⟨g4, 0, none⟩) cap4 m4 (p.units.flatMap raw4) _ HL4.out (HB4.out.ext HC.out) (by omega)).mono ?_; rintro e w138 ⟨a138, q138, rfl, ho138, hx138⟩; replace HC := Lib.hid (HC.out.trans hx138); replace HO := Lib.hid (HO.out.ext hx138); have HB138 := Lib.hid ho138.bytes.1; clear ho138 hx138)
                      | (at_builtin; refine append_bytes rfl (.tmp 136) (.tmp 138) 74 rfl Tryz.underlying74 w5.heap.size a136 q136 (((((raw4 p.name) ++ raw4 p.ver) ++ (raw4 (p.needs.flatMap needB))) ++ (raw4 (p.conf.flatMap raw4))) ++ (raw4 (p.files.flatMap fileB))) (raw4 (p.units.flatMap raw4)) _ (raw4 (p.units.flatMap raw4)).length HDm.out rfl rfl HO.out a138 q138 rfl HB138.out (by omega) HC.out.size ?_; intro a139 q139 w139 ho139 hb139; replace HC := Lib.hid (Ext.of_below' HC.out hb139); replace HO := Lib.hid ho139; replace HDm := Lib.hid (len_app (raw4 (p.units.flatMap raw4)) HDm.out); clear ho139 hb139))
                    rw [HR.out]
                    have hp : (((((raw4 p.name) ++ raw4 p.ver) ++ (raw4 (p.needs.flatMap needB))) ++ (raw4 (p.conf.flatMap raw4))) ++ (raw4 (p.files.flatMap fileB))) ++ (raw4 (p.units.flatMap raw4)) = packP p := by simp [packP]
                    have hl := HDm.out
                    have ho := HO.out
                    rw [hp] at hl ho
                    refine ⟨a139, q139, ?_, OwnB.base ho HXw5.out.size, HXw5.out.trans HC.out⟩
                    rw [hl]; rfl)
end Go.Proofs.YtnclibfhbngkjaaGreatDoor
