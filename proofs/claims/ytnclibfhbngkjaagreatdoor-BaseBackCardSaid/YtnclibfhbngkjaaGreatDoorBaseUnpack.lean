/- base.Unpack: the base that a base's own rows are. -/
import Derived.Test.YtnclibfhbngkjaaGreatDoorBaseUnp
namespace Go.Proofs.YtnclibfhbngkjaaGreatDoor
open Go.RowKit
attribute [local go_sem ↓] Go.wp_at_zero Go.wp_at_succ
set_option maxRecDepth 100000 in
set_option maxHeartbeats 25600000 in
theorem base_unpack (a : Option Addr) (c : Nat) (f : BaseF) (ss : List By) (w : World) (hP : Parts w a (packsF f ss)) (hs : NamesF f ss) (hg : GoodF f) (hl : ss.length ≤ 10000) :
    Calls Tryz.prog 14 #[.slice a ss.length c] w (UnpackR ss.length f w) := by
  obtain ⟨R, hR⟩ : ∃ R, R = UnpackR ss.length f w := ⟨_, rfl⟩
  rw [← hR]
  have HR := Lib.hid hR; clear hR
  have HP := Lib.hid hP; clear hP
  have HS := Lib.hid hs; clear hs
  have HG := Lib.hid hg; clear hg
  obtain ⟨n, hn⟩ : ∃ n, n = ss.length := ⟨_, rfl⟩
  rw [← hn] at hl ⊢
  have HN := Lib.hid hn; clear hn
  have hx1 := Ext.alloc w (.cells #[.map none] 42)
  have hc1 := heap_alloc_new w (.cells #[.map none] 42)
  go_enter Tryz.func14, Tryz.ntmps14
  go_upto_region 1 with (fail)
  generalize w.alloc (.cells #[.map none] 42) = w1 at hx1 hc1 ⊢
  obtain ⟨C2, hC2⟩ : ∃ x, x = w.heap.size := ⟨_, rfl⟩
  rw [← hC2] at hc1 ⊢
  have HC2 := Lib.hid hC2; clear hC2
  have HX1 := Lib.hid hx1; clear hx1
  have HCC := Lib.hid hc1; clear hc1
  go_upto_region 2 with (go_at_call 13; refine (new_u _).mono ?_; rintro E w3 ⟨⟨b0, A0, rfl, hm⟩, hx3⟩; have HM0 := Lib.hid hm; have HX3 := Lib.hid hx3; clear hm hx3)
  have hx_w4 : Ext w3 (w3.alloc (.cells #[.map (some b0)] 42)) := (Ext.alloc _ _)
  have hf_B := heap_alloc_new w3 (.cells #[.map (some b0)] 42)
  generalize w3.alloc (.cells #[.map (some b0)] 42) = w4 at hx_w4 hf_B ⊢
  obtain ⟨B, h_B⟩ : ∃ x, x = w3.heap.size := ⟨_, rfl⟩
  rw [← h_B] at hf_B
  try rw [← h_B]
  have hs_B : w3.heap.size ≤ B := by omega
  clear h_B
  have HBL : Hid (w.heap.size ≤ B ∧ C2 < B) := Lib.hid (by
    have h1 := (HX1.out.trans HX3.out).size
    have h2 := (Array.getElem?_eq_some_iff.1 (HX3.out.heap HCC.out)).1
    omega)
  have HX4 := Lib.hid ((HX1.out.trans HX3.out).trans hx_w4)
  have HC4 := Lib.hid ((HX3.out.trans hx_w4).heap HCC.out)
  have hB4 : ∃ b A, w4.heap[B]? = some (.cells #[.map (some b)] 42 (0, 0)) ∧ EntsM w4 b 0 (partF f (ss.take 0)) A := ⟨b0, A0, hf_B, by rw [List.take_zero, partF_nil]; exact HM0.out.ext hx_w4⟩
  have HB4 := Lib.hid hB4
  clear hB4 hf_B hx_w4 hs_B
  go_wp2_with fail
  go_loopw [16] (fun i wr => ∃ k : Nat, i = .int .i64 k ∧ k ≤ n ∧ Hid (∃ b A, wr.heap[B]? = some (.cells #[.map (some b)] 42 (0, 0)) ∧ EntsM wr b k (partF f (ss.take k)) A) ∧ Hid (wr.heap[C2]? = some (.cells #[.map none] 42 (0, 0))) ∧ Hid (Ext w wr)) (fun i _ => n - (intOf i).toNat)
  case atStart => exact ⟨0, rfl, Nat.zero_le _, HB4, HC4, HX4⟩
  case round =>
    obtain ⟨k, rfl, hk, hBB, hCC, hX⟩ := hrel
    obtain ⟨W0, rfl⟩ : ∃ W0 : World, W0 = wr := ⟨_, rfl⟩
    by_cases hlt : k < n
    · have hkL : k < ss.length := by have := HN.out; omega
      obtain ⟨x, hx⟩ : ∃ x, x = ss.getD k [] := ⟨_, rfl⟩
      have hxs : x ∈ ss := by rw [hx, List.getD_eq_getElem?_getD, List.getElem?_eq_getElem hkL]; simp
      obtain ⟨e, hfe⟩ := Option.isSome_iff_exists.1 ((HS.out.2.2 x).1 hxs)
      have hge := HG.out x e hfe
      have hpk : (packsF f ss).getD k [] = packE e := by
        unfold packsF
        simp only [List.getD_eq_getElem?_getD, List.getElem?_map, List.getElem?_eq_getElem hkL, Option.map_some, Option.getD_some]
        have e1 : ss[k] = x := by rw [hx]; simp [List.getD_eq_getElem?_getD, List.getElem?_eq_getElem hkL]
        rw [e1, hfe]
        rfl
      have hpn : k < (packsF f ss).length := by unfold packsF; rw [List.length_map]; exact hkL
      obtain ⟨g, off, p1, q1, rfl, c1, b1⟩ := (HP.out.ext hX.out).at hpn
      rw [hpk] at c1 b1
      clear hpk hpn hxs
      have hlen := packE_len hge.2.1 hge.2.2
      have hfl := right_lens hge.2.1
      have hn60 : e.name.length ≤ 60 ∧ e.ver.length ≤ 60 := by
        have h := hge.2.1
        unfold rightP headP at h
        simp only [Bool.and_eq_true, decide_eq_true_eq] at h
        have n1 := nameL_12 h.1.1
        have n2 := verR_30 h.1.2.1
        omega
      have hp : packE e = raw4 e.name ++ (raw4 e.ver ++ (raw4 (e.needs.flatMap needB) ++ (raw4 (e.conf.flatMap raw4) ++ (raw4 (e.files.flatMap fileE) ++ (raw4 (e.units.flatMap raw4) ++ []))))) := by simp [packE]
      obtain ⟨l, hl0⟩ : ∃ l, l = packE e := ⟨_, rfl⟩
      rw [← hl0] at c1 b1 hp
      obtain ⟨r5, h5⟩ : ∃ r, r = raw4 (e.units.flatMap raw4) ++ [] := ⟨_, rfl⟩
      rw [← h5] at hp
      obtain ⟨r4, h4⟩ : ∃ r, r = raw4 (e.files.flatMap fileE) ++ r5 := ⟨_, rfl⟩
      rw [← h4] at hp
      obtain ⟨r3, h3⟩ : ∃ r, r = raw4 (e.conf.flatMap raw4) ++ r4 := ⟨_, rfl⟩
      rw [← h3] at hp
      obtain ⟨r2, h2⟩ : ∃ r, r = raw4 (e.needs.flatMap needB) ++ r3 := ⟨_, rfl⟩
      rw [← h2] at hp
      obtain ⟨r1, h1⟩ : ∃ r, r = raw4 e.ver ++ r2 := ⟨_, rfl⟩
      rw [← h1] at hp
      have g5' : r5.length ≤ 10000 := by rw [h5]; simp only [List.length_append, raw4_len, List.length_nil]; omega
      have g4' : r4.length ≤ 20000 := by rw [h4]; simp only [List.length_append, raw4_len]; omega
      have g3' : r3.length ≤ 30000 := by rw [h3]; simp only [List.length_append, raw4_len]; omega
      have g2' : r2.length ≤ 40000 := by rw [h2]; simp only [List.length_append, raw4_len]; omega
      have g1' : r1.length ≤ 50000 := by rw [h1]; simp only [List.length_append, raw4_len]; omega
      have g5 : r5.length ≤ 100000 := by omega
      have g4 : r4.length ≤ 100000 := by omega
      have g3 : r3.length ≤ 100000 := by omega
      have g2 : r2.length ≤ 100000 := by omega
      have g1 : r1.length ≤ 100000 := by omega
      have hll : l.length ≤ 100000 := by rw [hl0]; omega
      have HE0 := Lib.hid (And.intro hp (And.intro h1 (And.intro h2 (And.intro h3 (And.intro h4 h5)))))
      have HGE := Lib.hid hge; clear hge
      have HXX := Lib.hid hx; clear hx
      have HFE := Lib.hid hfe; clear hfe
      clear hp h1 h2 h3 h4 h5
      obtain ⟨hlen0, hlen1, hlen2, hlen3, hlen4⟩ := hlen
      obtain ⟨_, hln1, hln2, hln3, hln4⟩ := hfl
      have hrr := rec_read p1 q1 l W0 b1 (by omega)
      have HRR := Lib.hid hrr; clear hrr
      have HB1 := Lib.hid b1; clear b1 hl0
      go_upto_region 6 with (go_at_call 46; refine HRR.out.mono ?_; rintro E w5 ⟨Q0, rfl, hq0, hrd, hx5⟩; have HX5 := Lib.hid hx5; have HRD := Lib.hid hrd; clear hx5 hrd)
      clear c1 HRR
      have hq0l := HRD.out.lt
      have hrd0 := HRD.out
      rw [HE0.out.1] at hrd0
      have ht1 := rdE_text hrd0 hn60.1 (by omega) g1
      have HT1 := Lib.hid ht1; clear ht1 hrd0
      go_upto_region 7 with (first
        | (go_at_call 47; refine HT1.out.mono ?_; rintro E w6 ⟨rfl, hrd, hbt⟩; have hrd0 := hrd; rw [HE0.out.2.1] at hrd0; have ht2 := rdE_text hrd0 hn60.2 (by omega) g2; have HT2 := Lib.hid ht2; have HB6 := Lib.hid hbt; clear hrd hbt hrd0 ht2)
        | (go_at_call 47; refine HT2.out.mono ?_; rintro E w7 ⟨rfl, hrd, hbt⟩; have HR7 := Lib.hid hrd; have HB7 := Lib.hid hbt; clear hrd hbt))
      have hx_w8 : Ext w7 (w7.alloc (.cells #[.string (bs e.name), .string (bs e.ver), .slice none 0 0, .slice none 0 0, .slice none 0 0, .slice none 0 0] 37)) := (Ext.alloc _ _)
      have hf_P := heap_alloc_new w7 (.cells #[.string (bs e.name), .string (bs e.ver), .slice none 0 0, .slice none 0 0, .slice none 0 0, .slice none 0 0] 37)
      generalize w7.alloc (.cells #[.string (bs e.name), .string (bs e.ver), .slice none 0 0, .slice none 0 0, .slice none 0 0, .slice none 0 0] 37) = w8 at hx_w8 hf_P ⊢
      obtain ⟨P, h_P⟩ : ∃ x, x = w7.heap.size := ⟨_, rfl⟩
      rw [← h_P] at hf_P
      try rw [← h_P]
      have hs_P : w7.heap.size ≤ P := by omega
      clear h_P
      have hr8 := HR7.out.ext hx_w8
      rw [HE0.out.2.2.1] at hr8
      have hl1 := rdE_list hr8 (by omega) g3
      have HL1 := Lib.hid hl1; clear hl1
      have HRQ0 := Lib.hid hr8; clear hr8
      have hq07 : Q0 < w7.heap.size := HR7.out.lt
      have hHP8 := hf_P
      have HP8 := Lib.hid hHP8; clear hHP8
      have HX8 := Lib.hid hx_w8; clear hx_w8
      have hq08 : Q0 < w8.heap.size := by have h := (Array.getElem?_eq_some_iff.1 hf_P).1; omega
      have HPO : Hid (W0.heap.size ≤ Q0 ∧ Q0 < P ∧ P < w8.heap.size) := Lib.hid ⟨hq0, by omega, (Array.getElem?_eq_some_iff.1 hf_P).1⟩
      clear hf_P hs_P hq0 hq07 hq0l
      go_wp2_with (first
        | (go_at_call 48; with_reducible refine HL1.out.mono ?_; rintro E w9 ⟨Q1, rfl, hq, hrd, hrq, hbt⟩; have hr0 := HRQ0.out; have HQ1 := Lib.hid hrq; have HO1 := Lib.hid (And.intro hq hrq.lt); have HRQ1 := Lib.hid hrd; have HBT1 := Lib.hid hbt; have hrd0 := hrd; rw [HE0.out.2.2.2.1] at hrd0; have hl2 := rdE_list hrd0 (by omega) g4; have HL2 := Lib.hid hl2; clear hrd0 hl2; clear hq hrd hrq hbt hr0)
        | (go_at_call 48; with_reducible refine HL2.out.mono ?_; rintro E wA ⟨Q2, rfl, hq, hrd, hrq, hbt⟩; have hr0 := HRQ1.out; have hy1 := Rd.but hr0 HQ1.out hbt (by have h1 := HO1.out; omega); have HQ1 := Lib.hid hy1; clear hy1; have HQ2 := Lib.hid hrq; have HO2 := Lib.hid (And.intro hq hrq.lt); have HRQ2 := Lib.hid hrd; have HBT2 := Lib.hid hbt; have hrd0 := hrd; rw [HE0.out.2.2.2.2.1] at hrd0; have hl3 := rdE_list hrd0 (by omega) g5; have HL3 := Lib.hid hl3; clear hrd0 hl3; clear hq hrd hrq hbt hr0)
        | (go_at_call 48; with_reducible refine HL3.out.mono ?_; rintro E wB ⟨Q3, rfl, hq, hrd, hrq, hbt⟩; have hr0 := HRQ2.out; have hy1 := Rd.but hr0 HQ1.out hbt (by have h1 := HO1.out; have h2 := HO2.out; omega); have HQ1 := Lib.hid hy1; clear hy1; have hy2 := Rd.but hr0 HQ2.out hbt (by have h1 := HO1.out; have h2 := HO2.out; omega); have HQ2 := Lib.hid hy2; clear hy2; have HQ3 := Lib.hid hrq; have HO3 := Lib.hid (And.intro hq hrq.lt); have HRQ3 := Lib.hid hrd; have HBT3 := Lib.hid hbt; have hrd0 := hrd; rw [HE0.out.2.2.2.2.2] at hrd0; have hl4 := rdE_list hrd0 (by omega) (by simp); have HL4 := Lib.hid hl4; clear hrd0 hl4; clear hq hrd hrq hbt hr0)
        | (go_at_call 48; with_reducible refine HL4.out.mono ?_; rintro E wC ⟨Q4, rfl, hq, hrd, hrq, hbt⟩; have hr0 := HRQ3.out; have hy1 := Rd.but hr0 HQ1.out hbt (by have h1 := HO1.out; have h2 := HO2.out; have h3 := HO3.out; omega); have HQ1 := Lib.hid hy1; clear hy1; have hy2 := Rd.but hr0 HQ2.out hbt (by have h1 := HO1.out; have h2 := HO2.out; have h3 := HO3.out; omega); have HQ2 := Lib.hid hy2; clear hy2; have hy3 := Rd.but hr0 HQ3.out hbt (by have h1 := HO1.out; have h2 := HO2.out; have h3 := HO3.out; omega); have HQ3 := Lib.hid hy3; clear hy3; have HQ4 := Lib.hid hrq; have HO4 := Lib.hid (And.intro hq hrq.lt); have HRQ4 := Lib.hid hrd; have HBT4 := Lib.hid hbt; clear hq hrd hrq hbt hr0))
      obtain ⟨base, hbase⟩ : ∃ x, x = wC.heap.size := ⟨_, rfl⟩
      have HORD : Hid (W0.heap.size ≤ Q0 ∧ Q0 < P ∧ P < Q1 ∧ Q1 < Q2 ∧ Q2 < Q3 ∧ Q3 < Q4 ∧ Q4 < base) := Lib.hid (by
        have h1 := HPO.out; have h2 := HO1.out; have h3 := HO2.out; have h4 := HO3.out; have h5 := HO4.out; omega)
      have HBA := Lib.hid hbase; clear hbase
      have hsb : ∀ lo Q, P < lo → lo ≤ Q → Q < base → (∀ k, lo ≤ k ∧ k < Q → k ≠ Q1 ∧ k ≠ Q2 ∧ k ≠ Q3 ∧ k ≠ Q4) → ∀ k, k < wC.heap.size → (lo ≤ k ∧ k < Q) → SB base P Q0 Q1 Q2 Q3 Q4 k := by
        intro lo Q h1 h2 h3 h4 k _ hk
        have ho := HORD.out
        obtain ⟨a1, a2, a3, a4⟩ := h4 k hk
        exact ⟨by omega, by omega, by omega, a1, a2, a3, a4⟩
      have HQ4' : Hid (Rd (SB base P Q0 Q1 Q2 Q3 Q4) wC Q4 (e.units.flatMap raw4, false)) := Lib.hid (HQ4.out.mono (hsb _ _ (by have h1 := HORD.out; have h2 := HO1.out; have h3 := HO2.out; have h4 := HO3.out; have h5 := HO4.out; omega) HO4.out.1 (by have := HORD.out; omega) (fun k hk => by have h1 := HORD.out; have h2 := HO1.out; have h3 := HO2.out; have h4 := HO3.out; have h5 := HO4.out; omega)))
      have HQ3' : Hid (Rd (SB base P Q0 Q1 Q2 Q3 Q4) wC Q3 (e.files.flatMap fileE, false)) := Lib.hid (HQ3.out.mono (hsb _ _ (by have h1 := HORD.out; have h2 := HO1.out; have h3 := HO2.out; have h4 := HO3.out; omega) HO3.out.1 (by have := HORD.out; omega) (fun k hk => by have h1 := HORD.out; have h2 := HO1.out; have h3 := HO2.out; have h4 := HO3.out; omega)))
      have HQ2' : Hid (Rd (SB base P Q0 Q1 Q2 Q3 Q4) wC Q2 (e.conf.flatMap raw4, false)) := Lib.hid (HQ2.out.mono (hsb _ _ (by have h1 := HORD.out; have h2 := HO1.out; have h3 := HO2.out; omega) HO2.out.1 (by have := HORD.out; omega) (fun k hk => by have h1 := HORD.out; have h2 := HO1.out; have h3 := HO2.out; omega)))
      have HQ1' : Hid (Rd (SB base P Q0 Q1 Q2 Q3 Q4) wC Q1 (e.needs.flatMap needB, false)) := Lib.hid (HQ1.out.mono (hsb _ _ (by have h1 := HORD.out; have h2 := HO1.out; have h3 := HPO.out; omega) HO1.out.1 (by have := HORD.out; omega) (fun k hk => by have h1 := HORD.out; have h2 := HO1.out; omega)))
      have HQ0' : Hid (Rd (SB base P Q0 Q1 Q2 Q3 Q4) wC Q0 ([], false)) := Lib.hid (HRQ4.out.mono (fun k _ hk => by have h1 := HORD.out; exact ⟨by omega, by omega, by omega, by omega, by omega, by omega, by omega⟩))
      have kC : Keep (· ≠ Q0) w5 w7 := (Keep.of_but HB6.out).trans (Keep.of_but HB7.out)
      have kD : Keep (· ≠ Q0) w8 wC := (Keep.of_but HBT1.out).trans ((Keep.of_but HBT2.out).trans ((Keep.of_but HBT3.out).trans (Keep.of_but HBT4.out)))
      have HXC : Hid (Ext W0 wC) := Lib.hid ((((Keep.of_ext (S := fun j => j < W0.heap.size) HX5.out).andThen kC (fun j hj _ => by have := HORD.out; show j ≠ Q0; omega)).ext_trans HX8.out).andThen kD (fun j hj _ => by have := HORD.out; show j ≠ Q0; omega)).ext_lt
      have HPC : Hid (wC.heap[P]? = some (.cells #[.string (bs e.name), .string (bs e.ver), .slice none 0 0, .slice none 0 0, .slice none 0 0, .slice none 0 0] 37 (0, 0))) := Lib.hid (kD.heap (g := P) (by have := HORD.out; omega) HP8.out)
      clear kC kD hsb
      clear HQ1 HQ2 HQ3 HQ4 HRQ0 HRQ1 HRQ2 HRQ3 HRQ4 HBT1 HBT2 HBT3 HBT4 HO1 HO2 HO3 HO4 HPO HL1 HL2 HL3 HL4 HT1 HT2 HB6 HB7 HR7 HX8 HP8 HX5 HRD HE0
      obtain ⟨b1, hb1⟩ : ∃ x, x = wC.heap.size := ⟨_, rfl⟩
      have HBb1 : Hid (base ≤ b1) := Lib.hid (by rw [hb1]; exact Nat.le_of_eq HBA.out)
      have HBEb1 := Lib.hid hb1; clear hb1
      go_loopg [] e.needs.length (fun gk wr => ∃ (j : Nat) (a2 : Option Addr) (c2 : Nat), Hid (gk = e.needs.length - j) ∧ j ≤ e.needs.length ∧ Hid (wr.heap[P]? = some (.cells #[.string (bs e.name), .string (bs e.ver), .slice a2 j c2, .slice none 0 0, .slice none 0 0, .slice none 0 0] 37 (0, 0))) ∧ Hid (wr.ownsRow b1 68 3 (.slice a2 j c2) j ((e.needs.take j).flatMap needV3)) ∧ Hid (Rd (SB base P Q0 Q1 Q2 Q3 Q4) wr Q1 ((e.needs.drop j).flatMap needB, false)) ∧ Hid (Keep (fun k => k < b1 ∧ k ≠ P ∧ k ≠ Q1) wC wr))
      case atStart => exact ⟨0, none, 0, Lib.hid (by simp), Nat.zero_le _, HPC, Lib.hid (World.ownsRow_nil _ _ _ _), HQ1', Lib.hid (Keep.refl _ _)⟩
      case round =>
        obtain ⟨j, a2, c2, hgk, hj, hPB, hOW, hRQ, hKP⟩ := hrel
        have hmr := rd_more _ _ _ _ hRQ.out
        have HMR := Lib.hid hmr; clear hmr
        by_cases hjl : j < e.needs.length
        · obtain ⟨m, hm⟩ : ∃ m, m = e.needs.getD j nz := ⟨_, rfl⟩
          have hfd := flat_drop (enc := needB) (z := nz) hjl
          have hts := take_snocU (V := needV3) (z := nz) hjl
          rw [← hm] at hfd hts
          have hmm : m ∈ e.needs := by rw [hm, List.getD_eq_getElem?_getD, List.getElem?_eq_getElem hjl]; simp
          have hrl : ((e.needs.drop (j + 1)).flatMap needB).length ≤ 5000 := by have := flat_drop_len needB e.needs (j + 1); omega
          obtain ⟨rest, hrs⟩ : ∃ r, r = (e.needs.drop (j + 1)).flatMap needB := ⟨_, rfl⟩
          rw [← hrs] at hfd hrl
          have HRS := Lib.hid hrs; clear hrs
          have HTS := Lib.hid hts; clear hts
          have hmr := needR_way (List.all_eq_true.1 (by have h := HGE.out.2.1; unfold rightP at h; simp only [Bool.and_eq_true] at h; exact h.2.1) m hmm)
          obtain ⟨mn, mw, mv⟩ := m
          simp only at hmr
          have hen : needB ⟨mn, mw, mv⟩ ++ rest = raw4 mn ++ (numI mw ++ (raw4 mv ++ rest)) := by simp [needB]
          rw [hen] at hfd
          rw [hfd] at hRQ HMR
          have hpos : decide (0 < ((raw4 mn ++ (numI mw ++ (raw4 mv ++ rest))).length)) = true := by simp [raw4_len]; try omega
          rw [hpos] at HMR
          have HHM := Lib.hid hm; clear hm hpos hen hmm
          go_upto_region 9 with (go_at_call 49; refine HMR.out.mono ?_; rintro E we ⟨rfl, rfl⟩)
          clear HMR
          have HPB := Lib.hid ((Ext.refl wr).drew.heap hPB.out)
          have HRQ := Lib.hid (hRQ.out.ext (Ext.refl wr).drew)
          have HOW := Lib.hid (ownsRow_ext hOW.out (Ext.refl wr).drew)
          have HKP := Lib.hid (hKP.out.ext_trans (Ext.refl wr).drew)
          have hord := HORD.out
          have hbb := HBb1.out
          refine wp_region_noPanic ?_
          refine wp_region_K (S := (fun W => W.cell? ⟨P, 2, none⟩ = some (.slice a2 j c2))) (I := [1]) (by kernel_rfl) (blk_cell HPB.out 2 _ rfl) (fun hHeld => ?_)
          clear hHeld
          generalize wr.drew = wc at HPB HRQ HOW HKP ⊢
          refine wpAnyK_free (i := 0) (v := ?v1) rfl (by kernel_rfl) (by kernel_rfl) (by kernel_rfl) (fun _ _ _ h => h) (by kernel_rfl) ?hy1 (fun _ => (blk_cell HPB.out 2 _ rfl)) ?rest1
          case hy1 => (intro wq; first | (go_simp; done) | (go_simp; with_reducible rfl))
          try simp only [List.getElem_toArray, List.getElem_cons_zero, Act.put, List.setIfInBounds_toArray, List.set_cons_zero, List.set_cons_succ]
          refine wpAnyK_load (i := 1) (v := ?v2) rfl (by kernel_rfl) (by kernel_rfl) (by kernel_rfl) (fun _ _ _ h => h) (by kernel_rfl) (by kernel_rfl) ?hy2 (blk_cell HPB.out 2 _ rfl) ?rest2
          case hy2 => (intro wq hSw; (try dsimp only at hSw); first | (go_simp; done) | (go_simp; with_reducible rfl))
          try simp only [List.getElem_toArray, List.getElem_cons_zero, List.getElem_cons_succ, Act.put, List.setIfInBounds_toArray, List.set_cons_zero, List.set_cons_succ]
          refine wpAnyK_free (i := 2) (v := ?v3) rfl (by kernel_rfl) (by kernel_rfl) (by kernel_rfl) (fun _ _ _ h => h) (by kernel_rfl) ?hy3 (fun _ => (blk_cell HPB.out 2 _ rfl)) ?rest3
          case hy3 => (intro wq; first | (go_simp; done) | (go_simp; with_reducible rfl))
          try simp only [List.getElem_toArray, List.getElem_cons_zero, List.getElem_cons_succ, Act.put, List.setIfInBounds_toArray, List.set_cons_zero, List.set_cons_succ]
          refine wpAnyK_free (i := 4) (v := ?v4) rfl (by kernel_rfl) (by kernel_rfl) (by kernel_rfl) (fun _ _ _ h => h) (by kernel_rfl) ?hy4 (fun _ => (blk_cell HPB.out 2 _ rfl)) ?rest4
          case hy4 => (intro wq; first | (go_simp; done) | (go_simp; with_reducible rfl))
          try simp only [List.getElem_toArray, List.getElem_cons_zero, List.getElem_cons_succ, Act.put, List.setIfInBounds_toArray, List.set_cons_zero, List.set_cons_succ]
          refine wpAnyK_free (i := 6) (v := ?v5) rfl (by kernel_rfl) (by kernel_rfl) (by kernel_rfl) (fun _ _ _ h => h) (by kernel_rfl) ?hy5 (fun _ => (blk_cell HPB.out 2 _ rfl)) ?rest5
          case hy5 => (intro wq; first | (go_simp; done) | (go_simp; with_reducible rfl))
          try simp only [List.getElem_toArray, List.getElem_cons_zero, List.getElem_cons_succ, Act.put, List.setIfInBounds_toArray, List.set_cons_zero, List.set_cons_succ]
          refine wpAnyK_one (i := 3) (by kernel_rfl) rfl ?_
          intro K hK
          go_simp
          go_at_call 47
          refine (rdE_text HRQ.out hmr.2.1 (by omega) (by simp [raw4_len, numI, num4_len]; omega)).mono ?_
          rintro E wn ⟨rfl, hrd, hbt⟩
          replace HPB := Lib.hid ((Keep.of_but hbt).heap (g := P) (by omega) HPB.out)
          replace HRQ := Lib.hid hrd
          replace HOW := Lib.hid (ownsRow_keep HOW.out (Keep.of_but hbt) (fun g _ _ hb _ => by show g ≠ Q1; omega))
          replace HKP := Lib.hid (HKP.out.trans ((Keep.of_but hbt).mono (fun k _ h => h.2.2)))
          clear hrd hbt
          go_wp2_with fail
          refine hK.out _ _ (blk_cell HPB.out 2 _ rfl) ?_
          clear hK K
          obtain ⟨wc, rfl⟩ : ∃ x : World, x = wn := ⟨_, rfl⟩
          try simp only [List.getElem_toArray, List.getElem_cons_zero, List.getElem_cons_succ, Act.put, List.setIfInBounds_toArray, List.set_cons_zero, List.set_cons_succ]
          refine wpAnyK_one (i := 5) (by kernel_rfl) rfl ?_
          intro K hK
          go_simp
          go_at_call 50
          refine (rdE_way HRQ.out hmr.1 (by simp [raw4_len]; omega)).mono ?_
          rintro E wn ⟨rfl, hrd, hbt⟩
          replace HPB := Lib.hid ((Keep.of_but hbt).heap (g := P) (by omega) HPB.out)
          replace HRQ := Lib.hid hrd
          replace HOW := Lib.hid (ownsRow_keep HOW.out (Keep.of_but hbt) (fun g _ _ hb _ => by show g ≠ Q1; omega))
          replace HKP := Lib.hid (HKP.out.trans ((Keep.of_but hbt).mono (fun k _ h => h.2.2)))
          clear hrd hbt
          go_wp2_with fail
          refine hK.out _ _ (blk_cell HPB.out 2 _ rfl) ?_
          clear hK K
          obtain ⟨wc, rfl⟩ : ∃ x : World, x = wn := ⟨_, rfl⟩
          try simp only [List.getElem_toArray, List.getElem_cons_zero, List.getElem_cons_succ, Act.put, List.setIfInBounds_toArray, List.set_cons_zero, List.set_cons_succ]
          refine wpAnyK_one (i := 7) (by kernel_rfl) rfl ?_
          intro K hK
          go_simp
          go_at_call 47
          refine (rdE_text HRQ.out hmr.2.2 (by omega) (by omega)).mono ?_
          rintro E wn ⟨rfl, hrd, hbt⟩
          replace HPB := Lib.hid ((Keep.of_but hbt).heap (g := P) (by omega) HPB.out)
          replace HRQ := Lib.hid hrd
          replace HOW := Lib.hid (ownsRow_keep HOW.out (Keep.of_but hbt) (fun g _ _ hb _ => by show g ≠ Q1; omega))
          replace HKP := Lib.hid (HKP.out.trans ((Keep.of_but hbt).mono (fun k _ h => h.2.2)))
          clear hrd hbt
          go_wp2_with fail
          refine hK.out _ _ (blk_cell HPB.out 2 _ rfl) ?_
          clear hK K
          obtain ⟨wc, rfl⟩ : ∃ x : World, x = wn := ⟨_, rfl⟩
          try simp only [List.getElem_toArray, List.getElem_cons_zero, List.getElem_cons_succ, Act.put, List.setIfInBounds_toArray, List.set_cons_zero, List.set_cons_succ]
          refine wpAnyK_free (i := 8) (v := ?v6) rfl (by kernel_rfl) (by kernel_rfl) (by kernel_rfl) (fun _ _ _ h => h) (by kernel_rfl) ?hy6 (fun _ => (blk_cell HPB.out 2 _ rfl)) ?rest6
          case hy6 => (intro wq; first | (go_simp; done) | (go_simp; with_reducible rfl))
          try simp only [List.getElem_toArray, List.getElem_cons_zero, List.getElem_cons_succ, Act.put, List.setIfInBounds_toArray, List.set_cons_zero, List.set_cons_succ]
          refine wpAnyK_one (i := 9) (by kernel_rfl) rfl ?_
          intro K hK
          go_simp
          have hxa := Ext.alloc wc (.cells #[.string (bs mn), .int .i64 mw, .string (bs mv)] 68)
          have hbn := heap_alloc_new wc (.cells #[.string (bs mn), .int .i64 mw, .string (bs mv)] 68)
          obtain ⟨G, hV⟩ : ∃ x, x = wc.heap.size := ⟨_, rfl⟩
          rw [← hV] at hbn ⊢
          clear hV
          generalize wc.alloc (.cells #[.string (bs mn), .int .i64 mw, .string (bs mv)] 68) = wn at hxa hbn ⊢
          replace HPB := Lib.hid (hxa.heap HPB.out)
          replace HRQ := Lib.hid (HRQ.out.ext hxa)
          replace HOW := Lib.hid (ownsRow_ext HOW.out hxa)
          replace HKP := Lib.hid (HKP.out.ext_trans hxa)
          have HGB := Lib.hid hbn; clear hbn hxa
          refine hK.out _ _ (blk_cell HPB.out 2 _ rfl) ?_
          clear hK K
          obtain ⟨wc, rfl⟩ : ∃ x : World, x = wn := ⟨_, rfl⟩
          try simp only [List.getElem_toArray, List.getElem_cons_zero, List.getElem_cons_succ, Act.put, List.setIfInBounds_toArray, List.set_cons_zero, List.set_cons_succ]
          have hcz := HKP.out.size
          have hbz := HBEb1.out
          refine wpAnyK_one (i := 10) (by kernel_rfl) rfl ?_
          intro K hK
          refine step_append_big (by rfl) _ _ 27 68 (.agg #[.string ⟨#[]⟩, .int .i64 0, .string ⟨#[]⟩]) 3 40 (by rfl) Tryz.underlying27 info_need rfl (by decide) b1 a2 j c2 _ (by simp [Act.eval]) HOW.out G 1 1 [.string (bs mn), .int .i64 mw, .string (bs mv)] _ _ (by simp [Act.eval]) (by rfl) HGB.out (by simp [Value.oneCell']) (by omega) (by omega) (by decide) (by omega) (j + 1) rfl ?_
          intro g1 c1 wn hown hk7 hb7 hat7
          replace HPB := Lib.hid ((Keep.of_below hb7).heap (g := P) (by show P < b1; omega) HPB.out)
          replace HRQ := Lib.hid (HRQ.out.keep (Keep.of_below hb7) (by show Q1 < b1; omega) (fun g _ hS => by have h := hS.1; show g < b1; omega))
          replace HOW := Lib.hid hown
          replace HKP := Lib.hid (HKP.out.trans ((Keep.of_below hb7).mono (fun _ _ h => h.1)))
          clear hown hk7 hb7 hat7
          refine hK.out _ _ (blk_cell HPB.out 2 _ rfl) ?_
          clear hK K
          obtain ⟨wc, rfl⟩ : ∃ x : World, x = wn := ⟨_, rfl⟩
          try simp only [List.getElem_toArray, List.getElem_cons_zero, List.getElem_cons_succ, Act.put, List.setIfInBounds_toArray, List.set_cons_zero, List.set_cons_succ]
          refine wpAnyK_free (i := 11) (v := ?v7) rfl (by kernel_rfl) (by kernel_rfl) (by kernel_rfl) (fun _ _ _ h => h) (by kernel_rfl) ?hy7 (fun _ => (blk_cell HPB.out 2 _ rfl)) ?rest7
          case hy7 => (intro wq; first | (go_simp; done) | (go_simp; with_reducible rfl))
          try simp only [List.getElem_toArray, List.getElem_cons_zero, List.getElem_cons_succ, Act.put, List.setIfInBounds_toArray, List.set_cons_zero, List.set_cons_succ]
          have d4 := blk_cell HPB.out 2 (Value.slice a2 j c2) rfl
          have f4 := blk_free HPB.out 2
          refine wpAnyK_last (i := 12) (by kernel_rfl) rfl (by kernel_rfl) ?_
          intro K hK
          go_simp
          refine hK.out _ _ ?_
          clear hK K
          try simp only [List.getElem_toArray, List.getElem_cons_zero, List.getElem_cons_succ, Act.put, List.setIfInBounds_toArray, List.set_cons_zero, List.set_cons_succ]
          refine wpAnyK_done (by kernel_rfl) ?_ _
          refine NoPanic.normal ?_
          clear d4 f4
          go_wp2_with fail
          have kb : Keep (· ≠ P) wc (wc.setCell ⟨P, 2, none⟩ (.slice (some ⟨g1, 0, none⟩) (j + 1) c1)) := (Keep.refl _ _).setCell (fun _ h => h) 2 _
          go_roundg (e.needs.length - (j + 1))
          case measure => have h := hgk.out; omega
          case rel =>
            refine ⟨j + 1, some ⟨g1, 0, none⟩, c1, Lib.hid rfl, by omega, Lib.hid ?_, Lib.hid ?_, Lib.hid ?_, Lib.hid ?_⟩
            · have h := setCell_row HPB.out (i := 2) (.slice (some ⟨g1, 0, none⟩) (j + 1) c1)
              simpa using h
            · rw [HTS.out]
              exact ownsRow_keep HOW.out kb (fun g _ _ hb _ => by show g ≠ P; omega)
            · rw [← HRS.out]
              exact HRQ.out.keep kb (by show Q1 ≠ P; omega) (fun g _ hS => hS.2.1)
            · exact HKP.out.setCell (fun k h => h.2.1) 2 _
        · obtain rfl : j = e.needs.length := by omega
          rw [List.drop_length] at hRQ HMR
          rw [List.take_length] at hOW
          have hpos : decide (0 < ((([] : List NeedD).flatMap needB).length)) = false := by decide
          rw [hpos] at HMR
          clear hpos hgk hj hjl
          obtain ⟨an, han⟩ : ∃ x, x = a2 := ⟨_, rfl⟩
          subst han
          obtain ⟨cn, hcn⟩ : ∃ x, x = c2 := ⟨_, rfl⟩
          subst hcn
          have HQ1'' := hRQ
          have HPC' := hPB
          have HROW1 := hOW
          have hbs1 : b1 ≤ wr.heap.size := by rw [HBEb1.out]; exact hKP.out.size
          replace HQ0' := Lib.hid (HQ0'.out.keep hKP.out (by have h1 := HORD.out; have h2 := HBb1.out; exact ⟨by omega, by omega, by omega⟩) (fun g _ hS => by have h2 := HBb1.out; have h3 := hS.1; exact ⟨by omega, hS.2.1, hS.2.2.2.1⟩))
          replace HQ2' := Lib.hid (HQ2'.out.keep hKP.out (by have h1 := HORD.out; have h2 := HBb1.out; exact ⟨by omega, by omega, by omega⟩) (fun g _ hS => by have h2 := HBb1.out; have h3 := hS.1; exact ⟨by omega, hS.2.1, hS.2.2.2.1⟩))
          replace HQ3' := Lib.hid (HQ3'.out.keep hKP.out (by have h1 := HORD.out; have h2 := HBb1.out; exact ⟨by omega, by omega, by omega⟩) (fun g _ hS => by have h2 := HBb1.out; have h3 := hS.1; exact ⟨by omega, hS.2.1, hS.2.2.2.1⟩))
          replace HQ4' := Lib.hid (HQ4'.out.keep hKP.out (by have h1 := HORD.out; have h2 := HBb1.out; exact ⟨by omega, by omega, by omega⟩) (fun g _ hS => by have h2 := HBb1.out; have h3 := hS.1; exact ⟨by omega, hS.2.1, hS.2.2.2.1⟩))
          replace HXC := Lib.hid (((Keep.of_ext (S := fun j => j < W0.heap.size) HXC.out).andThen hKP.out (fun j hj _ => by have h1 := HORD.out; have h2 := HBb1.out; exact ⟨by omega, by omega, by omega⟩)).ext_lt)
          clear HPC
          have HPC := HPC'
          clear HPC'
          go_wp2_with (go_at_call 49; refine HMR.out.mono ?_; rintro E we ⟨rfl, rfl⟩)
          clear HMR hKP hRQ hPB hOW HQ1'
          obtain ⟨wM1, rfl⟩ : ∃ x : World, x = wr := ⟨_, rfl⟩
          obtain ⟨b2, hb2⟩ : ∃ x, x = wM1.heap.size := ⟨_, rfl⟩
          have HBb2 : Hid (base ≤ b2) := Lib.hid (by rw [hb2]; exact Nat.le_trans HBb1.out hbs1)
          have HBEb2 := Lib.hid hb2; clear hb2
          go_loopg [] e.conf.length (fun gk wr => ∃ (j : Nat) (a2 : Option Addr) (c2 : Nat), Hid (gk = e.conf.length - j) ∧ j ≤ e.conf.length ∧ Hid (wr.heap[P]? = some (.cells #[.string (bs e.name), .string (bs e.ver), .slice an e.needs.length cn, .slice a2 j c2, .slice none 0 0, .slice none 0 0] 37 (0, 0))) ∧ Hid (wr.ownsRow b2 9 1 (.slice a2 j c2) j ((e.conf.take j).flatMap strV1)) ∧ Hid (Rd (SB base P Q0 Q1 Q2 Q3 Q4) wr Q2 ((e.conf.drop j).flatMap raw4, false)) ∧ Hid (Keep (fun k => k < b2 ∧ k ≠ P ∧ k ≠ Q2) wM1 wr))
          case atStart => exact ⟨0, none, 0, Lib.hid (by simp), Nat.zero_le _, HPC, Lib.hid (World.ownsRow_nil _ _ _ _), HQ2', Lib.hid (Keep.refl _ _)⟩
          case round =>
            obtain ⟨j, a2, c2, hgk, hj, hPB, hOW, hRQ, hKP⟩ := hrel
            have hmr := rd_more _ _ _ _ hRQ.out
            have HMR := Lib.hid hmr; clear hmr
            by_cases hjl : j < e.conf.length
            · obtain ⟨m, hm⟩ : ∃ m, m = e.conf.getD j [] := ⟨_, rfl⟩
              have hfd := flat_drop (enc := raw4) (z := []) hjl
              have hts := take_snocU (V := strV1) (z := []) hjl
              rw [← hm] at hfd hts
              have hmm : m ∈ e.conf := by rw [hm, List.getD_eq_getElem?_getD, List.getElem?_eq_getElem hjl]; simp
              have hrl : ((e.conf.drop (j + 1)).flatMap raw4).length ≤ 5000 := by have := flat_drop_len raw4 e.conf (j + 1); omega
              obtain ⟨rest, hrs⟩ : ∃ r, r = (e.conf.drop (j + 1)).flatMap raw4 := ⟨_, rfl⟩
              rw [← hrs] at hfd hrl
              have HRS := Lib.hid hrs; clear hrs
              have HTS := Lib.hid hts; clear hts
              have hmr : m.length ≤ 60 := by
                have h := HGE.out.2.1
                unfold rightP at h
                simp only [Bool.and_eq_true] at h
                have h2 := (List.all_eq_true.1 h.2.2.1) m hmm
                unfold confR at h2
                simp only [Bool.and_eq_true] at h2
                have := nameL_12 h2.1
                omega
              have hen : raw4 m ++ rest = raw4 m ++ rest := rfl
              rw [hen] at hfd
              rw [hfd] at hRQ HMR
              have hpos : decide (0 < ((raw4 m ++ rest).length)) = true := by simp [raw4_len]; try omega
              rw [hpos] at HMR
              have HHM := Lib.hid hm; clear hm hpos hen hmm
              go_upto_region 11 with (go_at_call 49; refine HMR.out.mono ?_; rintro E we ⟨rfl, rfl⟩)
              clear HMR
              have HPB := Lib.hid ((Ext.refl wr).drew.heap hPB.out)
              have HRQ := Lib.hid (hRQ.out.ext (Ext.refl wr).drew)
              have HOW := Lib.hid (ownsRow_ext hOW.out (Ext.refl wr).drew)
              have HKP := Lib.hid (hKP.out.ext_trans (Ext.refl wr).drew)
              have hord := HORD.out
              have hbb := HBb2.out
              refine wp_region_noPanic ?_
              refine wp_region_K (S := (fun W => W.cell? ⟨P, 3, none⟩ = some (.slice a2 j c2))) (I := [1]) (by kernel_rfl) (blk_cell HPB.out 3 _ rfl) (fun hHeld => ?_)
              clear hHeld
              generalize wr.drew = wc at HPB HRQ HOW HKP ⊢
              refine wpAnyK_free (i := 0) (v := ?v1001) rfl (by kernel_rfl) (by kernel_rfl) (by kernel_rfl) (fun _ _ _ h => h) (by kernel_rfl) ?hy1001 (fun _ => (blk_cell HPB.out 3 _ rfl)) ?rest1001
              case hy1001 => (intro wq; first | (go_simp; done) | (go_simp; with_reducible rfl))
              try simp only [List.getElem_toArray, List.getElem_cons_zero, Act.put, List.setIfInBounds_toArray, List.set_cons_zero, List.set_cons_succ]
              refine wpAnyK_load (i := 1) (v := ?v1002) rfl (by kernel_rfl) (by kernel_rfl) (by kernel_rfl) (fun _ _ _ h => h) (by kernel_rfl) (by kernel_rfl) ?hy1002 (blk_cell HPB.out 3 _ rfl) ?rest1002
              case hy1002 => (intro wq hSw; (try dsimp only at hSw); first | (go_simp; done) | (go_simp; with_reducible rfl))
              try simp only [List.getElem_toArray, List.getElem_cons_zero, List.getElem_cons_succ, Act.put, List.setIfInBounds_toArray, List.set_cons_zero, List.set_cons_succ]
              refine wpAnyK_free (i := 2) (v := ?v1003) rfl (by kernel_rfl) (by kernel_rfl) (by kernel_rfl) (fun _ _ _ h => h) (by kernel_rfl) ?hy1003 (fun _ => (blk_cell HPB.out 3 _ rfl)) ?rest1003
              case hy1003 => (intro wq; first | (go_simp; done) | (go_simp; with_reducible rfl))
              try simp only [List.getElem_toArray, List.getElem_cons_zero, List.getElem_cons_succ, Act.put, List.setIfInBounds_toArray, List.set_cons_zero, List.set_cons_succ]
              refine wpAnyK_one (i := 3) (by kernel_rfl) rfl ?_
              intro K hK
              go_simp
              go_at_call 47
              refine (rdE_text HRQ.out hmr (by omega) (by omega)).mono ?_
              rintro E wn ⟨rfl, hrd, hbt⟩
              replace HPB := Lib.hid ((Keep.of_but hbt).heap (g := P) (by omega) HPB.out)
              replace HRQ := Lib.hid hrd
              replace HOW := Lib.hid (ownsRow_keep HOW.out (Keep.of_but hbt) (fun g _ _ hb _ => by show g ≠ Q2; omega))
              replace HKP := Lib.hid (HKP.out.trans ((Keep.of_but hbt).mono (fun k _ h => h.2.2)))
              clear hrd hbt
              go_wp2_with fail
              refine hK.out _ _ (blk_cell HPB.out 3 _ rfl) ?_
              clear hK K
              obtain ⟨wc, rfl⟩ : ∃ x : World, x = wn := ⟨_, rfl⟩
              try simp only [List.getElem_toArray, List.getElem_cons_zero, List.getElem_cons_succ, Act.put, List.setIfInBounds_toArray, List.set_cons_zero, List.set_cons_succ]
              refine wpAnyK_one (i := 4) (by kernel_rfl) rfl ?_
              intro K hK
              go_simp
              have hxa := Ext.alloc wc (.cells #[.string (bs m)] 9)
              have hbn := heap_alloc_new wc (.cells #[.string (bs m)] 9)
              obtain ⟨G, hV⟩ : ∃ x, x = wc.heap.size := ⟨_, rfl⟩
              rw [← hV] at hbn ⊢
              clear hV
              generalize wc.alloc (.cells #[.string (bs m)] 9) = wn at hxa hbn ⊢
              replace HPB := Lib.hid (hxa.heap HPB.out)
              replace HRQ := Lib.hid (HRQ.out.ext hxa)
              replace HOW := Lib.hid (ownsRow_ext HOW.out hxa)
              replace HKP := Lib.hid (HKP.out.ext_trans hxa)
              have HGB := Lib.hid hbn; clear hbn hxa
              refine hK.out _ _ (blk_cell HPB.out 3 _ rfl) ?_
              clear hK K
              obtain ⟨wc, rfl⟩ : ∃ x : World, x = wn := ⟨_, rfl⟩
              try simp only [List.getElem_toArray, List.getElem_cons_zero, List.getElem_cons_succ, Act.put, List.setIfInBounds_toArray, List.set_cons_zero, List.set_cons_succ]
              have hcz := HKP.out.size
              have hbz := HBEb2.out
              refine wpAnyK_one (i := 5) (by kernel_rfl) rfl ?_
              intro K hK
              refine step_append_big (by rfl) _ _ 28 9 (.string ⟨#[]⟩) 1 16 (by rfl) Tryz.underlying28 info_string rfl (by decide) b2 a2 j c2 _ (by simp [Act.eval]) HOW.out G 1 1 [.string (bs m)] _ _ (by simp [Act.eval]) (by rfl) HGB.out (by simp [Value.oneCell']) (by omega) (by omega) (by decide) (by omega) (j + 1) rfl ?_
              intro g1 c1 wn hown hk7 hb7 hat7
              replace HPB := Lib.hid ((Keep.of_below hb7).heap (g := P) (by show P < b2; omega) HPB.out)
              replace HRQ := Lib.hid (HRQ.out.keep (Keep.of_below hb7) (by show Q2 < b2; omega) (fun g _ hS => by have h := hS.1; show g < b2; omega))
              replace HOW := Lib.hid hown
              replace HKP := Lib.hid (HKP.out.trans ((Keep.of_below hb7).mono (fun _ _ h => h.1)))
              clear hown hk7 hb7 hat7
              refine hK.out _ _ (blk_cell HPB.out 3 _ rfl) ?_
              clear hK K
              obtain ⟨wc, rfl⟩ : ∃ x : World, x = wn := ⟨_, rfl⟩
              try simp only [List.getElem_toArray, List.getElem_cons_zero, List.getElem_cons_succ, Act.put, List.setIfInBounds_toArray, List.set_cons_zero, List.set_cons_succ]
              refine wpAnyK_free (i := 6) (v := ?v1004) rfl (by kernel_rfl) (by kernel_rfl) (by kernel_rfl) (fun _ _ _ h => h) (by kernel_rfl) ?hy1004 (fun _ => (blk_cell HPB.out 3 _ rfl)) ?rest1004
              case hy1004 => (intro wq; first | (go_simp; done) | (go_simp; with_reducible rfl))
              try simp only [List.getElem_toArray, List.getElem_cons_zero, List.getElem_cons_succ, Act.put, List.setIfInBounds_toArray, List.set_cons_zero, List.set_cons_succ]
              have d4 := blk_cell HPB.out 3 (Value.slice a2 j c2) rfl
              have f4 := blk_free HPB.out 3
              refine wpAnyK_last (i := 7) (by kernel_rfl) rfl (by kernel_rfl) ?_
              intro K hK
              go_simp
              refine hK.out _ _ ?_
              clear hK K
              try simp only [List.getElem_toArray, List.getElem_cons_zero, List.getElem_cons_succ, Act.put, List.setIfInBounds_toArray, List.set_cons_zero, List.set_cons_succ]
              refine wpAnyK_done (by kernel_rfl) ?_ _
              refine NoPanic.normal ?_
              clear d4 f4
              go_wp2_with fail
              have kb : Keep (· ≠ P) wc (wc.setCell ⟨P, 3, none⟩ (.slice (some ⟨g1, 0, none⟩) (j + 1) c1)) := (Keep.refl _ _).setCell (fun _ h => h) 3 _
              go_roundg (e.conf.length - (j + 1))
              case measure => have h := hgk.out; omega
              case rel =>
                refine ⟨j + 1, some ⟨g1, 0, none⟩, c1, Lib.hid rfl, by omega, Lib.hid ?_, Lib.hid ?_, Lib.hid ?_, Lib.hid ?_⟩
                · have h := setCell_row HPB.out (i := 3) (.slice (some ⟨g1, 0, none⟩) (j + 1) c1)
                  simpa using h
                · rw [HTS.out]
                  exact ownsRow_keep HOW.out kb (fun g _ _ hb _ => by show g ≠ P; omega)
                · rw [← HRS.out]
                  exact HRQ.out.keep kb (by show Q2 ≠ P; omega) (fun g _ hS => hS.2.1)
                · exact HKP.out.setCell (fun k h => h.2.1) 3 _
            · obtain rfl : j = e.conf.length := by omega
              rw [List.drop_length] at hRQ HMR
              rw [List.take_length] at hOW
              have hpos : decide (0 < ((([] : List By).flatMap raw4).length)) = false := by decide
              rw [hpos] at HMR
              clear hpos hgk hj hjl
              obtain ⟨ac, hac⟩ : ∃ x, x = a2 := ⟨_, rfl⟩
              subst hac
              obtain ⟨cq, hcq⟩ : ∃ x, x = c2 := ⟨_, rfl⟩
              subst hcq
              have HQ2'' := hRQ
              have HPC' := hPB
              have HROW2 := hOW
              have hbs2 : b2 ≤ wr.heap.size := by rw [HBEb2.out]; exact hKP.out.size
              replace HQ0' := Lib.hid (HQ0'.out.keep hKP.out (by have h1 := HORD.out; have h2 := HBb2.out; exact ⟨by omega, by omega, by omega⟩) (fun g _ hS => by have h2 := HBb2.out; have h3 := hS.1; exact ⟨by omega, hS.2.1, hS.2.2.2.2.1⟩))
              replace HQ1'' := Lib.hid (HQ1''.out.keep hKP.out (by have h1 := HORD.out; have h2 := HBb2.out; exact ⟨by omega, by omega, by omega⟩) (fun g _ hS => by have h2 := HBb2.out; have h3 := hS.1; exact ⟨by omega, hS.2.1, hS.2.2.2.2.1⟩))
              replace HQ3' := Lib.hid (HQ3'.out.keep hKP.out (by have h1 := HORD.out; have h2 := HBb2.out; exact ⟨by omega, by omega, by omega⟩) (fun g _ hS => by have h2 := HBb2.out; have h3 := hS.1; exact ⟨by omega, hS.2.1, hS.2.2.2.2.1⟩))
              replace HQ4' := Lib.hid (HQ4'.out.keep hKP.out (by have h1 := HORD.out; have h2 := HBb2.out; exact ⟨by omega, by omega, by omega⟩) (fun g _ hS => by have h2 := HBb2.out; have h3 := hS.1; exact ⟨by omega, hS.2.1, hS.2.2.2.2.1⟩))
              replace HROW1 := Lib.hid (ownsRow_keep HROW1.out hKP.out (fun g cur _ hb hc => by have h0 := (Array.getElem?_eq_some_iff.1 hc).1; have h1 := HORD.out; have h2 := HBb1.out; have h3 := HBEb2.out; exact ⟨by omega, by omega, by omega⟩))
              replace HXC := Lib.hid (((Keep.of_ext (S := fun j => j < W0.heap.size) HXC.out).andThen hKP.out (fun j hj _ => by have h1 := HORD.out; have h2 := HBb2.out; exact ⟨by omega, by omega, by omega⟩)).ext_lt)
              clear HPC
              have HPC := HPC'
              clear HPC'
              go_wp2_with (go_at_call 49; refine HMR.out.mono ?_; rintro E we ⟨rfl, rfl⟩)
              clear HMR hKP hRQ hPB hOW HQ2'
              obtain ⟨wM2, rfl⟩ : ∃ x : World, x = wr := ⟨_, rfl⟩
              obtain ⟨b3, hb3⟩ : ∃ x, x = wM2.heap.size := ⟨_, rfl⟩
              have HBb3 : Hid (base ≤ b3) := Lib.hid (by rw [hb3]; exact Nat.le_trans HBb2.out hbs2)
              have HBEb3 := Lib.hid hb3; clear hb3
              go_loopg [] e.files.length (fun gk wr => ∃ (j : Nat) (a2 : Option Addr) (c2 : Nat), Hid (gk = e.files.length - j) ∧ j ≤ e.files.length ∧ Hid (wr.heap[P]? = some (.cells #[.string (bs e.name), .string (bs e.ver), .slice an e.needs.length cn, .slice ac e.conf.length cq, .slice a2 j c2, .slice none 0 0] 37 (0, 0))) ∧ Hid (wr.ownsRow b3 71 3 (.slice a2 j c2) j ((e.files.take j).flatMap fileV3)) ∧ Hid (Rd (SB base P Q0 Q1 Q2 Q3 Q4) wr Q3 ((e.files.drop j).flatMap fileE, false)) ∧ Hid (Keep (fun k => k < b3 ∧ k ≠ P ∧ k ≠ Q3) wM2 wr))
              case atStart => exact ⟨0, none, 0, Lib.hid (by simp), Nat.zero_le _, HPC, Lib.hid (World.ownsRow_nil _ _ _ _), HQ3', Lib.hid (Keep.refl _ _)⟩
              case round =>
                obtain ⟨j, a2, c2, hgk, hj, hPB, hOW, hRQ, hKP⟩ := hrel
                have hmr := rd_more _ _ _ _ hRQ.out
                have HMR := Lib.hid hmr; clear hmr
                by_cases hjl : j < e.files.length
                · obtain ⟨m, hm⟩ : ∃ m, m = e.files.getD j fz := ⟨_, rfl⟩
                  have hfd := flat_drop (enc := fileE) (z := fz) hjl
                  have hts := take_snocU (V := fileV3) (z := fz) hjl
                  rw [← hm] at hfd hts
                  have hmm : m ∈ e.files := by rw [hm, List.getD_eq_getElem?_getD, List.getElem?_eq_getElem hjl]; simp
                  have hrl : ((e.files.drop (j + 1)).flatMap fileE).length ≤ 5000 := by have := flat_drop_len fileE e.files (j + 1); omega
                  obtain ⟨rest, hrs⟩ : ∃ r, r = (e.files.drop (j + 1)).flatMap fileE := ⟨_, rfl⟩
                  rw [← hrs] at hfd hrl
                  have HRS := Lib.hid hrs; clear hrs
                  have HTS := Lib.hid hts; clear hts
                  have hmr : m.path.length ≤ 60 ∧ m.data.length = 4 := by
                    have h := HGE.out.2.1
                    unfold rightP at h
                    simp only [Bool.and_eq_true] at h
                    have hff := filesTo_all h.2.2.2.2
                    rw [List.take_length] at hff
                    have hf1 := hff m hmm
                    unfold fileR at hf1
                    simp only [Bool.and_eq_true] at hf1
                    exact ⟨Nat.le_trans (rightL_40 hf1.1) (by omega), HGE.out.2.2 m hmm⟩
                  obtain ⟨mp, mc, md⟩ := m
                  simp only at hmr
                  have hen : fileE ⟨mp, mc, md⟩ ++ rest = raw4 mp ++ (num4 (boolN mc) ++ (md ++ rest)) := by simp [fileE]
                  rw [hen] at hfd
                  rw [hfd] at hRQ HMR
                  have hpos : decide (0 < ((raw4 mp ++ (num4 (boolN mc) ++ (md ++ rest))).length)) = true := by simp [raw4_len]; try omega
                  rw [hpos] at HMR
                  have HHM := Lib.hid hm; clear hm hpos hen hmm
                  go_upto_region 13 with (go_at_call 49; refine HMR.out.mono ?_; rintro E we ⟨rfl, rfl⟩)
                  clear HMR
                  have HPB := Lib.hid ((Ext.refl wr).drew.heap hPB.out)
                  have HRQ := Lib.hid (hRQ.out.ext (Ext.refl wr).drew)
                  have HOW := Lib.hid (ownsRow_ext hOW.out (Ext.refl wr).drew)
                  have HKP := Lib.hid (hKP.out.ext_trans (Ext.refl wr).drew)
                  have hord := HORD.out
                  have hbb := HBb3.out
                  refine wp_region_noPanic ?_
                  refine wp_region_K (S := (fun W => W.cell? ⟨P, 4, none⟩ = some (.slice a2 j c2))) (I := [1]) (by kernel_rfl) (blk_cell HPB.out 4 _ rfl) (fun hHeld => ?_)
                  clear hHeld
                  generalize wr.drew = wc at HPB HRQ HOW HKP ⊢
                  have hwr : IntKind.u32.wrap ((le32 md : Nat) : Int) = ((le32 md : Nat) : Int) := by have h := le32_lt md; exact IntWalk.u32_in _ (by omega)
                  refine wpAnyK_free (i := 0) (v := ?v2001) rfl (by kernel_rfl) (by kernel_rfl) (by kernel_rfl) (fun _ _ _ h => h) (by kernel_rfl) ?hy2001 (fun _ => (blk_cell HPB.out 4 _ rfl)) ?rest2001
                  case hy2001 => (intro wq; first | (go_simp; done) | (go_simp; with_reducible rfl))
                  try simp only [List.getElem_toArray, List.getElem_cons_zero, Act.put, List.setIfInBounds_toArray, List.set_cons_zero, List.set_cons_succ]
                  refine wpAnyK_load (i := 1) (v := ?v2002) rfl (by kernel_rfl) (by kernel_rfl) (by kernel_rfl) (fun _ _ _ h => h) (by kernel_rfl) (by kernel_rfl) ?hy2002 (blk_cell HPB.out 4 _ rfl) ?rest2002
                  case hy2002 => (intro wq hSw; (try dsimp only at hSw); first | (go_simp; done) | (go_simp; with_reducible rfl))
                  try simp only [List.getElem_toArray, List.getElem_cons_zero, List.getElem_cons_succ, Act.put, List.setIfInBounds_toArray, List.set_cons_zero, List.set_cons_succ]
                  refine wpAnyK_free (i := 2) (v := ?v2003) rfl (by kernel_rfl) (by kernel_rfl) (by kernel_rfl) (fun _ _ _ h => h) (by kernel_rfl) ?hy2003 (fun _ => (blk_cell HPB.out 4 _ rfl)) ?rest2003
                  case hy2003 => (intro wq; first | (go_simp; done) | (go_simp; with_reducible rfl))
                  try simp only [List.getElem_toArray, List.getElem_cons_zero, List.getElem_cons_succ, Act.put, List.setIfInBounds_toArray, List.set_cons_zero, List.set_cons_succ]
                  refine wpAnyK_free (i := 4) (v := ?v2004) rfl (by kernel_rfl) (by kernel_rfl) (by kernel_rfl) (fun _ _ _ h => h) (by kernel_rfl) ?hy2004 (fun _ => (blk_cell HPB.out 4 _ rfl)) ?rest2004
                  case hy2004 => (intro wq; first | (go_simp; done) | (go_simp; with_reducible rfl))
                  try simp only [List.getElem_toArray, List.getElem_cons_zero, List.getElem_cons_succ, Act.put, List.setIfInBounds_toArray, List.set_cons_zero, List.set_cons_succ]
                  refine wpAnyK_free (i := 6) (v := ?v2005) rfl (by kernel_rfl) (by kernel_rfl) (by kernel_rfl) (fun _ _ _ h => h) (by kernel_rfl) ?hy2005 (fun _ => (blk_cell HPB.out 4 _ rfl)) ?rest2005
                  case hy2005 => (intro wq; first | (go_simp; done) | (go_simp; with_reducible rfl))
                  try simp only [List.getElem_toArray, List.getElem_cons_zero, List.getElem_cons_succ, Act.put, List.setIfInBounds_toArray, List.set_cons_zero, List.set_cons_succ]
                  refine wpAnyK_one (i := 3) (by kernel_rfl) rfl ?_
                  intro K hK
                  go_simp
                  go_at_call 47
                  refine (rdE_text HRQ.out hmr.1 (by omega) (by simp [num4_len]; omega)).mono ?_
                  rintro E wn ⟨rfl, hrd, hbt⟩
                  replace HPB := Lib.hid ((Keep.of_but hbt).heap (g := P) (by omega) HPB.out)
                  replace HRQ := Lib.hid hrd
                  replace HOW := Lib.hid (ownsRow_keep HOW.out (Keep.of_but hbt) (fun g _ _ hb _ => by show g ≠ Q3; omega))
                  replace HKP := Lib.hid (HKP.out.trans ((Keep.of_but hbt).mono (fun k _ h => h.2.2)))
                  clear hrd hbt
                  go_wp2_with fail
                  refine hK.out _ _ (blk_cell HPB.out 4 _ rfl) ?_
                  clear hK K
                  obtain ⟨wc, rfl⟩ : ∃ x : World, x = wn := ⟨_, rfl⟩
                  try simp only [List.getElem_toArray, List.getElem_cons_zero, List.getElem_cons_succ, Act.put, List.setIfInBounds_toArray, List.set_cons_zero, List.set_cons_succ]
                  refine wpAnyK_one (i := 5) (by kernel_rfl) rfl ?_
                  intro K hK
                  go_simp
                  go_at_call 51
                  refine (rdE_config HRQ.out (by simp; omega)).mono ?_
                  rintro E wn ⟨rfl, hrd, hbt⟩
                  replace HPB := Lib.hid ((Keep.of_but hbt).heap (g := P) (by omega) HPB.out)
                  replace HRQ := Lib.hid hrd
                  replace HOW := Lib.hid (ownsRow_keep HOW.out (Keep.of_but hbt) (fun g _ _ hb _ => by show g ≠ Q3; omega))
                  replace HKP := Lib.hid (HKP.out.trans ((Keep.of_but hbt).mono (fun k _ h => h.2.2)))
                  clear hrd hbt
                  go_wp2_with fail
                  refine hK.out _ _ (blk_cell HPB.out 4 _ rfl) ?_
                  clear hK K
                  obtain ⟨wc, rfl⟩ : ∃ x : World, x = wn := ⟨_, rfl⟩
                  try simp only [List.getElem_toArray, List.getElem_cons_zero, List.getElem_cons_succ, Act.put, List.setIfInBounds_toArray, List.set_cons_zero, List.set_cons_succ]
                  refine wpAnyK_one (i := 7) (by kernel_rfl) rfl ?_
                  intro K hK
                  go_simp
                  go_at_call 50
                  refine (rdE_sum HRQ.out hmr.2 (by omega)).mono ?_
                  rintro E wn ⟨rfl, hrd, hbt⟩
                  replace HPB := Lib.hid ((Keep.of_but hbt).heap (g := P) (by omega) HPB.out)
                  replace HRQ := Lib.hid hrd
                  replace HOW := Lib.hid (ownsRow_keep HOW.out (Keep.of_but hbt) (fun g _ _ hb _ => by show g ≠ Q3; omega))
                  replace HKP := Lib.hid (HKP.out.trans ((Keep.of_but hbt).mono (fun k _ h => h.2.2)))
                  clear hrd hbt
                  go_wp2_with fail
                  refine hK.out _ _ (blk_cell HPB.out 4 _ rfl) ?_
                  clear hK K
                  obtain ⟨wc, rfl⟩ : ∃ x : World, x = wn := ⟨_, rfl⟩
                  try simp only [List.getElem_toArray, List.getElem_cons_zero, List.getElem_cons_succ, Act.put, List.setIfInBounds_toArray, List.set_cons_zero, List.set_cons_succ]
                  refine wpAnyK_free (i := 8) (v := ?v2006) rfl (by kernel_rfl) (by kernel_rfl) (by kernel_rfl) (fun _ _ _ h => h) (by kernel_rfl) ?hy2006 (fun _ => (blk_cell HPB.out 4 _ rfl)) ?rest2006
                  case hy2006 => (intro wq; first | (go_simp; done) | (go_simp; with_reducible rfl))
                  try simp only [List.getElem_toArray, List.getElem_cons_zero, List.getElem_cons_succ, Act.put, List.setIfInBounds_toArray, List.set_cons_zero, List.set_cons_succ]
                  refine wpAnyK_free (i := 9) (v := ?v2007) rfl (by kernel_rfl) (by kernel_rfl) (by kernel_rfl) (fun _ _ _ h => h) (by kernel_rfl) ?hy2007 (fun _ => (blk_cell HPB.out 4 _ rfl)) ?rest2007
                  case hy2007 => (intro wq; first | (go_simp; done) | (go_simp; with_reducible rfl))
                  try simp only [List.getElem_toArray, List.getElem_cons_zero, List.getElem_cons_succ, Act.put, List.setIfInBounds_toArray, List.set_cons_zero, List.set_cons_succ]
                  refine wpAnyK_one (i := 10) (by kernel_rfl) rfl ?_
                  intro K hK
                  go_simp
                  have hxa := Ext.alloc wc (.cells #[.string (bs mp), .bool mc, .int .u32 (le32 md : Nat)] 71)
                  have hbn := heap_alloc_new wc (.cells #[.string (bs mp), .bool mc, .int .u32 (le32 md : Nat)] 71)
                  obtain ⟨G, hV⟩ : ∃ x, x = wc.heap.size := ⟨_, rfl⟩
                  rw [← hV] at hbn ⊢
                  clear hV
                  generalize wc.alloc (.cells #[.string (bs mp), .bool mc, .int .u32 (le32 md : Nat)] 71) = wn at hxa hbn ⊢
                  replace HPB := Lib.hid (hxa.heap HPB.out)
                  replace HRQ := Lib.hid (HRQ.out.ext hxa)
                  replace HOW := Lib.hid (ownsRow_ext HOW.out hxa)
                  replace HKP := Lib.hid (HKP.out.ext_trans hxa)
                  have HGB := Lib.hid hbn; clear hbn hxa
                  refine hK.out _ _ (blk_cell HPB.out 4 _ rfl) ?_
                  clear hK K
                  obtain ⟨wc, rfl⟩ : ∃ x : World, x = wn := ⟨_, rfl⟩
                  try simp only [List.getElem_toArray, List.getElem_cons_zero, List.getElem_cons_succ, Act.put, List.setIfInBounds_toArray, List.set_cons_zero, List.set_cons_succ]
                  have hcz := HKP.out.size
                  have hbz := HBEb3.out
                  refine wpAnyK_one (i := 11) (by kernel_rfl) rfl ?_
                  intro K hK
                  refine step_append_big (by rfl) _ _ 35 71 (.agg #[.string ⟨#[]⟩, .bool false, .int .u32 0]) 3 24 (by rfl) Tryz.underlying35 info_filee rfl (by decide) b3 a2 j c2 _ (by simp [Act.eval]) HOW.out G 1 1 [.string (bs mp), .bool mc, .int .u32 (le32 md : Nat)] _ _ (by simp [Act.eval]) (by rfl) HGB.out (by simp [Value.oneCell']) (by omega) (by omega) (by decide) (by omega) (j + 1) rfl ?_
                  intro g1 c1 wn hown hk7 hb7 hat7
                  replace HPB := Lib.hid ((Keep.of_below hb7).heap (g := P) (by show P < b3; omega) HPB.out)
                  replace HRQ := Lib.hid (HRQ.out.keep (Keep.of_below hb7) (by show Q3 < b3; omega) (fun g _ hS => by have h := hS.1; show g < b3; omega))
                  replace HOW := Lib.hid hown
                  replace HKP := Lib.hid (HKP.out.trans ((Keep.of_below hb7).mono (fun _ _ h => h.1)))
                  clear hown hk7 hb7 hat7
                  refine hK.out _ _ (blk_cell HPB.out 4 _ rfl) ?_
                  clear hK K
                  obtain ⟨wc, rfl⟩ : ∃ x : World, x = wn := ⟨_, rfl⟩
                  try simp only [List.getElem_toArray, List.getElem_cons_zero, List.getElem_cons_succ, Act.put, List.setIfInBounds_toArray, List.set_cons_zero, List.set_cons_succ]
                  refine wpAnyK_free (i := 12) (v := ?v2008) rfl (by kernel_rfl) (by kernel_rfl) (by kernel_rfl) (fun _ _ _ h => h) (by kernel_rfl) ?hy2008 (fun _ => (blk_cell HPB.out 4 _ rfl)) ?rest2008
                  case hy2008 => (intro wq; first | (go_simp; done) | (go_simp; with_reducible rfl))
                  try simp only [List.getElem_toArray, List.getElem_cons_zero, List.getElem_cons_succ, Act.put, List.setIfInBounds_toArray, List.set_cons_zero, List.set_cons_succ]
                  have d4 := blk_cell HPB.out 4 (Value.slice a2 j c2) rfl
                  have f4 := blk_free HPB.out 4
                  refine wpAnyK_last (i := 13) (by kernel_rfl) rfl (by kernel_rfl) ?_
                  intro K hK
                  go_simp
                  refine hK.out _ _ ?_
                  clear hK K
                  try simp only [List.getElem_toArray, List.getElem_cons_zero, List.getElem_cons_succ, Act.put, List.setIfInBounds_toArray, List.set_cons_zero, List.set_cons_succ]
                  refine wpAnyK_done (by kernel_rfl) ?_ _
                  refine NoPanic.normal ?_
                  clear d4 f4
                  go_wp2_with fail
                  have kb : Keep (· ≠ P) wc (wc.setCell ⟨P, 4, none⟩ (.slice (some ⟨g1, 0, none⟩) (j + 1) c1)) := (Keep.refl _ _).setCell (fun _ h => h) 4 _
                  go_roundg (e.files.length - (j + 1))
                  case measure => have h := hgk.out; omega
                  case rel =>
                    refine ⟨j + 1, some ⟨g1, 0, none⟩, c1, Lib.hid rfl, by omega, Lib.hid ?_, Lib.hid ?_, Lib.hid ?_, Lib.hid ?_⟩
                    · have h := setCell_row HPB.out (i := 4) (.slice (some ⟨g1, 0, none⟩) (j + 1) c1)
                      simpa using h
                    · rw [HTS.out]
                      exact ownsRow_keep HOW.out kb (fun g _ _ hb _ => by show g ≠ P; omega)
                    · rw [← HRS.out]
                      exact HRQ.out.keep kb (by show Q3 ≠ P; omega) (fun g _ hS => hS.2.1)
                    · exact HKP.out.setCell (fun k h => h.2.1) 4 _
                · obtain rfl : j = e.files.length := by omega
                  rw [List.drop_length] at hRQ HMR
                  rw [List.take_length] at hOW
                  have hpos : decide (0 < ((([] : List FileD).flatMap fileE).length)) = false := by decide
                  rw [hpos] at HMR
                  clear hpos hgk hj hjl
                  obtain ⟨af, haf⟩ : ∃ x, x = a2 := ⟨_, rfl⟩
                  subst haf
                  obtain ⟨cf, hcf⟩ : ∃ x, x = c2 := ⟨_, rfl⟩
                  subst hcf
                  have HQ3'' := hRQ
                  have HPC' := hPB
                  have HROW3 := hOW
                  have hbs3 : b3 ≤ wr.heap.size := by rw [HBEb3.out]; exact hKP.out.size
                  replace HQ0' := Lib.hid (HQ0'.out.keep hKP.out (by have h1 := HORD.out; have h2 := HBb3.out; exact ⟨by omega, by omega, by omega⟩) (fun g _ hS => by have h2 := HBb3.out; have h3 := hS.1; exact ⟨by omega, hS.2.1, hS.2.2.2.2.2.1⟩))
                  replace HQ1'' := Lib.hid (HQ1''.out.keep hKP.out (by have h1 := HORD.out; have h2 := HBb3.out; exact ⟨by omega, by omega, by omega⟩) (fun g _ hS => by have h2 := HBb3.out; have h3 := hS.1; exact ⟨by omega, hS.2.1, hS.2.2.2.2.2.1⟩))
                  replace HQ2'' := Lib.hid (HQ2''.out.keep hKP.out (by have h1 := HORD.out; have h2 := HBb3.out; exact ⟨by omega, by omega, by omega⟩) (fun g _ hS => by have h2 := HBb3.out; have h3 := hS.1; exact ⟨by omega, hS.2.1, hS.2.2.2.2.2.1⟩))
                  replace HQ4' := Lib.hid (HQ4'.out.keep hKP.out (by have h1 := HORD.out; have h2 := HBb3.out; exact ⟨by omega, by omega, by omega⟩) (fun g _ hS => by have h2 := HBb3.out; have h3 := hS.1; exact ⟨by omega, hS.2.1, hS.2.2.2.2.2.1⟩))
                  replace HROW1 := Lib.hid (ownsRow_keep HROW1.out hKP.out (fun g cur _ hb hc => by have h0 := (Array.getElem?_eq_some_iff.1 hc).1; have h1 := HORD.out; have h2 := HBb1.out; have h3 := HBEb3.out; exact ⟨by omega, by omega, by omega⟩))
                  replace HROW2 := Lib.hid (ownsRow_keep HROW2.out hKP.out (fun g cur _ hb hc => by have h0 := (Array.getElem?_eq_some_iff.1 hc).1; have h1 := HORD.out; have h2 := HBb2.out; have h3 := HBEb3.out; exact ⟨by omega, by omega, by omega⟩))
                  replace HXC := Lib.hid (((Keep.of_ext (S := fun j => j < W0.heap.size) HXC.out).andThen hKP.out (fun j hj _ => by have h1 := HORD.out; have h2 := HBb3.out; exact ⟨by omega, by omega, by omega⟩)).ext_lt)
                  clear HPC
                  have HPC := HPC'
                  clear HPC'
                  go_wp2_with (go_at_call 49; refine HMR.out.mono ?_; rintro E we ⟨rfl, rfl⟩)
                  clear HMR hKP hRQ hPB hOW HQ3'
                  obtain ⟨wM3, rfl⟩ : ∃ x : World, x = wr := ⟨_, rfl⟩
                  obtain ⟨b4, hb4⟩ : ∃ x, x = wM3.heap.size := ⟨_, rfl⟩
                  have HBb4 : Hid (base ≤ b4) := Lib.hid (by rw [hb4]; exact Nat.le_trans HBb3.out hbs3)
                  have HBEb4 := Lib.hid hb4; clear hb4
                  go_loopg [] e.units.length (fun gk wr => ∃ (j : Nat) (a2 : Option Addr) (c2 : Nat), Hid (gk = e.units.length - j) ∧ j ≤ e.units.length ∧ Hid (wr.heap[P]? = some (.cells #[.string (bs e.name), .string (bs e.ver), .slice an e.needs.length cn, .slice ac e.conf.length cq, .slice af e.files.length cf, .slice a2 j c2] 37 (0, 0))) ∧ Hid (wr.ownsRow b4 9 1 (.slice a2 j c2) j ((e.units.take j).flatMap strV1)) ∧ Hid (Rd (SB base P Q0 Q1 Q2 Q3 Q4) wr Q4 ((e.units.drop j).flatMap raw4, false)) ∧ Hid (Keep (fun k => k < b4 ∧ k ≠ P ∧ k ≠ Q4) wM3 wr))
                  case atStart => exact ⟨0, none, 0, Lib.hid (by simp), Nat.zero_le _, HPC, Lib.hid (World.ownsRow_nil _ _ _ _), HQ4', Lib.hid (Keep.refl _ _)⟩
                  case round =>
                    obtain ⟨j, a2, c2, hgk, hj, hPB, hOW, hRQ, hKP⟩ := hrel
                    have hmr := rd_more _ _ _ _ hRQ.out
                    have HMR := Lib.hid hmr; clear hmr
                    by_cases hjl : j < e.units.length
                    · obtain ⟨m, hm⟩ : ∃ m, m = e.units.getD j [] := ⟨_, rfl⟩
                      have hfd := flat_drop (enc := raw4) (z := []) hjl
                      have hts := take_snocU (V := strV1) (z := []) hjl
                      rw [← hm] at hfd hts
                      have hmm : m ∈ e.units := by rw [hm, List.getD_eq_getElem?_getD, List.getElem?_eq_getElem hjl]; simp
                      have hrl : ((e.units.drop (j + 1)).flatMap raw4).length ≤ 5000 := by have := flat_drop_len raw4 e.units (j + 1); omega
                      obtain ⟨rest, hrs⟩ : ∃ r, r = (e.units.drop (j + 1)).flatMap raw4 := ⟨_, rfl⟩
                      rw [← hrs] at hfd hrl
                      have HRS := Lib.hid hrs; clear hrs
                      have HTS := Lib.hid hts; clear hts
                      have hmr : m.length ≤ 300 := by
                        have h := HGE.out.2.1
                        unfold rightP at h
                        simp only [Bool.and_eq_true] at h
                        have h2 := (List.all_eq_true.1 h.2.2.2.1) m hmm
                        simpa using h2
                      have hen : raw4 m ++ rest = raw4 m ++ rest := rfl
                      rw [hen] at hfd
                      rw [hfd] at hRQ HMR
                      have hpos : decide (0 < ((raw4 m ++ rest).length)) = true := by simp [raw4_len]; try omega
                      rw [hpos] at HMR
                      have HHM := Lib.hid hm; clear hm hpos hen hmm
                      go_upto_region 15 with (go_at_call 49; refine HMR.out.mono ?_; rintro E we ⟨rfl, rfl⟩)
                      clear HMR
                      have HPB := Lib.hid ((Ext.refl wr).drew.heap hPB.out)
                      have HRQ := Lib.hid (hRQ.out.ext (Ext.refl wr).drew)
                      have HOW := Lib.hid (ownsRow_ext hOW.out (Ext.refl wr).drew)
                      have HKP := Lib.hid (hKP.out.ext_trans (Ext.refl wr).drew)
                      have hord := HORD.out
                      have hbb := HBb4.out
                      refine wp_region_noPanic ?_
                      refine wp_region_K (S := (fun W => W.cell? ⟨P, 5, none⟩ = some (.slice a2 j c2))) (I := [1]) (by kernel_rfl) (blk_cell HPB.out 5 _ rfl) (fun hHeld => ?_)
                      clear hHeld
                      generalize wr.drew = wc at HPB HRQ HOW HKP ⊢
                      refine wpAnyK_free (i := 0) (v := ?v3001) rfl (by kernel_rfl) (by kernel_rfl) (by kernel_rfl) (fun _ _ _ h => h) (by kernel_rfl) ?hy3001 (fun _ => (blk_cell HPB.out 5 _ rfl)) ?rest3001
                      case hy3001 => (intro wq; first | (go_simp; done) | (go_simp; with_reducible rfl))
                      try simp only [List.getElem_toArray, List.getElem_cons_zero, Act.put, List.setIfInBounds_toArray, List.set_cons_zero, List.set_cons_succ]
                      refine wpAnyK_load (i := 1) (v := ?v3002) rfl (by kernel_rfl) (by kernel_rfl) (by kernel_rfl) (fun _ _ _ h => h) (by kernel_rfl) (by kernel_rfl) ?hy3002 (blk_cell HPB.out 5 _ rfl) ?rest3002
                      case hy3002 => (intro wq hSw; (try dsimp only at hSw); first | (go_simp; done) | (go_simp; with_reducible rfl))
                      try simp only [List.getElem_toArray, List.getElem_cons_zero, List.getElem_cons_succ, Act.put, List.setIfInBounds_toArray, List.set_cons_zero, List.set_cons_succ]
                      refine wpAnyK_free (i := 2) (v := ?v3003) rfl (by kernel_rfl) (by kernel_rfl) (by kernel_rfl) (fun _ _ _ h => h) (by kernel_rfl) ?hy3003 (fun _ => (blk_cell HPB.out 5 _ rfl)) ?rest3003
                      case hy3003 => (intro wq; first | (go_simp; done) | (go_simp; with_reducible rfl))
                      try simp only [List.getElem_toArray, List.getElem_cons_zero, List.getElem_cons_succ, Act.put, List.setIfInBounds_toArray, List.set_cons_zero, List.set_cons_succ]
                      refine wpAnyK_one (i := 3) (by kernel_rfl) rfl ?_
                      intro K hK
                      go_simp
                      go_at_call 47
                      refine (rdE_text HRQ.out hmr (by omega) (by omega)).mono ?_
                      rintro E wn ⟨rfl, hrd, hbt⟩
                      replace HPB := Lib.hid ((Keep.of_but hbt).heap (g := P) (by omega) HPB.out)
                      replace HRQ := Lib.hid hrd
                      replace HOW := Lib.hid (ownsRow_keep HOW.out (Keep.of_but hbt) (fun g _ _ hb _ => by show g ≠ Q4; omega))
                      replace HKP := Lib.hid (HKP.out.trans ((Keep.of_but hbt).mono (fun k _ h => h.2.2)))
                      clear hrd hbt
                      go_wp2_with fail
                      refine hK.out _ _ (blk_cell HPB.out 5 _ rfl) ?_
                      clear hK K
                      obtain ⟨wc, rfl⟩ : ∃ x : World, x = wn := ⟨_, rfl⟩
                      try simp only [List.getElem_toArray, List.getElem_cons_zero, List.getElem_cons_succ, Act.put, List.setIfInBounds_toArray, List.set_cons_zero, List.set_cons_succ]
                      refine wpAnyK_one (i := 4) (by kernel_rfl) rfl ?_
                      intro K hK
                      go_simp
                      have hxa := Ext.alloc wc (.cells #[.string (bs m)] 9)
                      have hbn := heap_alloc_new wc (.cells #[.string (bs m)] 9)
                      obtain ⟨G, hV⟩ : ∃ x, x = wc.heap.size := ⟨_, rfl⟩
                      rw [← hV] at hbn ⊢
                      clear hV
                      generalize wc.alloc (.cells #[.string (bs m)] 9) = wn at hxa hbn ⊢
                      replace HPB := Lib.hid (hxa.heap HPB.out)
                      replace HRQ := Lib.hid (HRQ.out.ext hxa)
                      replace HOW := Lib.hid (ownsRow_ext HOW.out hxa)
                      replace HKP := Lib.hid (HKP.out.ext_trans hxa)
                      have HGB := Lib.hid hbn; clear hbn hxa
                      refine hK.out _ _ (blk_cell HPB.out 5 _ rfl) ?_
                      clear hK K
                      obtain ⟨wc, rfl⟩ : ∃ x : World, x = wn := ⟨_, rfl⟩
                      try simp only [List.getElem_toArray, List.getElem_cons_zero, List.getElem_cons_succ, Act.put, List.setIfInBounds_toArray, List.set_cons_zero, List.set_cons_succ]
                      have hcz := HKP.out.size
                      have hbz := HBEb4.out
                      refine wpAnyK_one (i := 5) (by kernel_rfl) rfl ?_
                      intro K hK
                      refine step_append_big (by rfl) _ _ 28 9 (.string ⟨#[]⟩) 1 16 (by rfl) Tryz.underlying28 info_string rfl (by decide) b4 a2 j c2 _ (by simp [Act.eval]) HOW.out G 1 1 [.string (bs m)] _ _ (by simp [Act.eval]) (by rfl) HGB.out (by simp [Value.oneCell']) (by omega) (by omega) (by decide) (by omega) (j + 1) rfl ?_
                      intro g1 c1 wn hown hk7 hb7 hat7
                      replace HPB := Lib.hid ((Keep.of_below hb7).heap (g := P) (by show P < b4; omega) HPB.out)
                      replace HRQ := Lib.hid (HRQ.out.keep (Keep.of_below hb7) (by show Q4 < b4; omega) (fun g _ hS => by have h := hS.1; show g < b4; omega))
                      replace HOW := Lib.hid hown
                      replace HKP := Lib.hid (HKP.out.trans ((Keep.of_below hb7).mono (fun _ _ h => h.1)))
                      clear hown hk7 hb7 hat7
                      refine hK.out _ _ (blk_cell HPB.out 5 _ rfl) ?_
                      clear hK K
                      obtain ⟨wc, rfl⟩ : ∃ x : World, x = wn := ⟨_, rfl⟩
                      try simp only [List.getElem_toArray, List.getElem_cons_zero, List.getElem_cons_succ, Act.put, List.setIfInBounds_toArray, List.set_cons_zero, List.set_cons_succ]
                      refine wpAnyK_free (i := 6) (v := ?v3004) rfl (by kernel_rfl) (by kernel_rfl) (by kernel_rfl) (fun _ _ _ h => h) (by kernel_rfl) ?hy3004 (fun _ => (blk_cell HPB.out 5 _ rfl)) ?rest3004
                      case hy3004 => (intro wq; first | (go_simp; done) | (go_simp; with_reducible rfl))
                      try simp only [List.getElem_toArray, List.getElem_cons_zero, List.getElem_cons_succ, Act.put, List.setIfInBounds_toArray, List.set_cons_zero, List.set_cons_succ]
                      have d4 := blk_cell HPB.out 5 (Value.slice a2 j c2) rfl
                      have f4 := blk_free HPB.out 5
                      refine wpAnyK_last (i := 7) (by kernel_rfl) rfl (by kernel_rfl) ?_
                      intro K hK
                      go_simp
                      refine hK.out _ _ ?_
                      clear hK K
                      try simp only [List.getElem_toArray, List.getElem_cons_zero, List.getElem_cons_succ, Act.put, List.setIfInBounds_toArray, List.set_cons_zero, List.set_cons_succ]
                      refine wpAnyK_done (by kernel_rfl) ?_ _
                      refine NoPanic.normal ?_
                      clear d4 f4
                      go_wp2_with fail
                      have kb : Keep (· ≠ P) wc (wc.setCell ⟨P, 5, none⟩ (.slice (some ⟨g1, 0, none⟩) (j + 1) c1)) := (Keep.refl _ _).setCell (fun _ h => h) 5 _
                      go_roundg (e.units.length - (j + 1))
                      case measure => have h := hgk.out; omega
                      case rel =>
                        refine ⟨j + 1, some ⟨g1, 0, none⟩, c1, Lib.hid rfl, by omega, Lib.hid ?_, Lib.hid ?_, Lib.hid ?_, Lib.hid ?_⟩
                        · have h := setCell_row HPB.out (i := 5) (.slice (some ⟨g1, 0, none⟩) (j + 1) c1)
                          simpa using h
                        · rw [HTS.out]
                          exact ownsRow_keep HOW.out kb (fun g _ _ hb _ => by show g ≠ P; omega)
                        · rw [← HRS.out]
                          exact HRQ.out.keep kb (by show Q4 ≠ P; omega) (fun g _ hS => hS.2.1)
                        · exact HKP.out.setCell (fun k h => h.2.1) 5 _
                    · obtain rfl : j = e.units.length := by omega
                      rw [List.drop_length] at hRQ HMR
                      rw [List.take_length] at hOW
                      have hpos : decide (0 < ((([] : List By).flatMap raw4).length)) = false := by decide
                      rw [hpos] at HMR
                      clear hpos hgk hj hjl
                      obtain ⟨au, hau⟩ : ∃ x, x = a2 := ⟨_, rfl⟩
                      subst hau
                      obtain ⟨cu, hcu⟩ : ∃ x, x = c2 := ⟨_, rfl⟩
                      subst hcu
                      have HQ4'' := hRQ
                      have HPC' := hPB
                      have HROW4 := hOW
                      have hbs4 : b4 ≤ wr.heap.size := by rw [HBEb4.out]; exact hKP.out.size
                      replace HQ0' := Lib.hid (HQ0'.out.keep hKP.out (by have h1 := HORD.out; have h2 := HBb4.out; exact ⟨by omega, by omega, by omega⟩) (fun g _ hS => by have h2 := HBb4.out; have h3 := hS.1; exact ⟨by omega, hS.2.1, hS.2.2.2.2.2.2⟩))
                      replace HQ1'' := Lib.hid (HQ1''.out.keep hKP.out (by have h1 := HORD.out; have h2 := HBb4.out; exact ⟨by omega, by omega, by omega⟩) (fun g _ hS => by have h2 := HBb4.out; have h3 := hS.1; exact ⟨by omega, hS.2.1, hS.2.2.2.2.2.2⟩))
                      replace HQ2'' := Lib.hid (HQ2''.out.keep hKP.out (by have h1 := HORD.out; have h2 := HBb4.out; exact ⟨by omega, by omega, by omega⟩) (fun g _ hS => by have h2 := HBb4.out; have h3 := hS.1; exact ⟨by omega, hS.2.1, hS.2.2.2.2.2.2⟩))
                      replace HQ3'' := Lib.hid (HQ3''.out.keep hKP.out (by have h1 := HORD.out; have h2 := HBb4.out; exact ⟨by omega, by omega, by omega⟩) (fun g _ hS => by have h2 := HBb4.out; have h3 := hS.1; exact ⟨by omega, hS.2.1, hS.2.2.2.2.2.2⟩))
                      replace HROW1 := Lib.hid (ownsRow_keep HROW1.out hKP.out (fun g cur _ hb hc => by have h0 := (Array.getElem?_eq_some_iff.1 hc).1; have h1 := HORD.out; have h2 := HBb1.out; have h3 := HBEb4.out; exact ⟨by omega, by omega, by omega⟩))
                      replace HROW2 := Lib.hid (ownsRow_keep HROW2.out hKP.out (fun g cur _ hb hc => by have h0 := (Array.getElem?_eq_some_iff.1 hc).1; have h1 := HORD.out; have h2 := HBb2.out; have h3 := HBEb4.out; exact ⟨by omega, by omega, by omega⟩))
                      replace HROW3 := Lib.hid (ownsRow_keep HROW3.out hKP.out (fun g cur _ hb hc => by have h0 := (Array.getElem?_eq_some_iff.1 hc).1; have h1 := HORD.out; have h2 := HBb3.out; have h3 := HBEb4.out; exact ⟨by omega, by omega, by omega⟩))
                      replace HXC := Lib.hid (((Keep.of_ext (S := fun j => j < W0.heap.size) HXC.out).andThen hKP.out (fun j hj _ => by have h1 := HORD.out; have h2 := HBb4.out; exact ⟨by omega, by omega, by omega⟩)).ext_lt)
                      clear HPC
                      have HPC := HPC'
                      clear HPC'
                      clear hRQ hPB hOW
                      obtain ⟨wM4, rfl⟩ : ∃ x : World, x = wr := ⟨_, rfl⟩
                      have hd0 : Calls Tryz.prog 52 #[.pointer (some ⟨Q0, 0, none⟩)] wM4 (fun e w' => e = .returned (.bool true) ∧ wM4 = w') := rd_done _ Q0 _ wM4 HQ0'.out
                      have HD0 := Lib.hid hd0; clear hd0
                      have hd1 : Calls Tryz.prog 52 #[.pointer (some ⟨Q1, 0, none⟩)] wM4 (fun e w' => e = .returned (.bool true) ∧ wM4 = w') := rd_done _ Q1 _ wM4 HQ1''.out
                      have HD1 := Lib.hid hd1; clear hd1
                      have hd2 : Calls Tryz.prog 52 #[.pointer (some ⟨Q2, 0, none⟩)] wM4 (fun e w' => e = .returned (.bool true) ∧ wM4 = w') := rd_done _ Q2 _ wM4 HQ2''.out
                      have HD2 := Lib.hid hd2; clear hd2
                      have hd3 : Calls Tryz.prog 52 #[.pointer (some ⟨Q3, 0, none⟩)] wM4 (fun e w' => e = .returned (.bool true) ∧ wM4 = w') := rd_done _ Q3 _ wM4 HQ3''.out
                      have HD3 := Lib.hid hd3; clear hd3
                      have hd4 : Calls Tryz.prog 52 #[.pointer (some ⟨Q4, 0, none⟩)] wM4 (fun e w' => e = .returned (.bool true) ∧ wM4 = w') := rd_done _ Q4 _ wM4 HQ4''.out
                      have HD4 := Lib.hid hd4; clear hd4
                      obtain ⟨b, A, hB0, hM0⟩ := hBB.out
                      have hB4 := HXC.out.heap hB0
                      have bb := blk_cell hB4 0 (Value.map (some b)) rfl
                      have c0 := blk_cell HPC.out 0 (Value.string (bs e.name)) rfl
                      have c1 := blk_cell HPC.out 1 (Value.string (bs e.ver)) rfl
                      have c2 := blk_cell HPC.out 2 (Value.slice an e.needs.length cn) rfl
                      have c3 := blk_cell HPC.out 3 (Value.slice ac e.conf.length cq) rfl
                      have c4 := blk_cell HPC.out 4 (Value.slice af e.files.length cf) rfl
                      have c5 := blk_cell HPC.out 5 (Value.slice au e.units.length cu) rfl
                      have hent : EntM wM4 e ⟨an, ac, af, au, cn, cq, cf, cu⟩ ∧ PkgC e ⟨an, ac, af, au, cn, cq, cf, cu⟩ := by
                        obtain ⟨_, _, hv1, hc1, hr1, _⟩ := run_of_row HROW1.out
                        obtain ⟨_, _, hv2, hc2, hr2, _⟩ := run_of_row HROW2.out
                        obtain ⟨_, _, hv3, hc3, hr3, _⟩ := run_of_row HROW3.out
                        obtain ⟨_, _, hv4, hc4, hr4, _⟩ := run_of_row HROW4.out
                        cases hv1; cases hv2; cases hv3; cases hv4
                        rw [strV1_text] at hr2 hr4
                        exact ⟨⟨needs_run.2 hr1, strs_run.2 hr2, filesE_run.2 hr3, strs_run.2 hr4⟩, ⟨hc1, hc2, hc3, hc4⟩⟩
                      have hwt := fun W (h : W = wM4.alloc (.cells #[.string (bs e.name), .string (bs e.ver), .slice an e.needs.length cn, .slice ac e.conf.length cq, .slice af e.files.length cf, .slice au e.units.length cu] 37)) => base_with (.agg #[.map (some b)]) k (partF f (ss.take k)) (some ⟨wM4.heap.size, 0, none⟩) 1 [(e, ⟨an, ac, af, au, cn, cq, cf, cu⟩)] W (by rw [h]; exact Or.inr ⟨b, A, rfl, (hM0.ext HXC.out).ext (Ext.alloc _ _)⟩) (by rw [h]; exact ent_one (heap_alloc_new wM4 _) (hent.1.ext (Ext.alloc _ _)) hent.2) (by intro x hx; simp only [List.mem_singleton] at hx; rw [hx]; exact HGE.out.2.1) (by simp only [List.length_cons, List.length_nil]; omega)
                      unfold WithR at hwt
                      simp only [List.map_cons, List.map_nil, List.foldl_cons, List.foldl_nil, List.length_cons, List.length_nil] at hwt
                      rw [partF_step hkL HXX.out HFE.out HGE.out.1] at hwt
                      have HWT := Lib.hid hwt; clear hwt hent
                      have HB4 := Lib.hid hB4; clear hB4 hM0 hB0
                      go_wp2_with (first
                        | (go_at_call 49; refine HMR.out.mono ?_; rintro E we ⟨rfl, rfl⟩)
                        | (go_at_call 52; with_reducible refine HD0.out.mono ?_; rintro E we ⟨rfl, rfl⟩)
                        | (go_at_call 52; with_reducible refine HD1.out.mono ?_; rintro E we ⟨rfl, rfl⟩)
                        | (go_at_call 52; with_reducible refine HD2.out.mono ?_; rintro E we ⟨rfl, rfl⟩)
                        | (go_at_call 52; with_reducible refine HD3.out.mono ?_; rintro E we ⟨rfl, rfl⟩)
                        | (go_at_call 52; with_reducible refine HD4.out.mono ?_; rintro E we ⟨rfl, rfl⟩)
                        | (go_at_call 17; refine (HWT.out _ rfl).mono ?_; rintro E wN ⟨b', A', rfl, _, hmN, hxN⟩; have HXN := Lib.hid ((Ext.alloc wM4 _).trans hxN); have HMN := Lib.hid hmN; have bbN := blk_cell (HXN.out.heap HB4.out) 0 (Value.map (some b)) rfl; have bfN := blk_free (HXN.out.heap HB4.out) 0; clear hmN hxN))
                      have hBN := HXN.out.heap HB4.out
                      have kb : Keep (· ≠ B) wN (wN.setCell ⟨B, 0, none⟩ (.map (some b'))) := (Keep.refl _ _).setCell (fun _ h => h) 0 _
                      refine ⟨⟨k + 1, by go_num, by omega, Lib.hid ⟨b', A', ?_, HMN.out.keep kb hBN⟩, Lib.hid ?_, Lib.hid ?_⟩, by simp [intOf]; omega⟩
                      · have h := setCell_row hBN (i := 0) (.map (some b'))
                        simpa using h
                      · exact kb.heap (g := C2) (by have h := HBL.out; show C2 ≠ B; omega) ((HXC.out.trans HXN.out).heap hCC.out)
                      · exact ((Keep.of_ext (S := fun j => j < w.heap.size) (hX.out.trans (HXC.out.trans HXN.out))).andThen kb (fun j hj _ => by have h := HBL.out; show j ≠ B; omega)).ext_lt
    · obtain rfl : k = n := by omega
      obtain ⟨b, A, hB, hM⟩ := hBB.out
      have b0 := blk_cell hB 0 (Value.map (some b)) rfl
      have q0 := blk_cell hCC.out 0 (Value.map none) rfl
      have f0 := blk_free hCC.out 0
      have hs7 := setCell_row hCC.out (i := 0) (.map (some b))
      have hs7' : (W0.setCell ⟨C2, 0, none⟩ (.map (some b))).heap[C2]? = some (.cells #[.map (some b)] 42 (0, 0)) := by simpa using hs7
      have HS7 := Lib.hid hs7'; clear hs7 hs7'
      have HM := Lib.hid hM; clear hM hB
      go_wp2_with fail
      have q4 := blk_cell HS7.out 0 (Value.map (some b)) rfl
      refine bodyPost_ret (v := .tuple #[.agg #[.map (some b)], .int .i64 0]) (by simp [results, Tryz.results14, go_sem, q4]) rfl ?_
      rw [HR.out]
      have kb : Keep (· ≠ C2) W0 (W0.setCell ⟨C2, 0, none⟩ (.map (some b))) := (Keep.refl _ _).setCell (fun _ h => h) 0 _
      have hM2 := HM.out.keep kb hCC.out
      rw [List.take_of_length_le (by have := HN.out; omega), partF_all HS.out] at hM2
      rw [← HN.out]
      exact ⟨⟨b, A, rfl, hM2⟩, ((Keep.of_ext (S := fun j => j < w.heap.size) hX.out).andThen kb (fun j hj _ => by have h := HC2.out; show j ≠ C2; omega)).ext_lt⟩
end Go.Proofs.YtnclibfhbngkjaaGreatDoor
