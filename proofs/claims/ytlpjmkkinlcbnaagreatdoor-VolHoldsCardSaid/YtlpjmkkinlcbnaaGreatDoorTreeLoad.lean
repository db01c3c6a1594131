/- tree.Load: trees that rows of bytes are. -/
import Derived.Test.YtlpjmkkinlcbnaaGreatDoorTreeSound
import Derived.Test.YtlpjmkkinlcbnaaGreatDoorM4
import Derived.Test.YtlpjmkkinlcbnaaGreatDoorM2
import Derived.Deep.RegionHeld3
namespace Go.Proofs.YtlpjmkkinlcbnaaGreatDoor
open Go.RowKit
theorem rd_good (S : Nat → Prop) (R : Nat) (s : RSt) (w : World) (h : Rd S w R s) :
    Calls Tryz.prog 46 #[.pointer (some ⟨R, 0, none⟩)] w fun e w' => e = .returned (.bool (!s.2)) ∧ w = w' := by
  obtain ⟨a, c, hg, hc, hb⟩ := h
  have h1 := blk_cell hg 1 (Value.bool s.2) rfl
  clear hg hb
  go_enter Tryz.func46, Tryz.ntmps46
  go_wp2_with fail
  go_ret
  exact ⟨rfl, rfl⟩
theorem rd_truthT (S : Nat → Prop) (R : Nat) (s : RSt) (w : World) (h : Rd S w R s) (hs : s.1.length ≤ 1099511627776) :
    Calls Tryz.prog 44 #[.pointer (some ⟨R, 0, none⟩)] w (RdR S R w (.bool (decide ((rNum 1 s).1 = 1))) (rNum 1 s).2) := by
  have hn := rd_num S R 1 s w h hs (by omega)
  obtain ⟨k, t, ht⟩ : ∃ k t, rNum 1 s = (k, t) := ⟨_, _, rfl⟩
  rw [ht] at hn ⊢
  simp only at hn ⊢
  obtain ⟨Q, hQ⟩ : ∃ Q, Q = RdR S R w (.bool (decide (k = 1))) t := ⟨_, rfl⟩
  rw [← hQ]
  have HQ := Lib.hid hQ; clear hQ
  have HN := Lib.hid hn; clear hn ht h
  go_enter Tryz.func44, Tryz.ntmps44
  go_wp2_with (go_at_call 40; refine HN.out.mono ?_; rintro e w1 ⟨rfl, hr, hb⟩; have hr := Lib.hid hr; have hb := Lib.hid hb)
  rw [HQ.out]
  refine ⟨?_, hr.out, hb.out⟩
  have : ((k : Int) == 1) = decide (k = 1) := by
    by_cases h : k = 1
    · subst h; rfl
    · rw [decide_eq_false h, beq_eq_false_iff_ne]; omega
  simp [this]
theorem TreeM.blk_lt {w : World} {base tb mb K : Nat} {T : TreeD} {A : Int → NodeA} (h : TreeM w base tb mb K T A) {i : Int} (hi : i ∈ T.ids) : (A i).blk < w.heap.size ∧ ∀ b, (A i).kb = some b → b < w.heap.size := by
  refine ⟨(Array.getElem?_eq_some_iff.1 (h.node i hi).1).1, fun b hb => ?_⟩
  obtain ⟨es, cl, hg⟩ := (h.node i hi).2.2.2.block hb
  exact (Array.getElem?_eq_some_iff.1 hg).1
open Classical in
/-- What Load answers. -/
def LoadR (q : Int) (rows : List By) (K : Nat) (w : World) (e : Ending) (w' : World) : Prop :=
  (((∀ T, loadsT q rows = some T → ¬ SoundT T) ∧ e = .returned (.tuple #[.pointer none, .bool false])) ∨
    ∃ T tb mb A, loadsT q rows = some T ∧ SoundT T ∧ SmallT T ∧ e = .returned (.tuple #[.pointer (some ⟨tb, 0, none⟩), .bool true]) ∧ TreeM w' w.heap.size tb mb K T A) ∧ Ext w w'
set_option maxRecDepth 100000 in
set_option maxHeartbeats 12800000 in
open Classical in
theorem tree_Load (q : Int) (a : Option Addr) (c : Nat) (rows : List By) (w : World) (hP : Parts w a rows) (hl : ∀ l ∈ rows, l.length ≤ 100000) (hn : rows.length ≤ 100000) :
    Calls Tryz.prog 20 #[.int .i64 q, .slice a rows.length c] w (LoadR q rows (100000 + rows.length) w) := by
  obtain ⟨Q, hQ⟩ : ∃ Q, Q = LoadR q rows (100000 + rows.length) w := ⟨_, rfl⟩
  rw [← hQ]
  have HBAD : Hid ((∀ T, loadsT q rows = some T → ¬ SoundT T) → ∀ w', Ext w w' → Q (.returned (.tuple #[.pointer none, .bool false])) w') := Lib.hid fun h w' hx => by rw [hQ]; exact ⟨Or.inl ⟨h, rfl⟩, hx⟩
  have HQ := Lib.hid hQ; clear hQ
  have HP := Lib.hid hP; clear hP
  have HL := Lib.hid hl; clear hl
  obtain ⟨n, hnn⟩ : ∃ n, n = rows.length := ⟨_, rfl⟩
  rw [← hnn] at hn HQ ⊢
  have HN := Lib.hid hnn; clear hnn
  have hmk := @run_makeMap Tryz.prog
  go_enter Tryz.func20, Tryz.ntmps20
  go_upto_region 2 with (fail)
  clear hmk
  obtain ⟨mb, hmb⟩ : ∃ mb, mb = w.heap.size := ⟨_, rfl⟩
  have ht0 : TreeM ((w.alloc (.map #[] 0)).alloc (.cells #[.map (some mb), .int .i64 0, .int .i64 (max 0 q)] 72)) mb (mb + 1) mb 100000 (emptyT q) (fun _ => ⟨0, none, 0, none⟩) := by
    have hx := Ext.alloc (w.alloc (.map #[] 0)) (.cells #[.map (some mb), .int .i64 0, .int .i64 (max 0 q)] 72)
    have h1 := heap_alloc_new (w.alloc (.map #[] 0)) (.cells #[.map (some mb), .int .i64 0, .int .i64 (max 0 q)] 72)
    rw [World.size_alloc, ← hmb] at h1
    have h2 := ((MapF.made keyI w 3).ext hx).mono (Nat.zero_le 100000)
    rw [← hmb] at h2
    have hno : ∀ i, i ∉ (emptyT q).ids := fun i h => absurd (show i ∈ ([] : List Int) from h) List.not_mem_nil
    exact ⟨h1, h2.same (by funext i; unfold nodeF; rw [if_neg (hno i)]), fun i hi => absurd hi (hno i), fun i hi => absurd hi (hno i), fun i hi => absurd hi (hno i), fun i hi => absurd hi (hno i), fun i hi => absurd hi (hno i), by omega, Nat.le_refl _, fun i hi => absurd hi (hno i)⟩
  have hx0 : Ext w ((w.alloc (.map #[] 0)).alloc (.cells #[.map (some mb), .int .i64 0, .int .i64 (max 0 q)] 72)) := (Ext.alloc _ _).trans (Ext.alloc _ _)
  rw [← hmb]
  generalize (w.alloc (.map #[] 0)).alloc (.cells #[.map (some mb), .int .i64 0, .int .i64 (max 0 q)] 72) = w2 at ht0 hx0 ⊢
  have HT0 := Lib.hid ht0; clear ht0
  have HX0 := Lib.hid hx0; clear hx0
  have HMB := Lib.hid hmb; clear hmb
  go_wp2_with fail
  go_loopw [19] (fun i wr => ∃ (k : Nat) (T : TreeD) (A : Int → NodeA), i = .int .i64 k ∧ k ≤ n ∧ Hid ((k = 0 ∧ T = emptyT q) ∨ (0 < k ∧ loadsT q rows = rowsT T (rows.drop k))) ∧ Hid (SmallT T) ∧ Hid (TreeM wr mb (mb + 1) mb (100000 + k) T A) ∧ Hid (Ext w wr)) (fun i _ => n - (intOf i).toNat)
  case atStart => exact ⟨0, emptyT q, _, rfl, Nat.zero_le _, Lib.hid (Or.inl ⟨rfl, rfl⟩), Lib.hid (SmallT.empty q 0 (by omega)), HT0, HX0⟩
  case round =>
    clear HT0 HX0
    obtain ⟨k, T, A, rfl, hk, HK, HSM, HT, HX⟩ := hrel
    obtain ⟨wo, rfl⟩ : ∃ wo : World, wo = wr := ⟨_, rfl⟩
    by_cases hlt : k < n
    · have hkL : k < rows.length := by have := HN.out; omega
      obtain ⟨g, off, pa, pc, rfl, c0, hby⟩ := (HP.out.ext HX.out).at hkL
      have hlm : rows.getD k [] ∈ rows := by rw [List.getD_eq_getElem?_getD, List.getElem?_eq_getElem hkL]; exact List.getElem_mem hkL
      have hll := HL.out _ hlm
      have hdr : rows.drop k = rows.getD k [] :: rows.drop (k + 1) := by
        rw [List.getD_eq_getElem?_getD, List.getElem?_eq_getElem hkL]
        exact List.drop_eq_getElem_cons hkL
      have HD := Lib.hid hdr; clear hdr hlm hkL
      generalize rows.getD k [] = l at c0 hby hll HD
      have hrr := rec_read pa pc l wo hby (by omega)
      have HRR := Lib.hid hrr; clear hrr hby
      go_upto_region 6 with (go_at_call 39; refine HRR.out.mono ?_; rintro E w1 ⟨R, rfl, hwR, hrd, hx⟩; have HRD := Lib.hid hrd; have HX1 := Lib.hid hx; clear hrd hx)
      have HMB2 : Hid (mb = w.heap.size ∧ w.heap.size ≤ wo.heap.size) := Lib.hid ⟨HMB.out, HX.out.size⟩
      clear c0 HRR
      have htl := (Array.getElem?_eq_some_iff.1 HT.out.top).1
      have ha1 := rNum_len 1073741824 (l, false)
      have ha2 : (rowA l).2.1.length ≤ 100000 := Nat.le_trans ha1 hll
      have n1 := rd_num (fun j => wo.heap.size ≤ j ∧ j < R) R 1073741824 (l, false) w1 HRD.out (by show l.length ≤ _; omega) (by omega)
      have n1 : Calls Tryz.prog 40 #[.pointer (some ⟨R, 0, none⟩), .int .i64 (1073741824 : Int)] w1 (RdR (fun j => wo.heap.size ≤ j ∧ j < R) R w1 (.int .i64 (rowA l).1) (rowA l).2) := n1
      have N1 := Lib.hid n1; clear n1 ha1
      by_cases hk0 : k = 0
      · have hT0 : T = emptyT q := by rcases HK.out with h | h; exact h.2; omega
        have hrows : rows = l :: rows.drop 1 := by have := HD.out; rw [hk0] at this; exact this
        subst hT0
        subst hk0
        have hrdT : ∀ W, Rd (fun j => wo.heap.size ≤ j ∧ j < R) W R (rowA l).2 → Calls Tryz.prog 41 #[.pointer (some ⟨R, 0, none⟩)] W fun e w' => e = .returned (.bool (rDone (rowA l).2)) ∧ W = w' := fun W h => rd_done _ _ _ _ h
        have HDN := Lib.hid hrdT; clear hrdT
        have HTA : Hid (∀ w2, But R w1 w2 → Ext wo w2 ∧ TreeM w2 mb (mb + 1) mb 100000 (emptyT q) A) := Lib.hid fun w2 hb => ⟨But.ext HX1.out hb hwR, HT.out.ext (But.ext HX1.out hb hwR)⟩
        go_wp2_with fail
        refine N1.out.mono ?_
        rintro e w3 ⟨rfl, r2, b2⟩
        have hTT := HTA.out w3 b2
        have h3 := hTT.2
        have hD := r2.keep (T := (· ≠ mb + 1)) ((Keep.refl _ w3).setCell (fun _ h => h) 1 (.int .i64 (rowA l).1)) (by omega) (fun g _ hg e => by have := hg.1; omega)
        have HD3 := Lib.hid hD
        have HT3 := Lib.hid (h3.set_next (rowA l).1)
        have b0 := blk_cell h3.top 1 (Value.int .i64 0) rfl
        have f0 := blk_free h3.top 1
        have HX3 := Lib.hid (((Keep.of_ext (S := fun j => j < w.heap.size) (HX.out.trans hTT.1)).setCell (R := mb + 1) (fun j (hj : j < w.heap.size) e => by have := HMB2.out; omega) 1 (.int .i64 (rowA l).1)).ext_lt)
        clear hTT h3 hD r2 b2 HTA N1
        by_cases hdo : rDone (rowA l).2 = true
        · rw [hdo] at HDN
          have hnx : loadsT q rows = rowsT { emptyT q with next := (rowA l).1 } (rows.drop 1) := by
            rw [hrows]
            show (if rDone (rowA l).2 = true then _ else _) = _
            rw [if_pos hdo]
            rfl
          have HNX := Lib.hid hnx; clear hnx hdo hrows
          have HSM2 := Lib.hid (SmallT.empty q (rowA l).1 (rowA_small l))
          go_wp2_with (go_at_call 41; refine (HDN.out _ HD3.out).mono ?_; rintro e w4 ⟨rfl, rfl⟩)
          go_roundw
          case rel => exact ⟨1, { emptyT q with next := (rowA l).1 }, A, by go_num, by omega, Lib.hid (Or.inr ⟨by omega, HNX.out⟩), HSM2, Lib.hid (HT3.out.mono (by omega)), HX3⟩
          case measure => simp [intOf]; omega
        · have hno : loadsT q rows = none := by
            rw [hrows]
            show (if rDone (rowA l).2 = true then _ else _) = _
            rw [if_neg hdo]
          have hb := HBAD.out (fun T h => by rw [hno] at h; cases h) _ HX3.out
          have HB := Lib.hid hb; clear hb hno hrows
          rw [Bool.not_eq_true] at hdo
          rw [hdo] at HDN
          clear hdo
          go_wp2_with (go_at_call 41; refine (HDN.out _ HD3.out).mono ?_; rintro e w4 ⟨rfl, rfl⟩)
          exact HB.out
      · have hload : loadsT q rows = rowsT T (l :: rows.drop (k + 1)) := by
          rcases HK.out with h | h
          · omega
          · rw [h.2, HD.out]
        have hbb : rowsT T (l :: rows.drop (k + 1)) = if (rowN l).2.2 = true then none else rowsT (putT T (rowN l).1.1 (rowN l).1.2) (rows.drop (k + 1)) := rfl
        rw [hbb] at hload
        have hrn : rowN l = (((rowA l).1, ⟨(rowC (rowB (rowA l).2).2).1.1, (rowB (rowA l).2).1.1, (rowB (rowA l).2).1.2, (rowC (rowB (rowA l).2).2).1.2⟩), (rowC (rowB (rowA l).2).2).2) := rfl
        have hsm1 := HSM.out.put l
        have hai := rowA_small l
        rw [hrn] at hload hsm1
        clear hbb hrn HK
        have hb1 := rNum_len 1048576 (rowA l).2
        have n2 := fun W h => rd_num (fun j => wo.heap.size ≤ j ∧ j < R) R 1048576 (rowA l).2 W h (by omega) (by omega)
        have n3 := fun W h => rd_raw (fun j => wo.heap.size ≤ j ∧ j < R) R 3500 (rNum 1048576 (rowA l).2).2 W h (by omega) (by omega)
        have hb2 := (rRaw_len 3500 (rNum 1048576 (rowA l).2).2).1
        have hrb : rowB (rowA l).2 = (((((rNum 1048576 (rowA l).2).1 : Nat) : Int), (rRaw 3500 (rNum 1048576 (rowA l).2).2).1), (rRaw 3500 (rNum 1048576 (rowA l).2).2).2) := rfl
        rw [hrb] at hload hsm1
        clear hrb
        generalize rowA l = xa at N1 hload hsm1 hai hb1 n2 n3 hb2 ha2
        obtain ⟨iN, s1⟩ := xa
        simp only at N1 hload hsm1 hai hb1 n2 n3 hb2 ha2
        generalize rNum 1048576 s1 = xb at hload hsm1 hb1 n2 n3 hb2
        obtain ⟨lk, s2⟩ := xb
        simp only at hload hsm1 hb1 n2 n3 hb2
        generalize rRaw 3500 s2 = xc at hload hsm1 n3 hb2
        obtain ⟨d, s3⟩ := xc
        simp only at hload hsm1 n3 hb2
        have hs3 : s3.1.length ≤ 100000 := by omega
        have HLOAD := Lib.hid hload; clear hload
        have HSM1 := Lib.hid hsm1; clear hsm1
        have N2 := Lib.hid n2; clear n2
        have N3 := Lib.hid n3; clear n3
        clear hb1 hb2 ha2
        have hk0' : ((k : Int) == 0) = false := by rw [beq_eq_false_iff_ne]; omega
        have hk0'' : decide ((k : Int) = 0) = false := by rw [decide_eq_false_iff_not]; omega
        go_wp2_with fail
        refine N1.out.mono ?_
        rintro e w3 ⟨rfl, r3, b3⟩
        have R3 := Lib.hid r3; have B3 := Lib.hid b3; clear r3 b3
        go_wp2_with fail
        refine (N2.out _ R3.out).mono ?_
        rintro e w4 ⟨rfl, r4, b4⟩
        have R4 := Lib.hid r4; have B4 := Lib.hid b4; clear r4 b4
        go_wp2_with fail
        refine (N3.out _ R4.out).mono ?_
        rintro e w5 ⟨a5, c5, rfl, hc5, o5, r5, b5⟩
        obtain ⟨a6, c6, he6, hdc, hd5, _⟩ := DataM.of_row o5
        cases he6
        have HD5 := Lib.hid hd5; have R5 := Lib.hid r5; have B5 := Lib.hid ((B3.out.trans B4.out).trans b5); clear r5 b5 o5 hd5 R3 R4 B3 B4 N1 N2 N3
        go_upto_region 12 with (fail)
        have hb6 := heap_alloc_new w5 (.cells #[.bool false, .int .i64 lk, .slice a5 d.length c5, .map none] 76)
        have hx6 := Ext.alloc w5 (.cells #[.bool false, .int .i64 lk, .slice a5 d.length c5, .map none] 76)
        have HX6 := Lib.hid ((But.ext HX1.out B5.out hwR).trans hx6)
        have HR6 := Lib.hid (R5.out.ext hx6)
        have HD6 := Lib.hid (HD5.out.keep (S := fun _ => True) (Keep.of_ext hx6) (datas_all _))
        have hs6 := World.size_alloc w5 (.cells #[.bool false, .int .i64 lk, .slice a5 d.length c5, .map none] 76)
        have HB6 := Lib.hid hb6
        have hRB : R < w5.heap.size := R5.out.lt
        have hXB := B5.out.size
        have hXW := HX1.out.size
        obtain ⟨B, hB⟩ : ∃ B, B = w5.heap.size := ⟨_, rfl⟩
        rw [← hB] at HB6 hRB hXB hs6 ⊢
        have HBN : Hid (wo.heap.size ≤ R ∧ R < B ∧ w.heap.size ≤ wo.heap.size ∧ mb = w.heap.size ∧ mb + 1 < wo.heap.size) := Lib.hid (by have := HMB2.out; omega)
        clear hb6 hx6 hB hXB hXW htl hwR hRB R5 HD5 B5 HX1 HRD
        generalize w5.alloc (.cells #[.bool false, .int .i64 lk, .slice a5 d.length c5, .map none] 76) = w6 at HX6 HR6 HD6 HB6 hs6 ⊢
        by_cases hmo : 0 < s3.1.length
        rotate_left
        · have hC : rowC s3 = ((false, noK), s3) := by unfold rowC; rw [if_neg hmo]
          have hload := HLOAD.out
          have hsm1 := HSM1.out
          rw [hC] at hload hsm1
          obtain ⟨nd, hnd⟩ : ∃ nd : NodeD, nd = ⟨false, lk, d, noK⟩ := ⟨_, rfl⟩
          have hlo2 : loadsT q rows = if s3.2 = true then none else rowsT (putT T iN nd) (rows.drop (k + 1)) := by rw [hnd]; exact hload
          have hsm2 : SmallT (putT T iN nd) := by rw [hnd]; exact hsm1
          obtain ⟨kb, hkb⟩ : ∃ kb : Option Nat, kb = none := ⟨_, rfl⟩
          have hmr := rd_more _ _ _ _ HR6.out
          rw [decide_eq_false hmo] at hmr
          have HM := Lib.hid hmr
          go_wp2_with (go_at_call 43; refine HM.out.mono ?_; rintro e w2 ⟨rfl, rfl⟩)
          obtain ⟨sC, hsC⟩ : ∃ sC : RSt, sC = s3 := ⟨_, rfl⟩
          rw [← hsC] at hlo2
          have HBt : Hid (w6.heap[B]? = some (.cells (nodeV nd ⟨B, a5, c5, kb⟩) 76 (0, 0))) := Lib.hid (by rw [hnd, hkb]; exact HB6.out)
          have HDt : Hid (DataM w6 a5 nd.data) := Lib.hid (by rw [hnd]; exact HD6.out)
          have hdc5 : nd.data.length ≤ c5 := by rw [hnd]; exact hdc
          have HKt : Hid (KidsM w6 (100000 + k) nd.kids kb) := Lib.hid (by rw [hnd]; exact Or.inl ⟨hkb, rfl⟩)
          have HRt : Hid (Rd (fun j => wo.heap.size ≤ j ∧ j < R) w6 R sC) := Lib.hid (by rw [hsC]; exact HR6.out)
          have HKB : Hid (∀ b, kb = some b → wo.heap.size ≤ b) := Lib.hid (fun b e => by rw [hkb] at e; cases e)
          have HDR : Hid (nd.dir = true → ∃ b, kb = some b) := Lib.hid (fun e => by rw [hnd] at e; cases e)
          have HXt := HX6
          have HLOAD := Lib.hid hlo2
          have HSM1 := Lib.hid hsm2
          clear hC hload hsm1 hlo2 hsm2 hmr hnd hkb hsC HB6 HD6 HR6 HX6
          go_loopw [] (fun wx => wx = w6) (fun _ => 0)
          case atStart => rfl
          case round =>
            subst hrel
            have hgd := rd_good _ _ _ _ HRt.out
            have HTt := Lib.hid (HT.out.ext HXt.out)
            have HXW := Lib.hid (HX.out.trans HXt.out)
            cases hb : sC.2 with
            | true =>
              rw [hb] at hgd
              have hno : loadsT q rows = none := by have := HLOAD.out; rw [if_pos hb] at this; exact this
              have HB := Lib.hid (HBAD.out (fun T h => by rw [hno] at h; cases h) _ HXW.out)
              have GD := Lib.hid hgd; clear hgd hno hb
              go_wp2_with (first | (go_at_call 43; refine HM.out.mono ?_; rintro e w2 ⟨rfl, rfl⟩) | (go_at_call 46; refine GD.out.mono ?_; rintro e w9 ⟨rfl, rfl⟩))
              exact HB.out
            | false =>
              rw [hb] at hgd
              have hnx : loadsT q rows = rowsT (putT T iN nd) (rows.drop (k + 1)) := by have := HLOAD.out; rw [if_neg (by rw [hb]; simp)] at this; exact this
              have HNX := Lib.hid hnx
              have GD := Lib.hid hgd; clear hgd hnx hb
              have c4 := blk_cell HTt.out.top 0 (Value.map (some mb)) rfl
              have hki := key_int (i := iN) (by omega) (by omega)
              go_wp2_with (first | (go_at_call 43; refine HM.out.mono ?_; rintro e w2 ⟨rfl, rfl⟩) | (go_at_call 46; refine GD.out.mono ?_; rintro e w9 ⟨rfl, rfl⟩) | (at_mapUpdate; refine wpList_store_F rfl _ _ _ 70 rfl 73 int_keyedA Tryz.underlying70 mb (100000 + k) _ rfl HTt.out.map (by unfold maxLen; omega) keyI_inj _ (.pointer (some ⟨B, 0, none⟩)) iN rfl rfl hki ?_; intro w9 hm9 hk9; go_frame))
              have hput := HTt.out.put iN hk9 (n := nd) (a := ⟨B, a5, c5, kb⟩) (L := 100000 + (k + 1)) (I := (putT T iN nd).ids) ⟨HBt.out, HDt.out, hdc5, HKt.out⟩ (fun j hj e => by have h := (HT.out.blk_lt hj).1; have := HBN.out; have e : B = (A j).blk := e; omega) (fun j hj b e1 e2 => by have h := (HT.out.blk_lt hj).2 b e2; have := HKB.out b e1; omega) (fun e => by have := HKB.out mb e; have := HBN.out; omega) HDR.out ⟨by have := HBN.out; show mb ≤ B; omega, fun b e => by have := HKB.out b e; have := HBN.out; omega⟩ (by omega) hm9 (putT_ids T iN nd)
              have HPUT := Lib.hid hput
              have HXN : Hid (Ext w w9) := Lib.hid ((Keep.of_ext (S := fun j => j < w.heap.size) HXW.out).andThen hk9 (fun j _ (hj : j < w.heap.size) => by have := HBN.out; show j ≠ mb; omega)).ext_lt
              clear hput hm9 hk9 hki c4
              go_wp2_with fail
              go_roundw
              case rel => exact ⟨k + 1, putT T iN nd, _, by go_num, by omega, Lib.hid (Or.inr ⟨by omega, HNX.out⟩), HSM1, HPUT, HXN⟩
              case measure => simp [intOf]; omega
        · have hC : rowC s3 = ((decide ((rNum 1 s3).1 = 1), kidsK (rEach oneKid (rNum 1 s3).2).1), (rEach oneKid (rNum 1 s3).2).2) := by unfold rowC; rw [if_pos hmo]
          have hload := HLOAD.out
          have hsm1 := HSM1.out
          rw [hC] at hload hsm1
          have hmr := rd_more _ _ _ _ HR6.out
          rw [decide_eq_true hmo] at hmr
          have HM6 := Lib.hid hmr; clear hmr
          have nT := rd_truthT (fun j => wo.heap.size ≤ j ∧ j < R) R s3 w6 HR6.out (by omega)
          have ht1 := rNum_len 1 s3
          clear hC hmo HLOAD HSM1
          generalize rNum 1 s3 = xt at hload hsm1 nT ht1
          obtain ⟨tn, s4⟩ := xt
          simp only at hload hsm1 nT ht1
          have hs4 : s4.1.length ≤ 100000 := by omega
          have HLO := Lib.hid hload; clear hload
          have HSM2 := Lib.hid hsm1; clear hsm1
          have NT := Lib.hid nT; clear nT ht1
          have hmk := @run_makeMap Tryz.prog
          go_wp2_with (first | (go_at_call 43; refine HM6.out.mono ?_; rintro e w2 ⟨rfl, rfl⟩) | (go_at_call 44; refine NT.out.mono ?_; rintro e w7 ⟨rfl, r7, b7⟩; have hB7 := (Ext.alloc w7 (.map #[] 0)).heap ((Keep.of_but b7).heap (g := B) (by have := HBN.out; omega) HB6.out); have q0 := blk_cell hB7 0 _ rfl; have q3 := blk_cell hB7 3 _ rfl; have f0 := blk_free hB7 0; have f3 := blk_free hB7 3; have hB8 := setCell_row hB7 (i := 0) (.bool (decide (tn = 1))); have q8 := blk_cell hB8 3 _ rfl; have f8 := blk_free hB8 3; have R7 := Lib.hid r7; have B7 := Lib.hid b7; have HB7 := Lib.hid hB7; clear r7 b7 hB7 hB8))
          clear hmk q0 q3 f0 f3 q8 f8
          obtain ⟨M, hM⟩ : ∃ M, M = w7.heap.size := ⟨_, rfl⟩
          have hm7 := MapF.made keyS w7 9
          rw [← hM] at hm7 ⊢
          have kS : Keep (· ≠ B) (w7.alloc (.map #[] 0)) (((w7.alloc (.map #[] 0)).setCell ⟨B, 0, none⟩ (.bool (decide (tn = 1)))).setCell ⟨B, 3, none⟩ (.map (some M))) := ((Keep.refl _ _).setCell (fun _ h => h) 0 _).setCell (fun _ h => h) 3 _
          have hB9 : (((w7.alloc (.map #[] 0)).setCell ⟨B, 0, none⟩ (.bool (decide (tn = 1)))).setCell ⟨B, 3, none⟩ (.map (some M))).heap[B]? = some (.cells #[.bool (decide (tn = 1)), .int .i64 lk, .slice a5 d.length c5, .map (some M)] 76 (0, 0)) := by
            have := setCell_row (setCell_row HB7.out (i := 0) (.bool (decide (tn = 1)))) (i := 3) (.map (some M))
            simpa using this
          have hBM : B < w7.heap.size := by have := B7.out.size; omega
          have hm8 := hm7.keep kS (show M ≠ B by omega)
          have hR8 := Rd.keep (T := (· ≠ B)) (R7.out.ext (Ext.alloc w7 (.map #[] 0))) kS (by have := HBN.out; omega) (fun g _ hg => by have := HBN.out; have := hg.2; show g ≠ B; omega)
          have hx7 := But.ext HX6.out B7.out HBN.out.1
          have hX8 : Ext wo (((w7.alloc (.map #[] 0)).setCell ⟨B, 0, none⟩ (.bool (decide (tn = 1)))).setCell ⟨B, 3, none⟩ (.map (some M))) := ((Keep.of_ext (S := fun j => j < wo.heap.size) (hx7.trans (Ext.alloc _ _))).andThen kS (fun j _ (hj : j < wo.heap.size) => by have := HBN.out; show j ≠ B; omega)).ext_lt
          have hD8 := ((HD6.out.keep (Keep.of_but B7.out) (datas_rd HR6.out)).keep (S := fun _ => True) (Keep.of_ext (Ext.alloc w7 (.map #[] 0))) (datas_all _)).keep kS (datas_cells HB7.out (by decide))
          have HBM : Hid (wo.heap.size ≤ M ∧ B < M) := Lib.hid (by have := hx7.size; omega)
          have HB8 := Lib.hid hB9
          have HM8 := Lib.hid hm8
          have HR8 := Lib.hid hR8
          have HX8 := Lib.hid hX8
          have HD8 := Lib.hid hD8
          clear hM hm7 kS hB9 hBM hm8 hR8 hx7 hX8 hD8 HB7 B7 R7 HR6 HD6 HB6 HX6 hs6
          generalize ((w7.alloc (.map #[] 0)).setCell ⟨B, 0, none⟩ (.bool (decide (tn = 1)))).setCell ⟨B, 3, none⟩ (.map (some M)) = w8 at HB8 HM8 HR8 HX8 HD8 ⊢
          go_loopg [] s4.1.length (fun gk wx => ∃ (X : List (By × Int)) (s : RSt), Hid (gk = s.1.length) ∧ Hid ((rEach oneKid s4).1 = X ++ (rEach oneKid s).1 ∧ (rEach oneKid s4).2 = (rEach oneKid s).2) ∧ Hid (X.length + s.1.length ≤ 100000) ∧ Hid (wx.heap[B]? = some (.cells #[.bool (decide (tn = 1)), .int .i64 lk, .slice a5 d.length c5, .map (some M)] 76 (0, 0))) ∧ Hid (MapF keyS wx 9 M X.length (kidsF (kidsK X))) ∧ Hid (Rd (fun j => wo.heap.size ≤ j ∧ j < R) wx R s) ∧ Hid (Keep (fun j => j ≠ R ∧ j ≠ M) w8 wx))
          case atStart => exact ⟨[], s4, Lib.hid rfl, Lib.hid ⟨rfl, rfl⟩, Lib.hid (by simpa using hs4), HB8, HM8, HR8, Lib.hid (Keep.refl _ _)⟩
          case round =>
            obtain ⟨X, s, hgk, hrd, hdn, hblk, hmp, hRs, hkp⟩ := hrel
            have hmr := rd_more _ _ _ _ hRs.out
            by_cases hmo : 0 < s.1.length
            · rw [decide_eq_true hmo] at hmr
              have HM := Lib.hid hmr; clear hmr
              have hsl : s.1.length ≤ 100000 := by have := hdn.out; omega
              have hXl : X.length ≤ 100000 := by have := hdn.out; omega
              have hb1 := (rRaw_len 12 s).1
              have n1 := fun W h => rd_text (fun j => wo.heap.size ≤ j ∧ j < R) R 12 s W h (by omega) (by omega)
              have n2 := fun W h => rd_num (fun j => wo.heap.size ≤ j ∧ j < R) R 1073741824 (rRaw 12 s).2 W h (by omega) (by omega)
              have hcons := rEach_cons oneKid_takes hmo
              have hless := oneKid_takes s hmo
              have hp := rRaw_most 12 s
              have hone : oneKid s = (((rRaw 12 s).1, (((rNum 1073741824 (rRaw 12 s).2).1 : Nat) : Int)), (rNum 1073741824 (rRaw 12 s).2).2) := rfl
              generalize rRaw 12 s = xp at hb1 n1 n2 hp hone
              obtain ⟨p, t1⟩ := xp
              simp only at hb1 n1 n2 hp hone
              generalize rNum 1073741824 t1 = xj at n2 hone
              obtain ⟨j, t2⟩ := xj
              simp only at n2 hone
              rw [hone] at hcons hless
              have hky := key_by (x := p) (by omega)
              have N1 := Lib.hid n1; have N2 := Lib.hid n2; have HCO := Lib.hid hcons; have HLE := Lib.hid hless
              clear n1 n2 hcons hless hone hb1
              have b3 := blk_cell hblk.out 3 _ rfl
              have hne : M ≠ R ∧ B ≠ R ∧ B ≠ M := by have := HBM.out; have := HBN.out; omega
              go_wp2_with (go_at_call 43; refine HM.out.mono ?_; rintro e w2 ⟨rfl, rfl⟩)
              go_region_held3 (fun W => W.cell? ⟨B, 3, none⟩ = some (.map (some M)))
                (first | go_keep | exact HC1.out | exact HC2.out | exact HC3.out)
                (first
                  | (go_at_call 45; refine (N1.out _ (by first | exact hRs.out | exact hRs.out.ext (Ext.refl _).drew)).mono ?_; rintro e w1 ⟨rfl, hr1, hb1⟩; have kb1 : But R wr w1 := (by first | exact hb1 | exact ((But.of_ext (Ext.refl wr).drew).trans hb1)); have HC1 := Lib.hid (blk_cell ((Keep.of_but kb1).heap (g := B) hne.2.1 hblk.out) 3 _ rfl); have hr1 := Lib.hid hr1; have kb1 := Lib.hid kb1; clear hb1)
                  | (go_at_call 40; refine (N2.out _ hr1.out).mono ?_; rintro e w2 ⟨rfl, hr2, hb2⟩; have kb2 := Lib.hid (kb1.out.trans hb2); have hB2 := (Keep.of_but kb2.out).heap (g := B) hne.2.1 hblk.out; have HC2 := Lib.hid (blk_cell hB2 3 _ rfl); have hB2 := Lib.hid hB2; have hr2 := Lib.hid hr2; obtain ⟨w3, hrun, hm3, hk3⟩ := (hmp.out.keep (Keep.of_but kb2.out) hne.1).store (t := 74) str_keyed Tryz.underlying74 (by unfold maxLen; omega) keyS_inj (.int .i64 j) hky; have hB3 := hk3.heap (g := B) hne.2.2 hB2.out; have HC3 := Lib.hid (blk_cell hB3 3 _ rfl); have hB3 := Lib.hid hB3; have hm3 := Lib.hid hm3; have hk3 := Lib.hid hk3; clear hb2))
              all_goals
                go_wp2_with fail
                go_roundg t2.1.length
                case measure => have h1 := HLE.out; have h2 := hgk.out; omega
                case rel =>
                  refine ⟨X ++ [(p, (j : Int))], t2, Lib.hid rfl, Lib.hid ⟨?_, ?_⟩, Lib.hid ?_, hB3, Lib.hid ?_, Lib.hid ?_, Lib.hid ?_⟩
                  · rw [hrd.out.1, HCO.out]; simp
                  · rw [hrd.out.2, HCO.out]
                  · have h1 := hdn.out
                    have h2 := HLE.out
                    simp only [List.length_append, List.length_cons, List.length_nil] at h2 ⊢
                    omega
                  · rw [List.length_append, kidsK_app, ← kidsF_with]
                    exact hm3.out
                  · exact Rd.keep (T := (· ≠ M)) hr2.out hk3.out hne.1.symm (fun g _ hg => by have := HBM.out; have := HBN.out; have := hg.2; show g ≠ M; omega)
                  · exact hkp.out.trans (((Keep.of_but kb2.out).mono (fun j _ hj => hj.1)).trans (hk3.out.mono (fun j _ hj => hj.2)))
            · rw [decide_eq_false hmo] at hmr
              have HM := Lib.hid hmr; clear hmr
              have hE := hrd.out
              have hs0 : s.1.length = 0 := by omega
              rw [rEach_nil oneKid hs0, List.append_nil] at hE
              have hload := HLO.out
              have hsm1 := HSM2.out
              rw [hE.1, hE.2] at hload
              rw [hE.1] at hsm1
              obtain ⟨nd, hnd⟩ : ∃ nd : NodeD, nd = ⟨decide (tn = 1), lk, d, kidsK X⟩ := ⟨_, rfl⟩
              have hlo2 : loadsT q rows = if s.2 = true then none else rowsT (putT T iN nd) (rows.drop (k + 1)) := by rw [hnd]; exact hload
              have hsm2 : SmallT (putT T iN nd) := by rw [hnd]; exact hsm1
              obtain ⟨kb, hkb⟩ : ∃ kb : Option Nat, kb = some M := ⟨_, rfl⟩
              obtain ⟨sC, hsC⟩ : ∃ sC : RSt, sC = s := ⟨_, rfl⟩
              rw [← hsC] at hlo2
              have hXl : X.length ≤ 100000 + k := by have := hdn.out; omega
              have HBt : Hid (wr.heap[B]? = some (.cells (nodeV nd ⟨B, a5, c5, kb⟩) 76 (0, 0))) := Lib.hid (by rw [hnd, hkb]; exact hblk.out)
              have HDt : Hid (DataM wr a5 nd.data) := Lib.hid (by
                rw [hnd]
                obtain ⟨es, cl, hmb⟩ := HM8.out.block
                exact HD8.out.keep hkp.out (fun g cs fr hg => ⟨datas_rd HR8.out g cs fr hg, datas_map hmb g cs fr hg⟩))
              have hdc5 : nd.data.length ≤ c5 := by rw [hnd]; exact hdc
              have HKt : Hid (KidsM wr (100000 + k) nd.kids kb) := Lib.hid (by rw [hnd]; exact Or.inr ⟨M, hkb, hmp.out.mono hXl⟩)
              have HRt : Hid (Rd (fun j => wo.heap.size ≤ j ∧ j < R) wr R sC) := Lib.hid (by rw [hsC]; exact hRs.out)
              have HKB : Hid (∀ b, kb = some b → wo.heap.size ≤ b) := Lib.hid (fun b e => by rw [hkb] at e; cases e; exact HBM.out.1)
              have HDR : Hid (nd.dir = true → ∃ b, kb = some b) := Lib.hid (fun _ => ⟨M, hkb⟩)
              have HXt : Hid (Ext wo wr) := Lib.hid ((Keep.of_ext (S := fun j => j < wo.heap.size) HX8.out).andThen hkp.out (fun j _ (hj : j < wo.heap.size) => by have := HBM.out; have := HBN.out; refine ⟨?_, ?_⟩ <;> omega)).ext_lt
              have HLOAD := Lib.hid hlo2
              have HSM1 := Lib.hid hsm2
              clear hE hload hsm1 hlo2 hsm2 hnd hkb hsC hXl HB8 HM8 HR8 HX8 HD8 HLO HSM2 hgk hrd hdn hblk hmp hRs hkp
              have hgd := rd_good _ _ _ _ HRt.out
              have HTt := Lib.hid (HT.out.ext HXt.out)
              have HXW := Lib.hid (HX.out.trans HXt.out)
              cases hb : sC.2 with
              | true =>
                rw [hb] at hgd
                have hno : loadsT q rows = none := by have := HLOAD.out; rw [if_pos hb] at this; exact this
                have HB := Lib.hid (HBAD.out (fun T h => by rw [hno] at h; cases h) _ HXW.out)
                have GD := Lib.hid hgd; clear hgd hno hb
                go_wp2_with (first | (go_at_call 43; refine HM.out.mono ?_; rintro e w2 ⟨rfl, rfl⟩) | (go_at_call 46; refine GD.out.mono ?_; rintro e w9 ⟨rfl, rfl⟩))
                exact HB.out
              | false =>
                rw [hb] at hgd
                have hnx : loadsT q rows = rowsT (putT T iN nd) (rows.drop (k + 1)) := by have := HLOAD.out; rw [if_neg (by rw [hb]; simp)] at this; exact this
                have HNX := Lib.hid hnx
                have GD := Lib.hid hgd; clear hgd hnx hb
                have c4 := blk_cell HTt.out.top 0 (Value.map (some mb)) rfl
                have hki := key_int (i := iN) (by omega) (by omega)
                go_wp2_with (first | (go_at_call 43; refine HM.out.mono ?_; rintro e w2 ⟨rfl, rfl⟩) | (go_at_call 46; refine GD.out.mono ?_; rintro e w9 ⟨rfl, rfl⟩) | (at_mapUpdate; refine wpList_store_F rfl _ _ _ 70 rfl 73 int_keyedA Tryz.underlying70 mb (100000 + k) _ rfl HTt.out.map (by unfold maxLen; omega) keyI_inj _ (.pointer (some ⟨B, 0, none⟩)) iN rfl rfl hki ?_; intro w9 hm9 hk9; go_frame))
                have hput := HTt.out.put iN hk9 (n := nd) (a := ⟨B, a5, c5, kb⟩) (L := 100000 + (k + 1)) (I := (putT T iN nd).ids) ⟨HBt.out, HDt.out, hdc5, HKt.out⟩ (fun j hj e => by have h := (HT.out.blk_lt hj).1; have := HBN.out; have e : B = (A j).blk := e; omega) (fun j hj b e1 e2 => by have h := (HT.out.blk_lt hj).2 b e2; have := HKB.out b e1; omega) (fun e => by have := HKB.out mb e; have := HBN.out; omega) HDR.out ⟨by have := HBN.out; show mb ≤ B; omega, fun b e => by have := HKB.out b e; have := HBN.out; omega⟩ (by omega) hm9 (putT_ids T iN nd)
                have HPUT := Lib.hid hput
                have HXN : Hid (Ext w w9) := Lib.hid ((Keep.of_ext (S := fun j => j < w.heap.size) HXW.out).andThen hk9 (fun j _ (hj : j < w.heap.size) => by have := HBN.out; show j ≠ mb; omega)).ext_lt
                clear hput hm9 hk9 hki c4
                go_wp2_with fail
                go_roundw
                case rel => exact ⟨k + 1, putT T iN nd, _, by go_num, by omega, Lib.hid (Or.inr ⟨by omega, HNX.out⟩), HSM1, HPUT, HXN⟩
                case measure => simp [intOf]; omega
    · have hkn : k = rows.length := by have := HN.out; omega
      have hres : loadsT q rows = some T := by
        rcases HK.out with ⟨h1, h2⟩ | ⟨_, h2⟩
        · have : rows = [] := List.eq_nil_of_length_eq_zero (by omega)
          rw [this, h2]; rfl
        · rw [h2, List.drop_of_length_le (by omega)]; rfl
      have hsd := tree_sound wo HT.out HSM.out
      have HRES := Lib.hid hres; clear hres
      by_cases hso : SoundT T
      · rw [decide_eq_true hso] at hsd
        have HSO := Lib.hid hso; clear hso
        have HSD := Lib.hid hsd; clear hsd
        go_wp2_with (go_at_call 47; refine HSD.out.mono ?_; rintro e w9 ⟨rfl, hx9⟩; have HX9 := Lib.hid hx9; clear hx9)
        rw [HQ.out]
        refine ⟨Or.inr ⟨T, mb + 1, mb, A, HRES.out, HSO.out, HSM.out, rfl, ?_⟩, HX.out.trans HX9.out⟩
        have h := (HT.out.ext HX9.out).mono (L := 100000 + n) (by omega)
        rw [← HMB.out]
        exact ⟨h.top, h.map, h.node, h.blk, h.kid, h.mkb, h.kbd, by omega, Nat.le_refl _, h.low.2.2⟩
      · have hb := fun w9 hx => HBAD.out (fun T' h => by rw [HRES.out] at h; cases h; exact hso) w9 hx
        have HB := Lib.hid hb; clear hb
        rw [decide_eq_false hso] at hsd
        have HSD := Lib.hid hsd; clear hsd
        go_wp2_with (go_at_call 47; refine HSD.out.mono ?_; rintro e w9 ⟨rfl, hx9⟩; have HX9 := Lib.hid hx9; clear hx9)
        exact HB.out _ (HX.out.trans HX9.out)
  end Go.Proofs.YtlpjmkkinlcbnaaGreatDoor
