/- The walk of farrierlaw07.VolHolds. -/
import Derived.Test.YtlpjmkkinlcbnaaGreatDoorAlive07
namespace Go.Proofs.YtlpjmkkinlcbnaaGreatDoor
open Go.RowKit
theorem and_7 (q : Int) : ∃ k : Nat, bits .and .i64 q 7 = (k : Int) ∧ k ≤ 7 := by
  have h : bits .and .i64 q 7 = IntKind.i64.wrap (((BitVec.ofInt 64 q &&& BitVec.ofInt 64 7).toNat : Nat) : Int) := rfl
  have h2 : (BitVec.ofInt 64 q &&& BitVec.ofInt 64 7).toNat ≤ 7 := by
    rw [BitVec.toNat_and]
    exact Nat.le_trans Nat.and_le_right (by decide)
  refine ⟨(BitVec.ofInt 64 q &&& BitVec.ofInt 64 7).toNat, ?_, h2⟩
  rw [h, IntWalk.i64_in _ (by omega)]
theorem pk_f (a : By) : (packOps [⟨2, [47, 102], [], a⟩]).length = 18 + a.length := by
  rw [packOps_cons, List.length_append, opB_size]
  simp [packOps_nil]
theorem pk_g (b : By) : (packOps [⟨2, [47, 103], [], b⟩, ⟨5, [47, 103], [47, 102], []⟩]).length = 38 + b.length := by
  rw [packOps_cons, packOps_cons, List.length_append, List.length_append, opB_size, opB_size]
  simp [packOps_nil]
  omega
variable [Low]
omit [Low] in
theorem sweep_held {k : Nat} (hk : k ≠ 0) (a b : By) (q : Int) : sweepM ⟨listF 3, [⟨2, a⟩, ⟨3, b⟩], 4, q⟩ (fun z => if z = 2 then k else 0) = ⟨listF 3, [⟨2, a⟩, ⟨3, b⟩], 4, q⟩ := by
  rw [sweepM_eq]
  have : 0 < k := by omega
  simp [countM, listF, rootE, this]
omit [Low] in
theorem sweep_free (a b : By) (q : Int) : sweepM ⟨listF 3, [⟨2, a⟩, ⟨3, b⟩], 4, q⟩ (fun z => if z = 2 then 0 else 0) = ⟨listF 3, [⟨3, b⟩], 4, q⟩ := by
  rw [sweepM_eq]
  simp [countM, listF, rootE]
omit [Low] in
theorem loose_held (b : By) : looseM ⟨listF 3, [⟨3, b⟩], 4, 5000⟩ = [] := List.mergeSort_nil
omit [Low] in
theorem used_two (L : List EntD) (a b : By) (n q : Int) : usedM ⟨L, [⟨2, a⟩, ⟨3, b⟩], n, q⟩ = a.length + b.length := by simp [usedM]
omit [Low] in
theorem used_one (L : List EntD) (b : By) (n q : Int) : usedM ⟨L, [⟨3, b⟩], n, q⟩ = b.length := by simp [usedM]
section
variable {X : Nat → Prop}
set_option maxRecDepth 100000 in
set_option maxHeartbeats 25600000 in
theorem vol_holdsW (a1 : Option Addr) (c1 : Nat) (l1 : By) (a2 : Option Addr) (c2 : Nat) (l2 : By) (times : Int) (boot : Bool) (w : World) (hlw : Low.low = w.heap.size) (hX : ∀ g, X g → g < w.heap.size) (hE : Env w) (hB1 : Bytes w a1 l1) (hB2 : Bytes w a2 l2) :
    Calls Tryz.prog 3 #[.slice a1 l1.length c1, .slice a2 l2.length c2, .int .i64 times, .bool boot] w fun e w' => e = .returned (.bool true) ∧ Ext w w' := by
  obtain ⟨R, hR⟩ : ∃ R : Ending → World → Prop, R = fun e w' => e = .returned (.bool true) ∧ Ext w w' := ⟨_, rfl⟩
  rw [← hR]
  have hfin : ∀ w', KeepY X w w' → R (.returned (.bool true)) w' := fun w' hk => by rw [hR]; exact ⟨rfl, hk.low hlw⟩
  have HFIN := Lib.hid hfin; clear hfin hR
  have HAL := Lib.hid (alive07 (X := X) w hE (by omega) hX)
  have HLW := Lib.hid hlw; clear hlw
  have HE := Lib.hid hE; have HXS := Lib.hid hX; clear hE hX
  have HB1 := Lib.hid hB1; have HB2 := Lib.hid hB2; clear hB1 hB2
  obtain ⟨t7, hand, ht7⟩ := and_7 times
  go_enter Tryz.func3, Tryz.ntmps3
  go_upto_region 3 with (go_at_call 5; refine HAL.out.mono ?_; rintro E w0 ⟨rfl, hk⟩; have HY := Lib.hid hk; clear hk)
  by_cases h1 : 1000 < l1.length
  · have hd1 : decide ((1000 : Int) < (l1.length : Int)) = true := decide_eq_true (by omega)
    go_wp2_with fail
    all_goals (exact HFIN.out _ HY.out)
  · have hd1 : decide ((1000 : Int) < (l1.length : Int)) = false := decide_eq_false (by omega)
    by_cases h2 : 1000 < l2.length
    · have hd2 : decide ((1000 : Int) < (l2.length : Int)) = true := decide_eq_true (by omega)
      go_wp2_with fail
      all_goals (exact HFIN.out _ HY.out)
    · have hd2 : decide ((1000 : Int) < (l2.length : Int)) = false := decide_eq_false (by omega)
      have hl0 : Low.low ≤ w0.heap.size := by have := HY.out.size; have := HLW.out; omega
      go_upto_region 6 with (go_at_call 6; refine (disk_New 600 (by decide) (by decide) w0 hl0).mono ?_; rintro E w1 ⟨db, kb, rfl, hd, hx⟩; have HD := Lib.hid hd; replace HY := Lib.hid (HY.out.trans (KeepY.of_ext hx)); clear hd hx)
      have hopn := at_vNew (X := X) (HE.out.keepY HY.out) (fun g hg => Nat.lt_of_lt_of_le (HXS.out g hg) HY.out.size) HD.out (by decide) 5000
      have HOPN := Lib.hid hopn; clear hopn hl0
      go_upto_region 7 with (go_at_call 7; refine HOPN.out.mono ?_; rintro E w2 ⟨vb, rfl, hv, hk⟩; have HV := Lib.hid hv; replace HY := Lib.hid (HY.out.trans hk); clear hv hk)
      clear HOPN HD
      go_upto_region 8 with (go_at_call 8; refine Hid.out ?_)
      refine Lib.hid ?_
      have hx_w3 : Ext w2 (w2.alloc (.cells #[.int .i64 2, .string ⟨#[47, 102]⟩, .string ⟨#[]⟩, .slice a1 l1.length c1] 32)) := (Ext.alloc w2 (.cells #[.int .i64 2, .string ⟨#[47, 102]⟩, .string ⟨#[]⟩, .slice a1 l1.length c1] 32))
      have ho := heap_alloc_new w2 (.cells #[.int .i64 2, .string ⟨#[47, 102]⟩, .string ⟨#[]⟩, .slice a1 l1.length c1] 32)
      generalize (w2.alloc (.cells #[.int .i64 2, .string ⟨#[47, 102]⟩, .string ⟨#[]⟩, .slice a1 l1.length c1] 32)) = w3 at ho hx_w3  ⊢
      have hops : OpsL w3 (some ⟨w2.heap.size, 0, none⟩) ([(⟨2, [47, 102], [], l1⟩, ⟨a1, c1⟩)] : List (OpD × OpA)) := ops_blk ho (by
        intro z hz
        simp only [List.mem_cons, List.not_mem_nil, or_false] at hz
        rcases hz with rfl
        · exact (HB1.out.ext (HY.out.low HLW.out)).ext hx_w3)
      have hvd := at_vDoL (HE.out.keepY (HY.out.trans (KeepY.of_ext hx_w3))) (HV.out.ext hx_w3) (c := 1) hops (ops := [⟨2, [47, 102], [], l1⟩]) rfl (k := 1) rfl (made_f 5000 (a := l1) (by omega) (by omega)) (m2 := ⟨listF 2, [⟨2, l1⟩], 3, 5000⟩) ((sweepM_eq _ _).trans rfl) (fit_cons (fit_op (by decide) (by omega)) fit_nil) (by rw [pk_f]; omega) (off' := (secN (19 + l1.length))) (by rw [pk_f, Nat.zero_add, show 18 + l1.length + 1 = 19 + l1.length by omega]) (by unfold secN halfN; omega) (by decide) (N' := 200002) (by decide) (by decide)
      refine hvd.mono ?_
      rintro E w4 ⟨rfl, hV, hk⟩
      have hy := (HY.out.trans (KeepY.of_ext hx_w3)).trans hk
      replace HV := Lib.hid hV
      replace HY := Lib.hid hy
      clear hV hk hy hx_w3 ho hops hvd
      have hw7 : IntKind.i64.wrap (1 + (t7 : Int)) = 1 + (t7 : Int) := IntWalk.i64_in _ (by omega)
      go_upto_region 12 with fail
      clear hw7 hand
      have HV0 : Hid (VolK X w4 vb db kb 600 (200002 + 0) (secN (19 + l1.length)) 1 5000 ⟨listF 2, [⟨2, l1⟩], 3, 5000⟩ (fun z => if z = 2 then 0 else 0)) := Lib.hid (by
        have e : (fun z : Int => if z = 2 then 0 else 0) = fun _ => (0 : Nat) := by funext z; split <;> rfl
        rw [e]; exact HV.out)
      have HY0 := HY
      clear HV HY
      go_loopw [50, 12, 11] (fun i id er wr => ∃ k : Nat, i = .int .i64 k ∧ k ≤ t7 + 1 ∧ id = .int .i64 (if k = 0 then 0 else 2) ∧ er = .int .i64 0 ∧ Hid (VolK X wr vb db kb 600 (200002 + k) (secN (19 + l1.length)) 1 5000 ⟨listF 2, [⟨2, l1⟩], 3, 5000⟩ (fun z => if z = 2 then k else 0)) ∧ Hid (KeepY X w wr)) (fun i _ _ _ => (t7 + 1) - (intOf i).toNat)
      case atStart => exact ⟨0, rfl, Nat.zero_le _, rfl, rfl, HV0, HY0⟩
      case round =>
        clear HV0 HY0
        obtain ⟨k, rfl, hk, rfl, rfl, HV, HY⟩ := hrel
        by_cases hlt : k < t7 + 1
        · have hd3 : decide ((k : Int) < 1 + (t7 : Int)) = true := decide_eq_true (by omega)
          have hi3 : (k : Int) < 1 + (t7 : Int) := by omega
          have hvh := at_vHoldL (HE.out.keepY HY.out) HV.out [47, 102] (i := 2) rfl (by omega) (by show (if (2 : Int) = 2 then k else 0) ≤ 1000000; rw [if_pos rfl]; omega) (hd' := fun z => if z = 2 then k + 1 else 0) (fun z => by by_cases h : z = 2 <;> simp [h])
          have HVH := Lib.hid hvh; clear hvh
          go_wp2_with (go_at_call 9; refine HVH.out.mono ?_; rintro E w5 ⟨rfl, hv, hk⟩; replace HV := Lib.hid hv; replace HY := Lib.hid (HY.out.trans hk); clear hv hk)
          go_roundw
          case rel => exact ⟨k + 1, by go_num, by omega, by rw [if_neg (by omega)], rfl, HV, HY⟩
          case measure => simp [intOf]; omega
        · obtain rfl : k = t7 + 1 := by omega
          rw [if_neg (by omega : ¬ t7 + 1 = 0)]
          have hd3 : decide (((t7 + 1 : Nat) : Int) < 1 + (t7 : Int)) = false := decide_eq_false (by omega)
          have hd3' : decide ((t7 : Int) + 1 < 1 + (t7 : Int)) = false := decide_eq_false (by omega)
          go_upto_region 18 with (go_at_call 8; refine Hid.out ?_)
          refine Lib.hid ?_
          obtain ⟨w4, rfl⟩ : ∃ x : World, x = wr := ⟨_, rfl⟩
          have hx_w6 : Ext w4 (w4.alloc (.cells #[.int .i64 2, .string ⟨#[47, 103]⟩, .string ⟨#[]⟩, .slice a2 l2.length c2, .int .i64 5, .string ⟨#[47, 103]⟩, .string ⟨#[47, 102]⟩, .slice none 0 0] 32)) := (Ext.alloc w4 (.cells #[.int .i64 2, .string ⟨#[47, 103]⟩, .string ⟨#[]⟩, .slice a2 l2.length c2, .int .i64 5, .string ⟨#[47, 103]⟩, .string ⟨#[47, 102]⟩, .slice none 0 0] 32))
          have ho := heap_alloc_new w4 (.cells #[.int .i64 2, .string ⟨#[47, 103]⟩, .string ⟨#[]⟩, .slice a2 l2.length c2, .int .i64 5, .string ⟨#[47, 103]⟩, .string ⟨#[47, 102]⟩, .slice none 0 0] 32)
          generalize (w4.alloc (.cells #[.int .i64 2, .string ⟨#[47, 103]⟩, .string ⟨#[]⟩, .slice a2 l2.length c2, .int .i64 5, .string ⟨#[47, 103]⟩, .string ⟨#[47, 102]⟩, .slice none 0 0] 32)) = w6 at ho hx_w6  ⊢
          have hops : OpsL w6 (some ⟨w4.heap.size, 0, none⟩) ([(⟨2, [47, 103], [], l2⟩, ⟨a2, c2⟩), (⟨5, [47, 103], [47, 102], []⟩, ⟨none, 0⟩)] : List (OpD × OpA)) := ops_blk ho (by
            intro z hz
            simp only [List.mem_cons, List.not_mem_nil, or_false] at hz
            rcases hz with rfl | rfl
            · exact (HB2.out.ext (HY.out.low HLW.out)).ext hx_w6
            · exact Or.inl rfl)
          have hvd := at_vDoL (HE.out.keepY (HY.out.trans (KeepY.of_ext hx_w6))) (HV.out.ext hx_w6) (c := 2) hops (ops := [⟨2, [47, 103], [], l2⟩, ⟨5, [47, 103], [47, 102], []⟩]) rfl (k := 2) rfl (over_f 5000 (a := l1) (b := l2) (by omega) (by omega)) (m2 := ⟨listF 3, [⟨2, l1⟩, ⟨3, l2⟩], 4, 5000⟩) (sweep_held (by omega) _ _ _) (fit_cons (fit_op (by decide) (by omega)) (fit_all (by decide))) (by rw [pk_g]; omega) (off' := (secN (19 + l1.length) + secN (39 + l2.length))) (by rw [pk_g, show 38 + l2.length + 1 = 39 + l2.length by omega]) (by unfold secN halfN; omega) (by decide) (N' := 200100) (by omega) (by decide)
          refine hvd.mono ?_
          rintro E w7 ⟨rfl, hV, hk⟩
          have hy := (HY.out.trans (KeepY.of_ext hx_w6)).trans hk
          replace HV := Lib.hid hV
          replace HY := Lib.hid hy
          clear hV hk hy hx_w6 ho hops hvd
          obtain ⟨tb1, T1, c0, hT1, hlk1⟩ := HV.out.tree
          have hus := at_Used hT1 (by decide)
          rw [hlk1.used, used_two] at hus
          have HUS := Lib.hid hus; clear hus hT1 hlk1
          have hw8 : IntKind.i64.wrap ((l1.length : Int) + (l2.length : Int)) = (l1.length : Int) + (l2.length : Int) := IntWalk.i64_in _ (by omega)
          have hb8 : (((t7 : Int) + 1) != (1 + (t7 : Int))) = false := by rw [bne_eq_false_iff_eq]; omega
          have hb9 : ((((t7 + 1 : Nat) : Int)) != (1 + (t7 : Int))) = false := by rw [bne_eq_false_iff_eq]; omega
          go_upto_region 19 with (first
            | (go_at_call 10; refine HUS.out.mono ?_; rintro E w8 ⟨rfl, hx⟩; replace HV := Lib.hid (HV.out.ext hx); replace HY := Lib.hid (HY.out.trans (KeepY.of_ext hx)); clear hx)
            | (go_at_call 11; refine (at_vHeld HV.out 2 (by decide) (by decide)).mono ?_; rintro E w9 ⟨rfl, rfl⟩))
          clear HUS c0 hw8 hb8 hb9
          cases boot with
          | true =>
            have hop2 := at_vOpen (HE.out.keepY HY.out) HV.out (by decide)
            have hbm : bareM ⟨listF 3, [⟨2, l1⟩, ⟨3, l2⟩], 4, 5000⟩ = ⟨listF 3, [⟨3, l2⟩], 4, 5000⟩ := rfl
            rw [hbm] at hop2
            have HOP2 := Lib.hid hop2; clear hop2 hbm
            go_upto_region 21 with (go_at_call 7; refine HOP2.out.mono ?_; rintro E w9 ⟨vb2, top2, rfl, htop2, hv2, hk2⟩; have HV2 := Lib.hid hv2; replace HY := Lib.hid (HY.out.trans hk2); clear hv2 hk2 htop2)
            clear HOP2 HV
            obtain ⟨tb2, T2, c0, hT2, hlk2⟩ := HV2.out.tree
            have hus := at_Used hT2 (by decide)
            rw [hlk2.used, used_one] at hus
            have HUS := Lib.hid hus; clear hus
            have hcs : ∀ W, Ext w9 W → W.cell? ⟨vb2, 0, none⟩ = some (.pointer (some ⟨tb2, 0, none⟩)) := fun W k => k.cell c0
            have hlo := fun W (k : Ext w9 W) => at_Loose (hT2.ext k) (by decide)
            rw [hlk2.loose, loose_held] at hlo
            have HLO := Lib.hid hlo; have HCS := Lib.hid hcs; clear hlo hT2 hlk2 hcs
            go_wp2_with (first
              | (go_at_call 10; refine HUS.out.mono ?_; rintro E w10 ⟨rfl, hx⟩; have HX10 := Lib.hid hx; have c1 := HCS.out _ hx; clear hx)
              | (go_at_call 12; refine (HLO.out _ HX10.out).mono ?_; rintro E w11 ⟨a11, c11, rfl, _, hx⟩; have HX11 := Lib.hid (HX10.out.trans hx); clear hx)
              | (go_at_call 11; refine (at_vHeld (HV2.out.ext HX11.out) 2 (by decide) (by decide)).mono ?_; rintro E w12 ⟨rfl, rfl⟩))
            exact HFIN.out _ (HY.out.trans (KeepY.of_ext HX11.out))
          | false =>
            go_upto_region 23 with fail
            have HV0 : Hid (VolK X w8 vb db kb 600 (200100 + 0) (secN (19 + l1.length) + secN (39 + l2.length)) 1 5000 (if 0 < t7 + 1 then ⟨listF 3, [⟨2, l1⟩, ⟨3, l2⟩], 4, 5000⟩ else ⟨listF 3, [⟨3, l2⟩], 4, 5000⟩) (fun z => if z = 2 then t7 + 1 - 0 else 0)) := Lib.hid (by rw [if_pos (by omega)]; exact HV.out)
            have HY0 := HY
            clear HV HY
            go_loopw [125] (fun i wr => ∃ k : Nat, i = .int .i64 k ∧ k ≤ t7 + 1 ∧ Hid (VolK X wr vb db kb 600 (200100 + k) (secN (19 + l1.length) + secN (39 + l2.length)) 1 5000 (if k < t7 + 1 then ⟨listF 3, [⟨2, l1⟩, ⟨3, l2⟩], 4, 5000⟩ else ⟨listF 3, [⟨3, l2⟩], 4, 5000⟩) (fun z => if z = 2 then t7 + 1 - k else 0)) ∧ Hid (KeepY X w wr)) (fun i _ => (t7 + 1) - (intOf i).toNat)
            case atStart => exact ⟨0, rfl, Nat.zero_le _, HV0, HY0⟩
            case round =>
              clear HV0 HY0
              obtain ⟨k, rfl, hk, HV, HY⟩ := hrel
              by_cases hlt : k < t7 + 1
              · have hd3 : decide ((k : Int) < 1 + (t7 : Int)) = true := decide_eq_true (by omega)
                rw [if_pos hlt] at HV
                have hsw : sweepM ⟨listF 3, [⟨2, l1⟩, ⟨3, l2⟩], 4, 5000⟩ (fun z => if z = 2 then t7 + 1 - (k + 1) else 0) = if k + 1 < t7 + 1 then ⟨listF 3, [⟨2, l1⟩, ⟨3, l2⟩], 4, 5000⟩ else ⟨listF 3, [⟨3, l2⟩], 4, 5000⟩ := by
                  by_cases h : k + 1 < t7 + 1
                  · rw [if_pos h]; exact sweep_held (by omega) _ _ _
                  · rw [if_neg h, show t7 + 1 - (k + 1) = 0 by omega]; exact sweep_free _ _ _
                have hvl := at_vLetL HV.out 2 (by decide) (by decide) (by show (if (2 : Int) = 2 then t7 + 1 - k else 0) ≠ 0; rw [if_pos rfl]; omega) (by show (if (2 : Int) = 2 then t7 + 1 - k else 0) ≤ 1000000; rw [if_pos rfl]; omega) (by omega) (hd' := fun z => if z = 2 then t7 + 1 - (k + 1) else 0) (fun z => by by_cases h : z = 2 <;> simp [h]; omega) hsw
                have HVL := Lib.hid hvl; clear hvl hsw
                have hw9 : IntKind.i64.wrap (1 + (t7 : Int) - 1) = (t7 : Int) := by rw [IntWalk.i64_in _ (by omega)]; omega
                by_cases hk7 : k = t7
                · have hb1 : ((k : Int) == (t7 : Int)) = true := by rw [beq_iff_eq]; omega
                  have hnl : ¬ (k + 1 < t7 + 1) := by omega
                  have HK7 := Lib.hid hk7; clear hk7
                  have HUM : Hid (usedM (if k + 1 < t7 + 1 then ⟨listF 3, [⟨2, l1⟩, ⟨3, l2⟩], 4, 5000⟩ else ⟨listF 3, [⟨3, l2⟩], 4, 5000⟩) = l2.length) := Lib.hid (by rw [if_neg hnl, used_one])
                  clear hnl
                  go_wp2_with (first
                    | (go_at_call 13; refine HVL.out.mono ?_; rintro E w9 ⟨rfl, hv, hk9⟩; replace HV := Lib.hid hv; replace HY := Lib.hid (HY.out.trans hk9); clear hv hk9; obtain ⟨tb2, T2, c0, hT2, hlk2⟩ := HV.out.tree; have hus := at_Used hT2 (by omega); rw [hlk2.used, HUM.out] at hus; have HUS := Lib.hid hus; clear hus hT2 hlk2)
                    | (go_at_call 10; refine HUS.out.mono ?_; rintro E w10 ⟨rfl, hx⟩; replace HV := Lib.hid (HV.out.ext hx); replace HY := Lib.hid (HY.out.trans (KeepY.of_ext hx)); clear hx))
                  go_roundw
                  case rel => exact ⟨k + 1, by go_num, by omega, HV, HY⟩
                  case measure => simp [intOf]; omega
                · have hb1 : ((k : Int) == (t7 : Int)) = false := by rw [beq_eq_false_iff_ne]; omega
                  have HUM : Hid (usedM (if k + 1 < t7 + 1 then ⟨listF 3, [⟨2, l1⟩, ⟨3, l2⟩], 4, 5000⟩ else ⟨listF 3, [⟨3, l2⟩], 4, 5000⟩) = l1.length + l2.length) := Lib.hid (by rw [if_pos (by omega), used_two])
                  by_cases hl1 : l1.length = 0
                  · have hb2 : (((l1.length : Int) + (l2.length : Int)) == (l2.length : Int)) = true := by rw [beq_iff_eq]; omega
                    have hb3 : decide ((0 : Int) < (l1.length : Int)) = false := decide_eq_false (by omega)
                    have hb4 : decide (0 < l1.length) = false := decide_eq_false (by omega)
                    clear hl1
                    go_wp2_with (first
                      | (go_at_call 13; refine HVL.out.mono ?_; rintro E w9 ⟨rfl, hv, hk9⟩; replace HV := Lib.hid hv; replace HY := Lib.hid (HY.out.trans hk9); clear hv hk9; obtain ⟨tb2, T2, c0, hT2, hlk2⟩ := HV.out.tree; have hus := at_Used hT2 (by omega); rw [hlk2.used, HUM.out] at hus; have HUS := Lib.hid hus; clear hus hT2 hlk2)
                      | (go_at_call 10; refine HUS.out.mono ?_; rintro E w10 ⟨rfl, hx⟩; replace HV := Lib.hid (HV.out.ext hx); replace HY := Lib.hid (HY.out.trans (KeepY.of_ext hx)); clear hx))
                    go_roundw
                    case rel => exact ⟨k + 1, by go_num, by omega, HV, HY⟩
                    case measure => simp [intOf]; omega
                  · have hb2 : (((l1.length : Int) + (l2.length : Int)) == (l2.length : Int)) = false := by rw [beq_eq_false_iff_ne]; omega
                    clear hl1
                    go_wp2_with (first
                      | (go_at_call 13; refine HVL.out.mono ?_; rintro E w9 ⟨rfl, hv, hk9⟩; replace HV := Lib.hid hv; replace HY := Lib.hid (HY.out.trans hk9); clear hv hk9; obtain ⟨tb2, T2, c0, hT2, hlk2⟩ := HV.out.tree; have hus := at_Used hT2 (by omega); rw [hlk2.used, HUM.out] at hus; have HUS := Lib.hid hus; clear hus hT2 hlk2)
                      | (go_at_call 10; refine HUS.out.mono ?_; rintro E w10 ⟨rfl, hx⟩; replace HV := Lib.hid (HV.out.ext hx); replace HY := Lib.hid (HY.out.trans (KeepY.of_ext hx)); clear hx))
                    go_roundw
                    case rel => exact ⟨k + 1, by go_num, by omega, HV, HY⟩
                    case measure => simp [intOf]; omega
              · obtain rfl : k = t7 + 1 := by omega
                rw [if_neg (by omega : ¬ t7 + 1 < t7 + 1)] at HV
                have hd3 : decide (((t7 + 1 : Nat) : Int) < 1 + (t7 : Int)) = false := decide_eq_false (by omega)
                have hd3' : decide ((t7 : Int) + 1 < 1 + (t7 : Int)) = false := decide_eq_false (by omega)
                have hvn := at_vLet_none HV.out 2 (by decide) (by decide) (by show (if (2 : Int) = 2 then t7 + 1 - (t7 + 1) else 0) = 0; rw [if_pos rfl]; omega)
                obtain ⟨tb2, T2, c0, hT2, hlk2⟩ := HV.out.tree
                have hus := at_Used hT2 (by omega)
                rw [hlk2.used, used_one] at hus
                have HUS := Lib.hid hus; have HVN := Lib.hid hvn; clear hus hT2 hlk2 hvn
                go_wp2_with (first
                  | (go_at_call 13; refine HVN.out.mono ?_; rintro E w9 ⟨rfl, rfl⟩)
                  | (go_at_call 10; refine HUS.out.mono ?_; rintro E w10 ⟨rfl, hx⟩; replace HY := Lib.hid (HY.out.trans (KeepY.of_ext hx)); clear hx))
                exact HFIN.out _ HY.out
end
omit [Low] in
/-- The statement's walk: what is there ahead of it stands. -/
theorem vol_holds (a1 : Option Addr) (c1 : Nat) (l1 : By) (a2 : Option Addr) (c2 : Nat) (l2 : By) (times : Int) (boot : Bool) (w : World) (hE : Env w) (hB1 : Bytes w a1 l1) (hB2 : Bytes w a2 l2) :
              Calls Tryz.prog 3 #[.slice a1 l1.length c1, .slice a2 l2.length c2, .int .i64 times, .bool boot] w fun e w' => e = .returned (.bool true) ∧ Ext w w' :=
            @vol_holdsW ⟨w.heap.size⟩ (fun _ => False) a1 c1 l1 a2 c2 l2 times boot w rfl (fun _ h => h.elim) hE hB1 hB2
end Go.Proofs.YtlpjmkkinlcbnaaGreatDoor
