/- The walk of farrierlaw17.NeedNone. -/
import Derived.Test.YtefpllpichhojaaGreatDoorM15
namespace Go.Proofs.YtefpllpichhojaaGreatDoor
open Go.RowKit
theorem and_1 (q : Int) : bits .and .i64 q 1 = 0 ∨ bits .and .i64 q 1 = 1 := by
 have h : bits .and .i64 q 1 = IntKind.i64.wrap (((BitVec.ofInt 64 q &&& BitVec.ofInt 64 1).toNat : Nat) : Int) := rfl
 have h2 : (BitVec.ofInt 64 q &&& BitVec.ofInt 64 1).toNat ≤ 1 := by
  rw [BitVec.toNat_and]
  exact Nat.le_trans Nat.and_le_right (by decide)
 generalize (BitVec.ofInt 64 q &&& BitVec.ofInt 64 1).toNat = k at h h2
 rw [h, IntWalk.i64_in _ (by omega)]
 omega
theorem n17_mem {k : Nat} (hk : k < 4) : n17 k ∈ all17 := by
 have h : k = 0 ∨ k = 1 ∨ k = 2 ∨ k = 3 := by omega
 rcases h with rfl | rfl | rfl | rfl <;> decide
variable [Low]
section
def allC : Array Value := #[.string ⟨#[117]⟩, .string ⟨#[118]⟩, .string ⟨#[119]⟩, .string ⟨#[120]⟩]
omit [Low] in
theorem allC_at {w : World} {g : Nat} (h : w.heap[g]? = some (.cells allC 9 (0, 0))) {k : Nat} (hk : k < 4) : w.cell? ⟨g, k, none⟩ = some (.string (bs (n17 k))) := by
 refine blk_cell h k _ ?_
 have e : k = 0 ∨ k = 1 ∨ k = 2 ∨ k = 3 := by omega
 rcases e with rfl | rfl | rfl | rfl <;> rfl
theorem allC_keep {X : Nat → Prop} {a b : World} {g : Nat} (h : a.heap[g]? = some (.cells allC 9 (0, 0))) (k : KeepM X a b) : b.heap[g]? = some (.cells allC 9 (0, 0)) :=
 Keep.heap k (Or.inr (Or.inr ⟨_, _, _, h, by decide⟩)) h
omit [Low] in
theorem ops_A (w : World) : let W := w.alloc (.cells #[.int .i64 4, .string ⟨#[47, 97]⟩, .string ⟨#[47, 111, 108, 100]⟩, .slice none 0 0, .int .i64 2, .string ⟨#[47, 110, 101, 119]⟩, .string ⟨#[]⟩, .slice none 0 0, .int .i64 5, .string ⟨#[47, 110, 101, 119]⟩, .string ⟨#[47, 97]⟩, .slice none 0 0] 52); OpsL W (some ⟨w.heap.size, 0, none⟩) (opsA.map fun o => (o, ⟨none, 0⟩)) :=
 ops_blk (heap_alloc_new w (.cells #[.int .i64 4, .string ⟨#[47, 97]⟩, .string ⟨#[47, 111, 108, 100]⟩, .slice none 0 0, .int .i64 2, .string ⟨#[47, 110, 101, 119]⟩, .string ⟨#[]⟩, .slice none 0 0, .int .i64 5, .string ⟨#[47, 110, 101, 119]⟩, .string ⟨#[47, 97]⟩, .slice none 0 0] 52)) (by
  intro z hz
  simp only [opsA, List.map_cons, List.map_nil, List.mem_cons, List.not_mem_nil, or_false] at hz
  rcases hz with rfl | rfl | rfl <;> exact Or.inl rfl)
omit [Low] in
theorem ops_B (w : World) : let W := w.alloc (.cells #[.int .i64 5, .string ⟨#[47, 111, 108, 100]⟩, .string ⟨#[47, 97]⟩, .slice none 0 0] 52); OpsL W (some ⟨w.heap.size, 0, none⟩) (opsB.map fun o => (o, ⟨none, 0⟩)) :=
 ops_blk (heap_alloc_new w (.cells #[.int .i64 5, .string ⟨#[47, 111, 108, 100]⟩, .string ⟨#[47, 97]⟩, .slice none 0 0] 52)) (by
  intro z hz
  simp only [opsB, List.map_cons, List.map_nil, List.mem_cons, List.not_mem_nil, or_false] at hz
  rcases hz with rfl <;> exact Or.inl rfl)
set_option maxRecDepth 100000 in
set_option maxHeartbeats 12800000 in
theorem need_noneW (x : Int) (back : Bool) (w : World) (hlw : Low.low = w.heap.size) (hE : EnvL w) :
 Calls Tryz.prog 4 #[.int .i64 x, .bool back] w fun e w' => e = .returned (.bool true) ∧ Ext w w' := by
 obtain ⟨R, hR⟩ : ∃ R : Ending → World → Prop, R = fun e w' => e = .returned (.bool true) ∧ Ext w w' := ⟨_, rfl⟩
 rw [← hR]
 have hfin : ∀ w', KeepM (fun _ => False) w w' → R (.returned (.bool true)) w' := fun w' hk => by rw [hR]; exact ⟨rfl, hk.low hlw⟩
 have HFIN := Lib.hid hfin; clear hfin hR
 have HAL := Lib.hid (alive17 (X := fun _ => False) w hE (by omega) (fun _ h => h.elim))
 have HE := Lib.hid hE; have HLW := Lib.hid (Nat.le_of_eq hlw)
 clear hlw hE
 obtain ⟨b, fa, fh, fd, fb, fe, fc, fx⟩ : ∃ b : Nat → Bool, (∀ k, k < 4 → b k = true → (startM units17 (stA b k) (n17 k)).2 = 0) ∧ (∀ x ∈ all17, ofM (stA b 4) x = false) ∧ (doM (stA b 4).F.m opsA).2 = 0 ∧ (∀ k, k < 4 → b k = false → ofM (stB b k) (n17 k) = false ∧ (startM units17 (stB b k) (n17 k)).2 = 0) ∧ (doM (stB b 4).F.m opsB).2 = 0 ∧ (∀ back k, k < 4 → ofM (stC b back) (n17 k) = (has17 k && (b k != back))) ∧ ∀ k, k < 4 → b k = decide (bits .and .i64 (x / 2 ^ k) 1 = 1) := by
  refine ⟨bit4 (decide (bits .and .i64 (x / 2 ^ 0) 1 = 1)) (decide (bits .and .i64 (x / 2 ^ 1) 1 = 1)) (decide (bits .and .i64 (x / 2 ^ 2) 1 = 1)) (decide (bits .and .i64 (x / 2 ^ 3) 1 = 1)), factA _ _ _ _, factH _ _ _ _, factD _ _ _ _, factB _ _ _ _, factE _ _ _ _, fun back k hk => factC _ _ _ _ back k hk, fun k hk => ?_⟩
  have e : k = 0 ∨ k = 1 ∨ k = 2 ∨ k = 3 := by omega
  rcases e with rfl | rfl | rfl | rfl <;> rfl
 have FA := Lib.hid fa; have FH := Lib.hid fh; have FD := Lib.hid fd; have FB := Lib.hid fb; have FE := Lib.hid fe; have FC := Lib.hid fc; have FX := Lib.hid fx
 clear fa fh fd fb fe fc fx
 go_enter Tryz.func4, Tryz.ntmps4
 go_upto_region 4 with (first
  | (go_at_call 27; refine HAL.out.mono ?_; rintro e w1 ⟨rfl, hk⟩; have HK1 := Lib.hid hk; clear hk HAL)
  | (go_at_call 28; refine (open17 (X := fun _ => False) w1 (HE.out.keepM HK1.out) (Nat.le_trans HLW.out (Keep.size HK1.out)) (fun _ h => h.elim)).mono ?_; rintro E w2 ⟨vb, mb, gb, tb, db, kb, lm, la, lc, A, Y, rfl, hxy, hs, hg, hk⟩; have HXY := Lib.hid hxy; have H1 : Hid (Run17 Y w2 mb tb vb gb db kb lm 200010 2 (stA b 0)) := Lib.hid ⟨(HE.out.keepM HK1.out).keepM hk, Nat.le_trans (Nat.le_trans HLW.out (Keep.size HK1.out)) (Keep.size hk), ⟨la, lc, A, hs⟩, hg, Nat.zero_le _, fun _ _ h => (by cases h), fun _ h => absurd rfl h⟩; have HK := Lib.hid (HK1.out.trans hk); clear hxy hs hg hk HK1))
 go_upto_region 6 with fail
 have hall := heap_alloc_new w2 (.cells allC 9)
 have hxa := Ext.alloc w2 (.cells allC 9)
 obtain ⟨ab, hab⟩ : ∃ ab, ab = w2.heap.size := ⟨_, rfl⟩
 rw [← hab] at hall ⊢
 replace H1 := Lib.hid (H1.out.ext hxa); replace HK := Lib.hid (HK.out.trans (KeepM.of_ext hxa))
 have HALL := Lib.hid hall
 clear hall hxa hab
 go_loopw [24] (fun i wr => ∃ (k : Nat), i = .int .i64 k ∧ k ≤ 4 ∧ Hid (Run17 Y wr mb tb vb gb db kb lm (200010 + 30 * k) 2 (stA b k)) ∧ Hid (KeepM (fun _ => False) w wr) ∧ Hid (wr.heap[ab]? = some (.cells allC 9 (0, 0)))) (fun i _ => 4 - (intOf i).toNat)
 case atStart => exact ⟨0, rfl, Nat.zero_le _, H1, HK, HALL⟩
 case round =>
  clear H1 HK HALL
  obtain ⟨k, rfl, hk, H1, HK, HALL⟩ := hrel
  by_cases hlt : k < 4
  · have q0 := allC_at HALL.out hlt
    have hbk := FX.out k hlt
    cases hb : b k with
    | true =>
      have hv : bits .and .i64 (x / 2 ^ k) 1 = 1 := of_decide_eq_true (by rw [← hbk, hb])
      have e : stA b (k + 1) = (startM units17 (stA b k) (n17 k)).1 := by show (if b k then _ else _) = _; rw [hb]; rfl
      have F1 := Lib.hid (FA.out k hlt hb); have HS := Lib.hid e
      clear hbk hb e
      go_wp2_with (go_at_call 29; refine (run_start H1.out (n17 k) (n17_mem hlt) (by omega)).mono ?_; rw [F1.out]; rintro E w4 ⟨rfl, h2, hk⟩; rw [← HS.out] at h2; have H2 := Lib.hid h2; have HK2 := Lib.hid (HK.out.trans (hk.mono HXY.out)); have HA2 := Lib.hid (allC_keep HALL.out hk); clear h2 hk H1 HK HALL)
      go_roundw
      case rel => exact ⟨k + 1, by go_num, by omega, Lib.hid (H2.out.mono (by omega)), HK2, HA2⟩
      case measure => simp [intOf]; omega
    | false =>
      have hv : bits .and .i64 (x / 2 ^ k) 1 = 0 := (and_1 _).resolve_right (of_decide_eq_false (by rw [← hbk, hb]))
      have e : stA b (k + 1) = stA b k := by show (if b k then _ else _) = _; rw [hb]; rfl
      have HS := Lib.hid e
      clear hbk hb e
      go_wp2_with fail
      go_roundw
      case rel => exact ⟨k + 1, by go_num, by omega, by rw [HS.out]; exact Lib.hid (H1.out.mono (by omega)), HK, HALL⟩
      case measure => simp [intOf]; omega
  · have hkk : k = 4 := by omega
    subst hkk
    clear hlt hk
    go_upto_region 13 with (first
     | (go_at_call 30; refine (run_hit H1.out (by decide)).mono ?_; rintro E w4 ⟨ss, hss, a4, c4, rfl, hO, _, hx⟩; rw [hit_none FH.out H1.out.dom hss]; have H4 := Lib.hid (H1.out.ext hx); have HK4 := Lib.hid (HK.out.trans (KeepM.of_ext hx)); have HA4 := Lib.hid (hx.heap HALL.out); clear hO hss hx H1 HK HALL)
     | (go_at_call 24; refine Hid.out ?_; refine Lib.hid ?_; refine (run_do (H4.out.ext (Ext.alloc w4 (.cells #[.int .i64 4, .string ⟨#[47, 97]⟩, .string ⟨#[47, 111, 108, 100]⟩, .slice none 0 0, .int .i64 2, .string ⟨#[47, 110, 101, 119]⟩, .string ⟨#[]⟩, .slice none 0 0, .int .i64 5, .string ⟨#[47, 110, 101, 119]⟩, .string ⟨#[47, 97]⟩, .slice none 0 0] 52))) (c := 3) (ops_A w4) (ops := opsA) rfl (k := 3) rfl FD.out (fit_all (by decide)) (by decide) (off' := 4) (by decide) (by decide) (N' := 200200) (by decide) (by decide)).mono ?_; rintro E w5 ⟨rfl, h5, hk⟩; have H5 : Hid (Run17 Y w5 mb tb vb gb db kb lm 200200 4 (stB b 0)) := Lib.hid h5; have HK5 := Lib.hid ((HK4.out.trans (KeepM.of_ext (Ext.alloc w4 (.cells #[.int .i64 4, .string ⟨#[47, 97]⟩, .string ⟨#[47, 111, 108, 100]⟩, .slice none 0 0, .int .i64 2, .string ⟨#[47, 110, 101, 119]⟩, .string ⟨#[]⟩, .slice none 0 0, .int .i64 5, .string ⟨#[47, 110, 101, 119]⟩, .string ⟨#[47, 97]⟩, .slice none 0 0] 52)))).trans (hk.mono HXY.out)); have HA5 := Lib.hid (allC_keep ((Ext.alloc w4 (.cells #[.int .i64 4, .string ⟨#[47, 97]⟩, .string ⟨#[47, 111, 108, 100]⟩, .slice none 0 0, .int .i64 2, .string ⟨#[47, 110, 101, 119]⟩, .string ⟨#[]⟩, .slice none 0 0, .int .i64 5, .string ⟨#[47, 110, 101, 119]⟩, .string ⟨#[47, 97]⟩, .slice none 0 0] 52)).heap HA4.out) hk); clear h5 hk H4 HK4 HA4))
    go_upto_region 14 with fail
    go_loopw [57] (fun i wr => ∃ (k : Nat), i = .int .i64 k ∧ k ≤ 4 ∧ Hid (Run17 Y wr mb tb vb gb db kb lm (200200 + 30 * k) 4 (stB b k)) ∧ Hid (KeepM (fun _ => False) w wr) ∧ Hid (wr.heap[ab]? = some (.cells allC 9 (0, 0)))) (fun i _ => 4 - (intOf i).toNat)
    case atStart => exact ⟨0, rfl, Nat.zero_le _, H5, HK5, HA5⟩
    case round =>
     clear H5 HK5 HA5
     obtain ⟨k, rfl, hk, H1, HK, HALL⟩ := hrel
     by_cases hlt : k < 4
     · have q0 := allC_at HALL.out hlt
       have hbk := FX.out k hlt
       cases hb : b k with
       | false =>
         have hv : bits .and .i64 (x / 2 ^ k) 1 = 0 := (and_1 _).resolve_right (of_decide_eq_false (by rw [← hbk, hb]))
         have e : stB b (k + 1) = (startM units17 (stB b k) (n17 k)).1 := by show (if b k then _ else _) = _; rw [hb]; rfl
         obtain ⟨f1, f2⟩ := FB.out k hlt hb
         have F1 := Lib.hid f1; have F2 := Lib.hid f2; have HS := Lib.hid e
         clear hbk hb e f1 f2
         go_wp2_with (first
          | (go_at_call 31; refine (run_of H1.out (n17 k) (all17_len (n17_mem hlt)) (by omega)).mono ?_; rw [F1.out]; rintro E w6 ⟨rfl, hx⟩; have H6 := Lib.hid (H1.out.ext hx); have HK6 := Lib.hid (HK.out.trans (KeepM.of_ext hx)); have HA6 := Lib.hid (hx.heap HALL.out); clear hx H1 HK HALL)
          | (go_at_call 29; refine (run_start H6.out (n17 k) (n17_mem hlt) (by omega)).mono ?_; rw [F2.out]; rintro E w7 ⟨rfl, h2, hk⟩; rw [← HS.out] at h2; have H2 := Lib.hid h2; have HK2 := Lib.hid (HK6.out.trans (hk.mono HXY.out)); have HA2 := Lib.hid (allC_keep HA6.out hk); clear h2 hk H6 HK6 HA6))
         go_roundw
         case rel => exact ⟨k + 1, by go_num, by omega, Lib.hid (H2.out.mono (by omega)), HK2, HA2⟩
         case measure => simp [intOf]; omega
       | true =>
         have hv : bits .and .i64 (x / 2 ^ k) 1 = 1 := of_decide_eq_true (by rw [← hbk, hb])
         have e : stB b (k + 1) = stB b k := by show (if b k then _ else _) = _; rw [hb]; rfl
         have HS := Lib.hid e
         clear hbk hb e
         go_wp2_with fail
         go_roundw
         case rel => exact ⟨k + 1, by go_num, by omega, by rw [HS.out]; exact Lib.hid (H1.out.mono (by omega)), HK, HALL⟩
         case measure => simp [intOf]; omega
     · have hkk : k = 4 := by omega
       subst hkk
       clear hlt hk
       simp only [Int.cast_ofNat_Int]
       cases back with
       | true =>
         go_upto_region 21 with (go_at_call 24; refine Hid.out ?_; refine Lib.hid ?_; refine (run_do (H1.out.ext (Ext.alloc _ (.cells #[.int .i64 5, .string ⟨#[47, 111, 108, 100]⟩, .string ⟨#[47, 97]⟩, .slice none 0 0] 52))) (c := 1) (ops_B _) (ops := opsB) rfl (k := 1) rfl FE.out (fit_all (by decide)) (by decide) (off' := 5) (by decide) (by decide) (N' := 200400) (by decide) (by decide)).mono ?_; rintro E w8 ⟨rfl, h5, hk⟩; have H9 : Hid (Run17 Y w8 mb tb vb gb db kb lm 200400 5 (stC b true)) := Lib.hid h5; have HK9 := Lib.hid ((HK.out.trans (KeepM.of_ext (Ext.alloc _ (.cells #[.int .i64 5, .string ⟨#[47, 111, 108, 100]⟩, .string ⟨#[47, 97]⟩, .slice none 0 0] 52)))).trans (hk.mono HXY.out)); have HA9 := Lib.hid (allC_keep ((Ext.alloc _ (.cells #[.int .i64 5, .string ⟨#[47, 111, 108, 100]⟩, .string ⟨#[47, 97]⟩, .slice none 0 0] 52)).heap HALL.out) hk); clear h5 hk H1 HK HALL)
         go_upto_region 22 with fail
         go_loopw [90] (fun i wr => ∃ (k : Nat), i = .int .i64 k ∧ k ≤ 4 ∧ Hid (Run17 Y wr mb tb vb gb db kb lm 200400 5 (stC b true)) ∧ Hid (KeepM (fun _ => False) w wr) ∧ Hid (wr.heap[ab]? = some (.cells allC 9 (0, 0)))) (fun i _ => 4 - (intOf i).toNat)
         case atStart => exact ⟨0, rfl, Nat.zero_le _, H9, HK9, HA9⟩
         case round =>
          clear H9 HK9 HA9
          obtain ⟨k, rfl, hk, H1, HK, HALL⟩ := hrel
          by_cases hlt : k < 4
          · have q0 := allC_at HALL.out hlt
            have hbk := FX.out k hlt
            have hof := FC.out true k hlt
            cases hb : b k with
            | true =>
              have hv : bits .and .i64 (x / 2 ^ k) 1 = 1 := of_decide_eq_true (by rw [← hbk, hb])
              rw [hb] at hof
              have HOF := Lib.hid hof; have HV := Lib.hid hv
              clear hbk hb hof hv
              have e : k = 0 ∨ k = 1 ∨ k = 2 ∨ k = 3 := by omega
              rcases e with rfl | rfl | rfl | rfl
              · have q1 : wr.cell? ⟨ab, 0, none⟩ = some (.string ⟨#[117]⟩) := q0
                have hv := HV.out
                have hv2 := hv
                simp only [Int.pow_zero, Int.ediv_one] at hv2
                clear q0
                go_wp2_with (go_at_call 31; refine (run_of H1.out [117] (by decide) (by decide)).mono ?_; rw [show ofM (stC b true) [117] = false from HOF.out.trans (by decide)]; rintro E w4 ⟨rfl, hx⟩; have H2 := Lib.hid (H1.out.ext hx); have HK2 := Lib.hid (HK.out.trans (KeepM.of_ext hx)); have HA2 := Lib.hid (hx.heap HALL.out); clear hx H1 HK HALL)
                go_roundw
                case rel => exact ⟨0 + 1, by go_num, by omega, H2, HK2, HA2⟩
                case measure => simp [intOf]
              · have q1 : wr.cell? ⟨ab, 1, none⟩ = some (.string ⟨#[118]⟩) := q0
                have hv := HV.out
                clear q0
                go_wp2_with (go_at_call 31; refine (run_of H1.out [118] (by decide) (by decide)).mono ?_; rw [show ofM (stC b true) [118] = false from HOF.out.trans (by decide)]; rintro E w4 ⟨rfl, hx⟩; have H2 := Lib.hid (H1.out.ext hx); have HK2 := Lib.hid (HK.out.trans (KeepM.of_ext hx)); have HA2 := Lib.hid (hx.heap HALL.out); clear hx H1 HK HALL)
                go_roundw
                case rel => exact ⟨1 + 1, by go_num, by omega, H2, HK2, HA2⟩
                case measure => simp [intOf]
              · have q1 : wr.cell? ⟨ab, 2, none⟩ = some (.string ⟨#[119]⟩) := q0
                have hv := HV.out
                have hv2 := hv
                rw [show (2 : Int) ^ 2 = 4 by decide] at hv2
                clear q0
                go_wp2_with (go_at_call 31; refine (run_of H1.out [119] (by decide) (by decide)).mono ?_; rw [show ofM (stC b true) [119] = false from HOF.out.trans (by decide)]; rintro E w4 ⟨rfl, hx⟩; have H2 := Lib.hid (H1.out.ext hx); have HK2 := Lib.hid (HK.out.trans (KeepM.of_ext hx)); have HA2 := Lib.hid (hx.heap HALL.out); clear hx H1 HK HALL)
                go_roundw
                case rel => exact ⟨2 + 1, by go_num, by omega, H2, HK2, HA2⟩
                case measure => simp [intOf]
              · have q1 : wr.cell? ⟨ab, 3, none⟩ = some (.string ⟨#[120]⟩) := q0
                have hv := HV.out
                clear q0
                go_wp2_with (go_at_call 31; refine (run_of H1.out [120] (by decide) (by decide)).mono ?_; rw [show ofM (stC b true) [120] = false from HOF.out.trans (by decide)]; rintro E w4 ⟨rfl, hx⟩; have H2 := Lib.hid (H1.out.ext hx); have HK2 := Lib.hid (HK.out.trans (KeepM.of_ext hx)); have HA2 := Lib.hid (hx.heap HALL.out); clear hx H1 HK HALL)
                go_roundw
                case rel => exact ⟨3 + 1, by go_num, by omega, H2, HK2, HA2⟩
                case measure => simp [intOf]
            | false =>
              have hv : bits .and .i64 (x / 2 ^ k) 1 = 0 := (and_1 _).resolve_right (of_decide_eq_false (by rw [← hbk, hb]))
              rw [hb] at hof
              have HOF := Lib.hid hof; have HV := Lib.hid hv
              clear hbk hb hof hv
              have e : k = 0 ∨ k = 1 ∨ k = 2 ∨ k = 3 := by omega
              rcases e with rfl | rfl | rfl | rfl
              · have q1 : wr.cell? ⟨ab, 0, none⟩ = some (.string ⟨#[117]⟩) := q0
                have hv := HV.out
                have hv2 := hv
                simp only [Int.pow_zero, Int.ediv_one] at hv2
                clear q0
                go_wp2_with (go_at_call 31; refine (run_of H1.out [117] (by decide) (by decide)).mono ?_; rw [show ofM (stC b true) [117] = true from HOF.out.trans (by decide)]; rintro E w4 ⟨rfl, hx⟩; have H2 := Lib.hid (H1.out.ext hx); have HK2 := Lib.hid (HK.out.trans (KeepM.of_ext hx)); have HA2 := Lib.hid (hx.heap HALL.out); clear hx H1 HK HALL)
                go_roundw
                case rel => exact ⟨0 + 1, by go_num, by omega, H2, HK2, HA2⟩
                case measure => simp [intOf]
              · have q1 : wr.cell? ⟨ab, 1, none⟩ = some (.string ⟨#[118]⟩) := q0
                have hv := HV.out
                clear q0
                go_wp2_with (go_at_call 31; refine (run_of H1.out [118] (by decide) (by decide)).mono ?_; rw [show ofM (stC b true) [118] = false from HOF.out.trans (by decide)]; rintro E w4 ⟨rfl, hx⟩; have H2 := Lib.hid (H1.out.ext hx); have HK2 := Lib.hid (HK.out.trans (KeepM.of_ext hx)); have HA2 := Lib.hid (hx.heap HALL.out); clear hx H1 HK HALL)
                go_roundw
                case rel => exact ⟨1 + 1, by go_num, by omega, H2, HK2, HA2⟩
                case measure => simp [intOf]
              · have q1 : wr.cell? ⟨ab, 2, none⟩ = some (.string ⟨#[119]⟩) := q0
                have hv := HV.out
                have hv2 := hv
                rw [show (2 : Int) ^ 2 = 4 by decide] at hv2
                clear q0
                go_wp2_with (go_at_call 31; refine (run_of H1.out [119] (by decide) (by decide)).mono ?_; rw [show ofM (stC b true) [119] = true from HOF.out.trans (by decide)]; rintro E w4 ⟨rfl, hx⟩; have H2 := Lib.hid (H1.out.ext hx); have HK2 := Lib.hid (HK.out.trans (KeepM.of_ext hx)); have HA2 := Lib.hid (hx.heap HALL.out); clear hx H1 HK HALL)
                go_roundw
                case rel => exact ⟨2 + 1, by go_num, by omega, H2, HK2, HA2⟩
                case measure => simp [intOf]
              · have q1 : wr.cell? ⟨ab, 3, none⟩ = some (.string ⟨#[120]⟩) := q0
                have hv := HV.out
                clear q0
                go_wp2_with (go_at_call 31; refine (run_of H1.out [120] (by decide) (by decide)).mono ?_; rw [show ofM (stC b true) [120] = false from HOF.out.trans (by decide)]; rintro E w4 ⟨rfl, hx⟩; have H2 := Lib.hid (H1.out.ext hx); have HK2 := Lib.hid (HK.out.trans (KeepM.of_ext hx)); have HA2 := Lib.hid (hx.heap HALL.out); clear hx H1 HK HALL)
                go_roundw
                case rel => exact ⟨3 + 1, by go_num, by omega, H2, HK2, HA2⟩
                case measure => simp [intOf]
          · have hkk : k = 4 := by omega
            subst hkk
            go_wp2_with fail
            exact HFIN.out _ HK.out
       | false =>
         have H9 : Hid (Run17 Y wr mb tb vb gb db kb lm 200400 4 (stC b false)) := Lib.hid (H1.out.mono (by omega))
         have HK9 := HK; have HA9 := HALL
         clear H1 HK HALL
         go_upto_region 21 with fail
         go_upto_region 22 with fail
         obtain ⟨w9, rfl⟩ : ∃ x : World, x = wr := ⟨_, rfl⟩
         go_loopw [90] (fun i wr => ∃ (k : Nat), i = .int .i64 k ∧ k ≤ 4 ∧ Hid (Run17 Y wr mb tb vb gb db kb lm 200400 4 (stC b false)) ∧ Hid (KeepM (fun _ => False) w wr) ∧ Hid (wr.heap[ab]? = some (.cells allC 9 (0, 0)))) (fun i _ => 4 - (intOf i).toNat)
         case atStart => exact ⟨0, rfl, Nat.zero_le _, H9, HK9, HA9⟩
         case round =>
          clear H9 HK9 HA9
          obtain ⟨k, rfl, hk, H1, HK, HALL⟩ := hrel
          by_cases hlt : k < 4
          · have q0 := allC_at HALL.out hlt
            have hbk := FX.out k hlt
            have hof := FC.out false k hlt
            cases hb : b k with
            | true =>
              have hv : bits .and .i64 (x / 2 ^ k) 1 = 1 := of_decide_eq_true (by rw [← hbk, hb])
              rw [hb] at hof
              have HOF := Lib.hid hof; have HV := Lib.hid hv
              clear hbk hb hof hv
              have e : k = 0 ∨ k = 1 ∨ k = 2 ∨ k = 3 := by omega
              rcases e with rfl | rfl | rfl | rfl
              · have q1 : wr.cell? ⟨ab, 0, none⟩ = some (.string ⟨#[117]⟩) := q0
                have hv := HV.out
                have hv2 := hv
                simp only [Int.pow_zero, Int.ediv_one] at hv2
                clear q0
                go_wp2_with (go_at_call 31; refine (run_of H1.out [117] (by decide) (by decide)).mono ?_; rw [show ofM (stC b false) [117] = true from HOF.out.trans (by decide)]; rintro E w4 ⟨rfl, hx⟩; have H2 := Lib.hid (H1.out.ext hx); have HK2 := Lib.hid (HK.out.trans (KeepM.of_ext hx)); have HA2 := Lib.hid (hx.heap HALL.out); clear hx H1 HK HALL)
                go_roundw
                case rel => exact ⟨0 + 1, by go_num, by omega, H2, HK2, HA2⟩
                case measure => simp [intOf]
              · have q1 : wr.cell? ⟨ab, 1, none⟩ = some (.string ⟨#[118]⟩) := q0
                have hv := HV.out
                clear q0
                go_wp2_with (go_at_call 31; refine (run_of H1.out [118] (by decide) (by decide)).mono ?_; rw [show ofM (stC b false) [118] = false from HOF.out.trans (by decide)]; rintro E w4 ⟨rfl, hx⟩; have H2 := Lib.hid (H1.out.ext hx); have HK2 := Lib.hid (HK.out.trans (KeepM.of_ext hx)); have HA2 := Lib.hid (hx.heap HALL.out); clear hx H1 HK HALL)
                go_roundw
                case rel => exact ⟨1 + 1, by go_num, by omega, H2, HK2, HA2⟩
                case measure => simp [intOf]
              · have q1 : wr.cell? ⟨ab, 2, none⟩ = some (.string ⟨#[119]⟩) := q0
                have hv := HV.out
                have hv2 := hv
                rw [show (2 : Int) ^ 2 = 4 by decide] at hv2
                clear q0
                go_wp2_with (go_at_call 31; refine (run_of H1.out [119] (by decide) (by decide)).mono ?_; rw [show ofM (stC b false) [119] = true from HOF.out.trans (by decide)]; rintro E w4 ⟨rfl, hx⟩; have H2 := Lib.hid (H1.out.ext hx); have HK2 := Lib.hid (HK.out.trans (KeepM.of_ext hx)); have HA2 := Lib.hid (hx.heap HALL.out); clear hx H1 HK HALL)
                go_roundw
                case rel => exact ⟨2 + 1, by go_num, by omega, H2, HK2, HA2⟩
                case measure => simp [intOf]
              · have q1 : wr.cell? ⟨ab, 3, none⟩ = some (.string ⟨#[120]⟩) := q0
                have hv := HV.out
                clear q0
                go_wp2_with (go_at_call 31; refine (run_of H1.out [120] (by decide) (by decide)).mono ?_; rw [show ofM (stC b false) [120] = false from HOF.out.trans (by decide)]; rintro E w4 ⟨rfl, hx⟩; have H2 := Lib.hid (H1.out.ext hx); have HK2 := Lib.hid (HK.out.trans (KeepM.of_ext hx)); have HA2 := Lib.hid (hx.heap HALL.out); clear hx H1 HK HALL)
                go_roundw
                case rel => exact ⟨3 + 1, by go_num, by omega, H2, HK2, HA2⟩
                case measure => simp [intOf]
            | false =>
              have hv : bits .and .i64 (x / 2 ^ k) 1 = 0 := (and_1 _).resolve_right (of_decide_eq_false (by rw [← hbk, hb]))
              rw [hb] at hof
              have HOF := Lib.hid hof; have HV := Lib.hid hv
              clear hbk hb hof hv
              have e : k = 0 ∨ k = 1 ∨ k = 2 ∨ k = 3 := by omega
              rcases e with rfl | rfl | rfl | rfl
              · have q1 : wr.cell? ⟨ab, 0, none⟩ = some (.string ⟨#[117]⟩) := q0
                have hv := HV.out
                have hv2 := hv
                simp only [Int.pow_zero, Int.ediv_one] at hv2
                clear q0
                go_wp2_with (go_at_call 31; refine (run_of H1.out [117] (by decide) (by decide)).mono ?_; rw [show ofM (stC b false) [117] = false from HOF.out.trans (by decide)]; rintro E w4 ⟨rfl, hx⟩; have H2 := Lib.hid (H1.out.ext hx); have HK2 := Lib.hid (HK.out.trans (KeepM.of_ext hx)); have HA2 := Lib.hid (hx.heap HALL.out); clear hx H1 HK HALL)
                go_roundw
                case rel => exact ⟨0 + 1, by go_num, by omega, H2, HK2, HA2⟩
                case measure => simp [intOf]
              · have q1 : wr.cell? ⟨ab, 1, none⟩ = some (.string ⟨#[118]⟩) := q0
                have hv := HV.out
                clear q0
                go_wp2_with (go_at_call 31; refine (run_of H1.out [118] (by decide) (by decide)).mono ?_; rw [show ofM (stC b false) [118] = false from HOF.out.trans (by decide)]; rintro E w4 ⟨rfl, hx⟩; have H2 := Lib.hid (H1.out.ext hx); have HK2 := Lib.hid (HK.out.trans (KeepM.of_ext hx)); have HA2 := Lib.hid (hx.heap HALL.out); clear hx H1 HK HALL)
                go_roundw
                case rel => exact ⟨1 + 1, by go_num, by omega, H2, HK2, HA2⟩
                case measure => simp [intOf]
              · have q1 : wr.cell? ⟨ab, 2, none⟩ = some (.string ⟨#[119]⟩) := q0
                have hv := HV.out
                have hv2 := hv
                rw [show (2 : Int) ^ 2 = 4 by decide] at hv2
                clear q0
                go_wp2_with (go_at_call 31; refine (run_of H1.out [119] (by decide) (by decide)).mono ?_; rw [show ofM (stC b false) [119] = false from HOF.out.trans (by decide)]; rintro E w4 ⟨rfl, hx⟩; have H2 := Lib.hid (H1.out.ext hx); have HK2 := Lib.hid (HK.out.trans (KeepM.of_ext hx)); have HA2 := Lib.hid (hx.heap HALL.out); clear hx H1 HK HALL)
                go_roundw
                case rel => exact ⟨2 + 1, by go_num, by omega, H2, HK2, HA2⟩
                case measure => simp [intOf]
              · have q1 : wr.cell? ⟨ab, 3, none⟩ = some (.string ⟨#[120]⟩) := q0
                have hv := HV.out
                clear q0
                go_wp2_with (go_at_call 31; refine (run_of H1.out [120] (by decide) (by decide)).mono ?_; rw [show ofM (stC b false) [120] = false from HOF.out.trans (by decide)]; rintro E w4 ⟨rfl, hx⟩; have H2 := Lib.hid (H1.out.ext hx); have HK2 := Lib.hid (HK.out.trans (KeepM.of_ext hx)); have HA2 := Lib.hid (hx.heap HALL.out); clear hx H1 HK HALL)
                go_roundw
                case rel => exact ⟨3 + 1, by go_num, by omega, H2, HK2, HA2⟩
                case measure => simp [intOf]
          · have hkk : k = 4 := by omega
            subst hkk
            go_wp2_with fail
            exact HFIN.out _ HK.out
end
omit [Low] in
theorem need_none (x : Int) (back : Bool) (w : World) (hE : Env w) :
 Calls Tryz.prog 4 #[.int .i64 x, .bool back] w fun e w' => e = .returned (.bool true) ∧ Ext w w' :=
 @need_noneW ⟨w.heap.size⟩ x back w rfl (@EnvL.mk ⟨w.heap.size⟩ w hE (by obtain ⟨m, cs, hh, _⟩ := hE.word; exact (Array.getElem?_eq_some_iff.1 hh).1))
end Go.Proofs.YtefpllpichhojaaGreatDoor
