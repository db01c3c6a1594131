/- tree.sound: a root is there, and what directories have. -/
import Derived.Test.YtlpjmkkinlcbnaaGreatDoorTreeLoadL
import Derived.Test.YtlpjmkkinlcbnaaGreatDoorM5
namespace Go.Proofs.YtlpjmkkinlcbnaaGreatDoor
open Go.RowKit
section
variable {base tb mb N : Nat} {T : TreeD} {A : Int → NodeA}
theorem TreeM.look_not {w : World} (h : TreeM w base tb mb N T A) {i : Int} (hi : i ∉ T.ids) (h1 : -9223372036854775808 ≤ i) (h2 : i ≤ 9223372036854775807) :
    (Instr.lookup 70 (.map (some mb)) (.int .i64 i) false).run Tryz.prog w = .ok (.pointer none) w := by
  rw [h.map.lookup int_keyedA Tryz.underlying70 (Tryz.zeroValue73 w) (key_int h1 h2)]
  unfold nodeF
  rw [if_neg hi]
  rfl
theorem kidsF_some {k : By → Option Int} {x : By} {v : Value} (h : kidsF k x = some v) : ∃ i, k x = some i ∧ v = .int .i64 i := by
  unfold kidsF at h
  cases hk : k x with
  | none => rw [hk] at h; cases h
  | some i => rw [hk] at h; exact ⟨i, rfl, (Option.some.inj h).symm⟩
open Classical in
set_option maxRecDepth 100000 in
set_option maxHeartbeats 6400000 in
theorem tree_sound (w : World) (hT : TreeM w base tb mb N T A) (hs : SmallT T) :
    Calls Tryz.prog 47 #[.pointer (some ⟨tb, 0, none⟩)] w fun e w' => e = .returned (.bool (decide (SoundT T))) ∧ Ext w w' := by
  obtain ⟨Q, hQ⟩ : ∃ Q : Ending → World → Prop, Q = fun e w' => e = .returned (.bool (decide (SoundT T))) ∧ Ext w w' := ⟨_, rfl⟩
  rw [← hQ]
  have HQ := Lib.hid hQ; clear hQ
  have HNO : Hid (¬ SoundT T → ∀ w', Ext w w' → Q (.returned (.bool false)) w') := Lib.hid fun h w' hx => by rw [HQ.out]; exact ⟨by rw [decide_eq_false h], hx⟩
  have c1 := blk_cell hT.top 0 (Value.map (some mb)) rfl
  by_cases h1 : (1 : Int) ∈ T.ids
  rotate_left
  · have l1 := hT.look_not h1 (by omega) (by omega)
    have hno := HNO.out (fun h => h1 h.1.1)
    have HN := Lib.hid hno; clear hno HNO HQ hT hs h1
    go_enter Tryz.func47, Tryz.ntmps47
    go_wp2_with fail
    exact HN.out _ (Ext.refl _)
  have l1 := hT.look h1 (by omega) (by omega)
  have c2 := blk_cell (hT.node 1 h1).1 0 (Value.bool (T.node 1).dir) rfl
  cases hd : (T.node 1).dir with
  | false =>
    rw [hd] at c2
    have hno := HNO.out (fun h => by have e := h.1.2; rw [hd] at e; cases e)
    have HN := Lib.hid hno; clear hno HNO HQ hT hs h1 hd
    go_enter Tryz.func47, Tryz.ntmps47
    go_wp2_with fail
    exact HN.out _ (Ext.refl _)
  | true =>
  rw [hd] at c2
  have HROOT := Lib.hid (And.intro h1 hd); clear h1 hd
  have HT := Lib.hid hT; clear hT
  have HS := Lib.hid hs; clear hs
  go_enter Tryz.func47, Tryz.ntmps47
  go_wp2_with (first
    | (at_range; refine wpList_range_F rfl _ 70 rfl 73 int_keyedA Tryz.underlying70 mb N (nodeF T A) rfl HT.out.map ?_; intro w0 c0 hg0 hx0 hs0)
    | go_in)
  go_frame
  obtain ⟨r, hr⟩ : ∃ r, r = w.heap.size := ⟨_, rfl⟩
  rw [← hr] at hg0 ⊢
  have HRW : Hid (w.heap.size ≤ r) := Lib.hid (by rw [hr]; exact Nat.le_refl _)
  have HX0 := Lib.hid hx0
  have HG0 := Lib.hid hg0
  clear hr hx0 hg0 hs0 c1 c2 l1
  go_loopw [] (fun wr => ∃ (left : Int → Bool) (cnt : Nat), Hid (MapG keyI wr 3 mb r N (nodeF T A) left cnt) ∧ Hid (∀ i ∈ T.ids, left i = false → OkN T i) ∧ Hid (Ext w wr)) (fun wr => wr.rangeLeft mb r)
  case atStart =>
    refine ⟨_, c0, HG0, Lib.hid fun i hi h => ?_, HX0⟩
    rw [(nodeF_ids T A i).1 hi] at h; cases h
  case round =>
    clear HG0 HX0
    obtain ⟨left, cnt, hg, hok, hX⟩ := hrel
    have HGC := Lib.hid hg.out.count
    go_wp2_with (first
      | (at_next; refine wpList_next_F rfl _ rfl int_keyedA (fun x => .int .i64 x) keyI_inj inv_int mb r N (nodeF T A) left cnt rfl hg.out ?_ ?_)
      | go_in)
    rotate_left
    · intro x v w1' cnt1 hkey hlp hfp hg1 hlt1 hk1 hs1 hen
      obtain ⟨hxm, rfl⟩ := nodeF_some hfp
      have hx1' : Ext w w1' := ((Keep.of_ext (S := fun j => j < w.heap.size) hX.out).andThen hk1 (fun j hj _ => by have := HRW.out; show j ≠ r; omega)).ext_lt
      have hT1 := HT.out.ext hx1'
      have c2 := blk_cell (hT1.node x hxm).1 3 (Value.map (A x).kb) rfl
      have c3 := blk_cell hT1.top 1 (Value.int .i64 T.next) rfl
      have c4 := blk_cell hT1.top 0 (Value.map (some mb)) rfl
      have hkm := (hT1.node x hxm).2.2.2
      have HKS := Lib.hid (HS.out.kids x hxm)
      have HXM := Lib.hid hxm
      have HG1 := Lib.hid hg1
      have HX1' := Lib.hid hx1'
      have HLT1 := Lib.hid hlt1
      have HC3 := Lib.hid c3
      clear hg1 hx1' hk1 hs1 hkey hlp hfp hlt1 hT1 hxm c3
      have HEND : Hid ((∀ y k, (T.node x).kids y = some k → k ∈ T.ids ∧ k ≠ 1) → x < T.next → ∀ i ∈ T.ids, (left i && !decide (i = x)) = false → OkN T i) := Lib.hid fun hk hn i hi hl => by
        by_cases e : i = x
        · rw [e]; exact ⟨hn, hk⟩
        · refine hok.out i hi ?_
          rw [decide_eq_false e] at hl
          simpa using hl
      clear hok
      obtain ⟨kb, hkb⟩ : ∃ kb, kb = (A x).kb := ⟨_, rfl⟩
      rw [← hkb] at hkm c2
      rcases hkm with ⟨rfl, hno⟩ | ⟨M, rfl, hm⟩
      · have HNK := Lib.hid hno; clear hno hkb
        have hrg := run_range_nilMap (P := Tryz.prog) w1' 74 _ _ Tryz.underlying74
        have hnx := fun ty => run_next_nilMap (P := Tryz.prog) w1' ty 0 0 #[]
        have hX2 := Lib.hid (HX1'.out.trans (Ext.alloc w1' (.mapIter none 0 #[] 0)))
        have hG2 := Lib.hid (HG1.out.ext (Ext.alloc w1' (.mapIter none 0 #[] 0)))
        have c5 := (Ext.alloc w1' (.mapIter none 0 #[] 0)).cell HC3.out
        go_wp2_with fail
        clear hrg hen c2 c4
        generalize w1'.alloc (.mapIter none 0 #[] 0) = w2 at hnx hX2 hG2 c5 ⊢
        go_loopw [] (fun wr => wr = w2) (fun _ => 0)
        case atStart => rfl
        case round =>
          subst hrel
          by_cases hlt : x < T.next
          · have HE := Lib.hid (HEND.out (fun y k h => by rw [HNK.out] at h; cases h) hlt)
            have hge : decide (T.next ≤ x) = false := by rw [decide_eq_false_iff_not]; omega
            clear hlt
            go_wp2_with fail
            go_roundw
            case rel => exact ⟨_, cnt1, hG2, HE, hX2⟩
            case measure =>
              rw [hG2.out.count, HGC.out]
              exact HLT1.out
          · have hn := HNO.out (fun h => hlt (h.2 x HXM.out).1) _ hX2.out
            have HN := Lib.hid hn; clear hn
            have hge : decide (T.next ≤ x) = true := by rw [decide_eq_true_iff]; omega
            go_wp2_with fail
            exact HN.out
      · have HM := Lib.hid hm; clear hm hkb
        go_wp2_with (first
          | (at_range; refine wpList_range_F rfl _ 74 rfl 3 str_keyed Tryz.underlying74 M N (kidsF (T.node x).kids) rfl HM.out ?_; intro w2 c2' hg2 hx2 hs2)
          | go_in)
        go_frame
        obtain ⟨r2, hr2⟩ : ∃ r2, r2 = w1'.heap.size := ⟨_, rfl⟩
        rw [← hr2] at hg2 ⊢
        have HRL : Hid (w.heap.size ≤ r2 ∧ mb < r2 ∧ r < r2) := Lib.hid (by have := HX1'.out.size; have h5 := HG1.out.lt; have h6 := HG1.out.map.lt; omega)
        have hX2 := Lib.hid (HX1'.out.trans hx2)
        have hG2 := Lib.hid (HG1.out.ext hx2)
        have hI2 := Lib.hid hg2
        have hD2 : Hid (∀ y k, (T.node x).kids y = some k → (kidsF (T.node x).kids y).isSome = false → k ∈ T.ids ∧ k ≠ 1) := Lib.hid fun y k h e => by unfold kidsF at e; rw [h] at e; cases e
        clear hr2 hg2 hx2 hs2 hen c2 c4
        go_loopw [] (fun wr => ∃ (left2 : By → Bool) (cnt2 : Nat), Hid (MapG keyS wr 9 M r2 N (kidsF (T.node x).kids) left2 cnt2) ∧ Hid (∀ y k, (T.node x).kids y = some k → left2 y = false → k ∈ T.ids ∧ k ≠ 1) ∧ Hid (MapG keyI wr 3 mb r N (nodeF T A) (fun z => left z && !decide (z = x)) cnt1) ∧ Hid (Ext w wr)) (fun wr => wr.rangeLeft M r2)
        case atStart => exact ⟨_, c2', hI2, hD2, hG2, hX2⟩
        case round =>
          clear hI2 hD2 hG2 hX2
          obtain ⟨left2, cnt2, hI2, hD2, hG2, hX2⟩ := hrel
          have HGC2 := Lib.hid hI2.out.count
          have c5 := (HT.out.ext hX2.out)
          have c3 := blk_cell c5.top 1 (Value.int .i64 T.next) rfl
          have HC5 := Lib.hid c5; clear c5
          go_wp2_with (first
            | (at_next; refine wpList_next_F rfl _ rfl str_keyed (fun y => .string (bs y)) keyS_inj inv_str M r2 N (kidsF (T.node x).kids) left2 cnt2 rfl hI2.out ?_ ?_)
            | go_in)
          rotate_left
          · intro y v w3 cnt3 hkey3 hlp3 hfp3 hg3 hlt3 hk3 hs3 hen
            obtain ⟨k, hky, rfl⟩ := kidsF_some hfp3
            have hx3 : Ext w w3 := ((Keep.of_ext (S := fun j => j < w.heap.size) hX2.out).andThen hk3 (fun j hj _ => by have := HRL.out; show j ≠ r2; omega)).ext_lt
            have hG3 := hG2.out.keep hk3 (by have := HRL.out; show mb ≠ r2; omega) (by have := HRL.out; show r ≠ r2; omega)
            have hT3 := HT.out.ext hx3
            have c4 := blk_cell hT3.top 0 (Value.map (some mb)) rfl
            have hkr := (HKS.out y k hky).2
            have HG3 := Lib.hid hG3
            have HI3 := Lib.hid hg3
            have HX3 := Lib.hid hx3
            have HLT3 := Lib.hid hlt3
            have HKY := Lib.hid hky
            have HD3 : Hid (k ∈ T.ids ∧ k ≠ 1 → ∀ z j, (T.node x).kids z = some j → (left2 z && !decide (z = y)) = false → j ∈ T.ids ∧ j ≠ 1) := Lib.hid fun h z j hj hl => by
              by_cases e : z = y
              · rw [e, hky] at hj
                cases hj
                exact h
              · refine hD2.out z j hj ?_
                rw [decide_eq_false e] at hl
                simpa using hl
            have HBAD : Hid (¬ (k ∈ T.ids ∧ k ≠ 1) → Q (.returned (.bool false)) w3) := Lib.hid fun h => HNO.out (fun hs => h ((hs.2 x HXM.out).2 y k hky)) _ hx3
            clear hG3 hg3 hx3 hlt3 hky hk3 hs3 hkey3 hlp3 hfp3 c3
            by_cases hki : k ∈ T.ids
            · have l2 := hT3.look hki (by omega) (by omega)
              by_cases hk1 : k = 1
              · have HB := Lib.hid (HBAD.out (fun h => h.2 hk1)); clear HBAD
                subst hk1
                clear hT3
                go_wp2_with fail
                exact HB.out
              · have HD4 := Lib.hid (HD3.out ⟨hki, hk1⟩); clear HD3
                have hk1' : ((k : Int) == 1) = false := by rw [beq_eq_false_iff_ne]; exact hk1
                have hk1'' : decide (k = 1) = false := by rw [decide_eq_false_iff_not]; exact hk1
                clear hT3 hki
                go_wp2_with fail
                go_roundw
                case rel => exact ⟨_, cnt3, HI3, HD4, HG3, HX3⟩
                case measure =>
                  rw [HI3.out.count, HGC2.out]
                  exact HLT3.out
            · have l2 := hT3.look_not hki (by omega) (by omega)
              have HB := Lib.hid (HBAD.out (fun h => hki h.1)); clear HBAD
              clear hT3
              go_wp2_with fail
              exact HB.out
          · intro hall2
            have HNK := Lib.hid (fun y k h => hD2.out y k h (hall2 y)); clear hall2
            by_cases hlt : x < T.next
            · have HE := Lib.hid (HEND.out (HNK.out) hlt)
              have hge : decide (T.next ≤ x) = false := by rw [decide_eq_false_iff_not]; omega
              clear hlt
              go_wp2_with fail
              go_roundw
              case rel => exact ⟨_, cnt1, hG2, HE, hX2⟩
              case measure =>
                rw [hG2.out.count, HGC.out]
                exact HLT1.out
            · have hn := HNO.out (fun h => hlt (h.2 x HXM.out).1) _ hX2.out
              have HN := Lib.hid hn; clear hn
              have hge : decide (T.next ≤ x) = true := by rw [decide_eq_true_iff]; omega
              go_wp2_with fail
              exact HN.out
    · intro hall
      have hst : SoundT T := ⟨HROOT.out, fun i hi => hok.out i hi (hall i)⟩
      have HST := Lib.hid hst; clear hst hall
      go_wp2_with fail
      rw [HQ.out]
      exact ⟨by rw [decide_eq_true HST.out]; rfl, hX.out⟩
end
end Go.Proofs.YtlpjmkkinlcbnaaGreatDoor
