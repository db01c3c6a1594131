/- The walk of farrierlaw06.TreeBad. -/
import Derived.Test.YtldgpcmnmegioaaGreatDoorAlive06
import Derived.Test.YtldgpcmnmegioaaGreatDoorTreePack
import Derived.Test.YtldgpcmnmegioaaGreatDoorM1
import Derived.Test.YtldgpcmnmegioaaGreatDoorM2
namespace Go.Proofs.YtldgpcmnmegioaaGreatDoor
open Go.RowKit
set_option maxRecDepth 100000 in
set_option maxHeartbeats 12800000 in
theorem tree_bad (ab : Option Addr) (cb : Nat) (lb : By) (ar : Option Addr) (cr : Nat) (rows : List By) (p : By) (w : World) (hE : Env w) (hB : Bytes w ab lb) (hP : Parts w ar rows) :
    Calls Tryz.prog 4 #[.slice ab lb.length cb, .slice ar rows.length cr, .string (bs p)] w fun e w' => e = .returned (.bool true) ∧ Ext w w' := by
  obtain ⟨R, hR⟩ : ∃ R : Ending → World → Prop, R = fun e w' => e = .returned (.bool true) ∧ Ext w w' := ⟨_, rfl⟩
  rw [← hR]
  have HR := Lib.hid hR; clear hR
  have HAL := Lib.hid (alive06 w hE)
  have HE := Lib.hid hE; clear hE
  have HB := Lib.hid hB; clear hB
  have HP := Lib.hid hP; clear hP
  go_enter Tryz.func4, Tryz.ntmps4
  go_upto_region 3 with (go_at_call 5; refine HAL.out.mono ?_; rintro E w0 ⟨rfl, hx⟩; have HX0 := Lib.hid hx; clear hx)
  have hps : (bs p).size = p.length := bs_size p
  by_cases h1 : 300 < lb.length
  · have hd1 : decide ((300 : Int) < (lb.length : Int)) = true := decide_eq_true (by omega)
    go_wp2_with fail
    all_goals (rw [HR.out]; exact ⟨rfl, HX0.out⟩)
  have hd1 : decide ((300 : Int) < (lb.length : Int)) = false := decide_eq_false (by omega)
  by_cases h2 : 20 < rows.length
  · have hd2 : decide ((20 : Int) < (rows.length : Int)) = true := decide_eq_true (by omega)
    go_wp2_with fail
    all_goals (rw [HR.out]; exact ⟨rfl, HX0.out⟩)
  have hd2 : decide ((20 : Int) < (rows.length : Int)) = false := decide_eq_false (by omega)
  by_cases h3 : 60 < p.length
  · have hd3 : decide ((60 : Int) < (p.length : Int)) = true := decide_eq_true (by omega)
    have hd3' : decide ((60 : Int) < ((bs p).size : Int)) = true := decide_eq_true (by omega)
    go_wp2_with fail
    all_goals (rw [HR.out]; exact ⟨rfl, HX0.out⟩)
  have hd3 : decide ((60 : Int) < (p.length : Int)) = false := decide_eq_false (by omega)
  have hd3' : decide ((60 : Int) < ((bs p).size : Int)) = false := decide_eq_false (by omega)
  obtain ⟨n, hn⟩ : ∃ n, n = rows.length := ⟨_, rfl⟩
  rw [← hn] at hd2 h2 ⊢
  have HN := Lib.hid hn; clear hn hps
  go_wp2_with fail
  all_goals (first | (exfalso; omega) | skip)
  go_loopw [32] (fun i wr => ∃ k : Nat, i = .int .i64 k ∧ k ≤ n ∧ Hid (∀ j, j < k → (rows.getD j []).length ≤ 200) ∧ Hid (wr = w0)) (fun i _ => n - (intOf i).toNat)
  case atStart => exact ⟨0, rfl, Nat.zero_le _, Lib.hid (fun j hj => by omega), Lib.hid rfl⟩
  case round =>
    obtain ⟨k, rfl, hk, HK, hw⟩ := hrel
    obtain rfl := hw.out
    clear hw
    obtain ⟨w0, rfl⟩ : ∃ w0 : World, w0 = wr := ⟨_, rfl⟩
    by_cases hlt : k < n
    · obtain ⟨g, off, pa, pc, rfl, c0, _⟩ := (HP.out.ext HX0.out).at (i := k) (by have := HN.out; omega)
      by_cases h200 : 200 < (rows.getD k []).length
      · have hd4 : decide ((200 : Int) < ((rows.getD k []).length : Int)) = true := decide_eq_true (by omega)
        generalize (rows.getD k []).length = m at c0 hd4
        go_wp2_with fail
        rw [HR.out]
        exact ⟨rfl, HX0.out⟩
      · have hd4 : decide ((200 : Int) < ((rows.getD k []).length : Int)) = false := decide_eq_false (by omega)
        have HK2 : Hid (∀ j, j < k + 1 → (rows.getD j []).length ≤ 200) := Lib.hid fun j hj => by
          by_cases e : j = k
          · rw [e]; omega
          · exact HK.out j (by omega)
        generalize (rows.getD k []).length = m at c0 hd4
        go_wp2_with fail
        go_roundw
        case rel => exact ⟨k + 1, by go_num, by omega, HK2, Lib.hid (by trivial)⟩
        case measure => simp [intOf]; omega
    · have hall : ∀ l ∈ rows, l.length ≤ 100000 := by
        intro l hl
        obtain ⟨i, hi, rfl⟩ := List.getElem_of_mem hl
        have h := HK.out i (by have := HN.out; omega)
        rw [List.getD_eq_getElem?_getD, List.getElem?_eq_getElem hi] at h
        have h : rows[i].length ≤ 200 := h
        omega
      have hld := fun W hx => tree_Load 100 ar cr rows W (HP.out.ext hx) hall (by have := HN.out; omega)
      have HLD := Lib.hid hld; clear hld hall
      have hun := tree_Unpack ab cb lb w0 (HB.out.ext HX0.out) (by omega)
      have HUN := Lib.hid hun; clear hun
      by_cases hdo : rDone (unpackL lb).2 = true
      · have HUN2 : Hid (Calls Tryz.prog 18 #[.slice ab lb.length cb] w0 fun e w' => ∃ a c X, e = .returned (.tuple #[.slice a X.length c, .int .i64 0]) ∧ X.map Prod.fst = (unpackL lb).1 ∧ OpsL w' a X ∧ Ext w0 w') := Lib.hid (HUN.out.mono fun e w' h => by
          obtain ⟨h1, h2⟩ := h
          rw [if_pos hdo] at h1
          obtain ⟨a, c, X, e1, e2, e3⟩ := h1
          exact ⟨a, c, X, e1, e2, e3, h2⟩)
        have hgood : packOps (unpackL lb).1 = lb := by
          have h := rDone_of hdo
          exact unpack_good (L := (unpackL lb).1) (by rw [← h])
        have HG := Lib.hid hgood; clear hgood hdo HUN
        go_upto_region 12 with (go_at_call 18; refine HUN2.out.mono ?_; rintro E w2 ⟨a2, c2, X, rfl, hX, hO, hx2⟩; have HXX := Lib.hid hX; have HO := Lib.hid hO; have HX2 := Lib.hid hx2; clear hX hO hx2)
        have hpk := fun W (k : Ext w2 W) => tree_Pack a2 c2 X W (HO.out.ext k) (by rw [HXX.out, HG.out]; omega)
        rw [HXX.out, HG.out] at hpk
        have hcv := fun W (k : Ext w2 W) => conv_text (c := cb) ((HB.out.ext (HX0.out.trans HX2.out)).ext k)
        have HPK := Lib.hid hpk; clear hpk
        have HCV := Lib.hid hcv; clear hcv
        have HK := Lib.hid ((Ext.refl w2).drew)
        refine wp_region_noPanic ?_
        refine wp_region_held_drew (S := (fun W => Ext w2 W)) (by kernel_rfl) HK.out (fun hHeld => ?_)
        clear hHeld
        generalize w2.drew = wc at HK ⊢
        refine wpAnyH_take (i := 0) (v := ?_) rfl (by kernel_rfl) (by kernel_rfl) (by kernel_rfl) (fun _ _ _ h => h) (Or.inl ⟨by kernel_rfl, ?_⟩) HK.out ?_
        rotate_left
        · (intro wq _; first | (go_simp; done) | (go_simp; with_reducible rfl))
        try simp only [List.getElem_toArray, List.getElem_cons_zero, Act.put, List.setIfInBounds_toArray, List.set_cons_zero, List.set_cons_succ]
        refine wpAnyH_take (i := 1) (v := ?_) rfl (by kernel_rfl) (by kernel_rfl) (by kernel_rfl) (fun _ _ _ h => h) (Or.inl ⟨by kernel_rfl, ?_⟩) HK.out ?_
        rotate_left
        · (intro wq _; first | (go_simp; done) | (go_simp; with_reducible rfl))
        try simp only [List.getElem_toArray, List.getElem_cons_zero, List.getElem_cons_succ, Act.put, List.setIfInBounds_toArray, List.set_cons_zero, List.set_cons_succ]
        refine wpAnyH_take (i := 2) (v := ?_) rfl (by kernel_rfl) (by kernel_rfl) (by kernel_rfl) (fun _ _ _ h => h) (Or.inl ⟨by kernel_rfl, ?_⟩) HK.out ?_
        rotate_left
        · (intro wq _; first | (go_simp; done) | (go_simp; with_reducible rfl))
        try simp only [List.getElem_toArray, List.getElem_cons_zero, List.getElem_cons_succ, Act.put, List.setIfInBounds_toArray, List.set_cons_zero, List.set_cons_succ]
        refine wpAnyH_take (i := 3) (v := ?_) rfl (by kernel_rfl) (by kernel_rfl) (by kernel_rfl) (fun _ _ _ h => h) (Or.inl ⟨by kernel_rfl, ?_⟩) HK.out ?_
        rotate_left
        · (intro wq _; first | (go_simp; done) | (go_simp; with_reducible rfl))
        try simp only [List.getElem_toArray, List.getElem_cons_zero, List.getElem_cons_succ, Act.put, List.setIfInBounds_toArray, List.set_cons_zero, List.set_cons_succ]
        refine wpAnyH_take (i := 6) (v := ?_) rfl (by kernel_rfl) (by kernel_rfl) (by kernel_rfl) (fun _ _ _ h => h) (Or.inl ⟨by kernel_rfl, ?_⟩) HK.out ?_
        rotate_left
        · (intro wq _; first | (go_simp; done) | (go_simp; with_reducible rfl))
        try simp only [List.getElem_toArray, List.getElem_cons_zero, List.getElem_cons_succ, Act.put, List.setIfInBounds_toArray, List.set_cons_zero, List.set_cons_succ]
        all_goals (
          first
            | refine wpAnyH_ready (rs := [4, 7]) (by decide +kernel) (by simp) ?_
          repeat' (first | exact AllReadyH.nil | (refine AllReadyH.cons rfl (fun K hK => ?_) ?_)))
        all_goals (
          first
            | (have v := HCV.out wc HK.out
               go_simp
               refine hK.out _ _ HK.out (fun _ => ?_)
               clear hK K v
               try simp only [List.getElem_toArray, List.getElem_cons_zero, List.getElem_cons_succ, Act.put, List.setIfInBounds_toArray, List.set_cons_zero, List.set_cons_succ])
            | (go_simp
               first
                 | (go_at_call 19
                    refine (HPK.out wc HK.out).mono ?_
                    rintro E2 wn ⟨a3, c3, rfl, hown, hx⟩
                    replace HK := Lib.hid (HK.out.trans hx)
                    have HPB := Lib.hid hown.bytes.1
                    clear hx hown
                    go_wp2_with fail
                    refine hK.out _ _ HK.out (fun _ => ?_)
                    clear hK K
                    obtain ⟨wc, rfl⟩ : ∃ x : World, x = wn := ⟨_, rfl⟩
                    try simp only [List.getElem_toArray, List.getElem_cons_zero, List.getElem_cons_succ, Act.put, List.setIfInBounds_toArray, List.set_cons_zero, List.set_cons_succ])))
        all_goals (
          first
            | refine wpAnyH_ready (rs := [5, 7]) (by decide +kernel) (by simp) ?_
            | refine wpAnyH_ready (rs := [4]) (by decide +kernel) (by simp) ?_
          repeat' (first | exact AllReadyH.nil | (refine AllReadyH.cons rfl (fun K hK => ?_) ?_)))
        all_goals (
          first
            | (have v := conv_text (w := wc) (c := c3) HPB.out
               go_simp
               refine hK.out _ _ HK.out (fun _ => ?_)
               clear hK K v
               try simp only [List.getElem_toArray, List.getElem_cons_zero, List.getElem_cons_succ, Act.put, List.setIfInBounds_toArray, List.set_cons_zero, List.set_cons_succ])
            | (have v := HCV.out wc HK.out
               go_simp
               refine hK.out _ _ HK.out (fun _ => ?_)
               clear hK K v
               try simp only [List.getElem_toArray, List.getElem_cons_zero, List.getElem_cons_succ, Act.put, List.setIfInBounds_toArray, List.set_cons_zero, List.set_cons_succ])
            | (go_simp
               first
                 | (go_at_call 19
                    refine (HPK.out wc HK.out).mono ?_
                    rintro E2 wn ⟨a3, c3, rfl, hown, hx⟩
                    replace HK := Lib.hid (HK.out.trans hx)
                    have HPB := Lib.hid hown.bytes.1
                    clear hx hown
                    go_wp2_with fail
                    refine hK.out _ _ HK.out (fun _ => ?_)
                    clear hK K
                    obtain ⟨wc, rfl⟩ : ∃ x : World, x = wn := ⟨_, rfl⟩
                    try simp only [List.getElem_toArray, List.getElem_cons_zero, List.getElem_cons_succ, Act.put, List.setIfInBounds_toArray, List.set_cons_zero, List.set_cons_succ])))
        all_goals (
          first
            | refine wpAnyH_ready (rs := [7]) (by decide +kernel) (by simp) ?_
            | refine wpAnyH_ready (rs := [5]) (by decide +kernel) (by simp) ?_
          repeat' (first | exact AllReadyH.nil | (refine AllReadyH.cons rfl (fun K hK => ?_) ?_)))
        all_goals (
          first
            | (have v := conv_text (w := wc) (c := c3) HPB.out
               go_simp
               refine hK.out _ _ HK.out (fun _ => ?_)
               clear hK K v
               try simp only [List.getElem_toArray, List.getElem_cons_zero, List.getElem_cons_succ, Act.put, List.setIfInBounds_toArray, List.set_cons_zero, List.set_cons_succ])
            | (have v := HCV.out wc HK.out
               go_simp
               refine hK.out _ _ HK.out (fun _ => ?_)
               clear hK K v
               try simp only [List.getElem_toArray, List.getElem_cons_zero, List.getElem_cons_succ, Act.put, List.setIfInBounds_toArray, List.set_cons_zero, List.set_cons_succ]))
        all_goals (
          refine wpAnyH_ready (rs := [8]) (by kernel_rfl) (by simp) ?_
          refine AllReadyH.cons rfl (fun K hK => ?_) AllReadyH.nil
          have hbn := bs_bne_eq (rfl : lb = lb)
          go_simp
          refine hK.out _ _ HK.out (fun _ => ?_)
          clear hK K hbn
          try simp only [List.getElem_toArray, List.getElem_cons_zero, List.getElem_cons_succ, Act.put, List.setIfInBounds_toArray, List.set_cons_zero, List.set_cons_succ]
          refine wpAnyH_take (i := 9) (v := ?_) rfl (by kernel_rfl) (by kernel_rfl) (by kernel_rfl) (fun _ _ _ h => h) (Or.inl ⟨by kernel_rfl, ?_⟩) HK.out ?_
          rotate_left
          · (intro wq _; first | (go_simp; done) | (go_simp; with_reducible rfl))
          try simp only [List.getElem_toArray, List.getElem_cons_zero, List.getElem_cons_succ, Act.put, List.setIfInBounds_toArray, List.set_cons_zero, List.set_cons_succ]
          refine wpAnyH_take (i := 10) (v := ?_) rfl (by kernel_rfl) (by kernel_rfl) (by kernel_rfl) (fun _ _ _ h => h) (Or.inl ⟨by kernel_rfl, ?_⟩) HK.out ?_
          rotate_left
          · (intro wq _; first | (go_simp; done) | (go_simp; with_reducible rfl))
          try simp only [List.getElem_toArray, List.getElem_cons_zero, List.getElem_cons_succ, Act.put, List.setIfInBounds_toArray, List.set_cons_zero, List.set_cons_succ]
          refine wpAnyH_take (i := 11) (v := ?_) rfl (by kernel_rfl) (by kernel_rfl) (by kernel_rfl) (fun _ _ _ h => h) (Or.inl ⟨by kernel_rfl, ?_⟩) HK.out ?_
          rotate_left
          · (intro wq _; first | (go_simp; done) | (go_simp; with_reducible rfl))
          try simp only [List.getElem_toArray, List.getElem_cons_zero, List.getElem_cons_succ, Act.put, List.setIfInBounds_toArray, List.set_cons_zero, List.set_cons_succ]
          refine wpAnyH_take (i := 12) (v := ?_) rfl (by kernel_rfl) (by kernel_rfl) (by kernel_rfl) (fun _ _ _ h => h) (Or.inl ⟨by kernel_rfl, ?_⟩) HK.out ?_
          rotate_left
          · (intro wq _; first | (go_simp; done) | (go_simp; with_reducible rfl))
          try simp only [List.getElem_toArray, List.getElem_cons_zero, List.getElem_cons_succ, Act.put, List.setIfInBounds_toArray, List.set_cons_zero, List.set_cons_succ]
          refine wpAnyH_take (i := 13) (v := ?_) rfl (by kernel_rfl) (by kernel_rfl) (by kernel_rfl) (fun _ _ _ h => h) (Or.inl ⟨by kernel_rfl, ?_⟩) HK.out ?_
          rotate_left
          · (intro wq _; first | (go_simp; done) | (go_simp; with_reducible rfl))
          try simp only [List.getElem_toArray, List.getElem_cons_zero, List.getElem_cons_succ, Act.put, List.setIfInBounds_toArray, List.set_cons_zero, List.set_cons_succ]
          refine wpAnyH_take (i := 14) (v := undef) rfl (by kernel_rfl) (by kernel_rfl) (by kernel_rfl) (fun _ _ _ h => h) (Or.inr ⟨by kernel_rfl, rfl⟩) HK.out ?_
          try simp only [List.getElem_toArray, List.getElem_cons_zero, List.getElem_cons_succ, Act.put, List.setIfInBounds_toArray, List.set_cons_zero, List.set_cons_succ]
          refine wpAnyH_take (i := 15) (v := undef) rfl (by kernel_rfl) (by kernel_rfl) (by kernel_rfl) (fun _ _ _ h => h) (Or.inr ⟨by kernel_rfl, rfl⟩) HK.out ?_
          try simp only [List.getElem_toArray, List.getElem_cons_zero, List.getElem_cons_succ, Act.put, List.setIfInBounds_toArray, List.set_cons_zero, List.set_cons_succ]
          refine wpAnyH_take (i := 16) (v := undef) rfl (by kernel_rfl) (by kernel_rfl) (by kernel_rfl) (fun _ _ _ h => h) (Or.inr ⟨by kernel_rfl, rfl⟩) HK.out ?_
          try simp only [List.getElem_toArray, List.getElem_cons_zero, List.getElem_cons_succ, Act.put, List.setIfInBounds_toArray, List.set_cons_zero, List.set_cons_succ]
          refine wpAnyH_take (i := 17) (v := ?_) rfl (by kernel_rfl) (by kernel_rfl) (by kernel_rfl) (fun _ _ _ h => h) (Or.inl ⟨by kernel_rfl, ?_⟩) HK.out ?_
          rotate_left
          · (intro wq _; first | (go_simp; done) | (go_simp; with_reducible rfl))
          try simp only [List.getElem_toArray, List.getElem_cons_zero, List.getElem_cons_succ, Act.put, List.setIfInBounds_toArray, List.set_cons_zero, List.set_cons_succ]
          refine wpAnyH_take (i := 18) (v := ?_) rfl (by kernel_rfl) (by kernel_rfl) (by kernel_rfl) (fun _ _ _ h => h) (Or.inl ⟨by kernel_rfl, ?_⟩) HK.out ?_
          rotate_left
          · (intro wq _; first | (go_simp; done) | (go_simp; with_reducible rfl))
          try simp only [List.getElem_toArray, List.getElem_cons_zero, List.getElem_cons_succ, Act.put, List.setIfInBounds_toArray, List.set_cons_zero, List.set_cons_succ])
        all_goals (
          refine wpAnyH_done (by kernel_rfl) ?_ _
          refine NoPanic.normal ?_
          have HXW := Lib.hid (HX0.out.trans (HX2.out.trans HK.out))
          have hlw := HLD.out wc HXW.out
          rw [← HN.out] at hlw
          have HLW := Lib.hid hlw
          clear hlw
          go_wp2_with (go_at_call 20; refine Hid.out ?_)
          refine Lib.hid ?_
          refine HLW.out.mono ?_
          rintro e w6 ⟨⟨_, rfl⟩ | ⟨T, tb, mb, A, _, hso, hsm, rfl, hT⟩, hx6⟩
          · have HX6 := Lib.hid (HXW.out.trans hx6)
            clear hx6
            go_wp2_with fail
            rw [HR.out]
            exact ⟨rfl, HX6.out⟩
          · have HX6 := Lib.hid (HXW.out.trans hx6)
            have hfn := tree_FindS p w6 (HE.out.ext HX6.out) hT hsm hso
            clear hx6 hT hsm hso
            generalize findT T p = i at hfn
            by_cases hi : i = 0
            · rw [decide_eq_false (fun h => h hi), hi] at hfn
              have HF := Lib.hid hfn
              clear hfn hi
              go_wp2_with (go_at_call 13; refine HF.out.mono ?_; rintro e w7 ⟨rfl, hx7⟩; have HX7 := Lib.hid (HX6.out.trans hx7); clear hx7)
              rw [HR.out]
              exact ⟨rfl, HX7.out⟩
            · rw [decide_eq_true hi] at hfn
              have hb1 : ((i : Int) != 0) = true := by rw [bne_iff_ne]; exact hi
              have hb2 : decide (i = 0) = false := decide_eq_false hi
              have HF := Lib.hid hfn
              clear hfn
              go_wp2_with (go_at_call 13; refine HF.out.mono ?_; rintro e w7 ⟨rfl, hx7⟩; have HX7 := Lib.hid (HX6.out.trans hx7); clear hx7)
              rw [HR.out]
              exact ⟨rfl, HX7.out⟩)
      · have HUN2 : Hid (Calls Tryz.prog 18 #[.slice ab lb.length cb] w0 fun e w' => e = .returned (.tuple #[.slice none 0 0, .int .i64 4]) ∧ Ext w0 w') := Lib.hid (HUN.out.mono fun e w' h => by
          obtain ⟨h1, h2⟩ := h
          rw [if_neg hdo] at h1
          exact ⟨h1, h2⟩)
        clear HUN hdo
        go_upto_region 12 with (go_at_call 18; refine HUN2.out.mono ?_; rintro E w2 ⟨rfl, hx2⟩; have HX2 := Lib.hid hx2; clear hx2)
        go_quiet (fail)
        have hxq : ∀ m, Ext w2 (w2.drewN m) := fun m => ((Keep.of_ext (S := fun _ => True) (Ext.refl w2)).drewN m).ext
        obtain ⟨wc, hwc⟩ : ∃ wc, wc = w2.drewN nq := ⟨_, rfl⟩
        have hxc : Ext w2 wc := by rw [hwc]; exact hxq nq
        rw [← hwc]
        have HXW := Lib.hid (HX0.out.trans (HX2.out.trans hxc))
        clear hxq hwc hxc
        have hlw := HLD.out wc HXW.out
        rw [← HN.out] at hlw
        have HLW := Lib.hid hlw
        clear hlw
        go_wp2_with (go_at_call 20; refine Hid.out ?_)
        refine Lib.hid ?_
        refine HLW.out.mono ?_
        rintro e w6 ⟨⟨_, rfl⟩ | ⟨T, tb, mb, A, _, hso, hsm, rfl, hT⟩, hx6⟩
        · have HX6 := Lib.hid (HXW.out.trans hx6)
          clear hx6
          go_wp2_with fail
          rw [HR.out]
          exact ⟨rfl, HX6.out⟩
        · have HX6 := Lib.hid (HXW.out.trans hx6)
          have hfn := tree_FindS p w6 (HE.out.ext HX6.out) hT hsm hso
          clear hx6 hT hsm hso
          generalize findT T p = i at hfn
          by_cases hi : i = 0
          · rw [decide_eq_false (fun h => h hi), hi] at hfn
            have HF := Lib.hid hfn
            clear hfn hi
            go_wp2_with (go_at_call 13; refine HF.out.mono ?_; rintro e w7 ⟨rfl, hx7⟩; have HX7 := Lib.hid (HX6.out.trans hx7); clear hx7)
            rw [HR.out]
            exact ⟨rfl, HX7.out⟩
          · rw [decide_eq_true hi] at hfn
            have hb1 : ((i : Int) != 0) = true := by rw [bne_iff_ne]; exact hi
            have hb2 : decide (i = 0) = false := decide_eq_false hi
            have HF := Lib.hid hfn
            clear hfn
            go_wp2_with (go_at_call 13; refine HF.out.mono ?_; rintro e w7 ⟨rfl, hx7⟩; have HX7 := Lib.hid (HX6.out.trans hx7); clear hx7)
            rw [HR.out]
            exact ⟨rfl, HX7.out⟩
theorem tree_bad_s (ab : Option Addr) (cb : Nat) (lb : By) (ar : Option Addr) (cr : Nat) (rows : List By) (s : ByteArray) (w : World) (hE : Env w) (hB : Bytes w ab lb) (hP : Parts w ar rows) :
    Calls Tryz.prog 4 #[.slice ab lb.length cb, .slice ar rows.length cr, .string s] w fun e w' => e = .returned (.bool true) ∧ Ext w w' := by
  have h := tree_bad ab cb lb ar cr rows s.data.toList w hE hB hP
  rw [bs_of] at h
  exact h
end Go.Proofs.YtldgpcmnmegioaaGreatDoor
