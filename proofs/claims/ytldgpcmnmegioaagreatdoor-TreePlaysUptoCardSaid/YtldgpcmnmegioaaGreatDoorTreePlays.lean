/- The walk of farrierlaw06.TreePlays. -/
import Derived.Test.YtldgpcmnmegioaaGreatDoorM6
import Derived.Test.YtldgpcmnmegioaaGreatDoorAlive06
import Derived.Test.YtldgpcmnmegioaaGreatDoorM7
import Derived.Test.YtldgpcmnmegioaaGreatDoorReadPlays
namespace Go.Proofs.YtldgpcmnmegioaaGreatDoor
open Go.RowKit
theorem and_4095 (q : Int) : 0 ≤ bits .and .i64 q 4095 ∧ bits .and .i64 q 4095 ≤ 4095 := by
  have h : bits .and .i64 q 4095 = IntKind.i64.wrap (((BitVec.ofInt 64 q &&& BitVec.ofInt 64 4095).toNat : Nat) : Int) := rfl
  have hle : (BitVec.ofInt 64 q &&& BitVec.ofInt 64 4095).toNat ≤ 4095 := by
    rw [BitVec.toNat_and]
    exact Nat.le_trans Nat.and_le_right (by decide)
  rw [h, IntWalk.i64_in _ (by omega)]
  omega
def refC (m : RefD) (A : RefA) : Array Value := #[.slice A.la m.list.length A.lc, .slice A.fa m.files.length A.fc, .int .i64 m.next, .int .i64 m.quota]
theorem RefM.keep_c {w w' : World} {m m2 : RefD} {A A2 : RefA} {b : Nat} (h : RefM w m A) (k : Keep (· ≠ b) w w') (hb : w.heap[b]? = some (.cells (refC m2 A2) 30 (0, 0))) : RefM w' m A := h.keep_var k hb
theorem take_map (L : List (OpD × OpA)) {j : Nat} (hj : j < L.length) : (L.take (j + 1)).map Prod.fst = (L.take j).map Prod.fst ++ [(L.getD j oz).1] := by
  rw [List.take_succ_eq_append_getElem hj, List.map_append]
  simp [List.getD_eq_getElem?_getD, List.getElem?_eq_getElem hj]
theorem doM_cases (m : RefD) (L : List OpD) :
    ((runM m L).2 ≠ 0 ∧ doM m L = (m, (runM m L).2)) ∨ ((runM m L).2 = 0 ∧ 128 < nodesM (runM m L).1 ∧ doM m L = (m, 7)) ∨ ((runM m L).2 = 0 ∧ ¬ 128 < nodesM (runM m L).1 ∧ m.quota < usedM (runM m L).1 ∧ doM m L = (m, 13)) ∨ ((runM m L).2 = 0 ∧ ¬ 128 < nodesM (runM m L).1 ∧ ¬ m.quota < usedM (runM m L).1 ∧ doM m L = ((runM m L).1, 0)) := by
  unfold doM
  by_cases h1 : (runM m L).2 ≠ 0
  · exact Or.inl ⟨h1, if_pos h1⟩
  · have h1' : (runM m L).2 = 0 := by omega
    rw [if_neg h1]
    by_cases h2 : 128 < nodesM (runM m L).1
    · exact Or.inr (Or.inl ⟨h1', h2, if_pos h2⟩)
    · rw [if_neg h2]
      by_cases h3 : m.quota < usedM (runM m L).1
      · exact Or.inr (Or.inr (Or.inl ⟨h1', h2, h3, if_pos h3⟩))
      · exact Or.inr (Or.inr (Or.inr ⟨h1', h2, h3, if_neg h3⟩))
set_option maxRecDepth 100000 in
set_option maxHeartbeats 51200000 in
theorem tree_plays (q0 : Int) (a : Option Addr) (c : Nat) (B : List (BatchD × List Int)) (w : World) (hE : Env w) (hB : BatchL w a (B.map Prod.fst)) (hRe : ∀ x ∈ B, ReapsM w x) (hs : sumB2 (B.map Prod.fst) ≤ 2000000) (hl : B.length ≤ 1099511627776) :
    Calls Tryz.prog 3 #[.int .i64 q0, .slice a B.length c] w fun e w' => e = .returned (.bool true) ∧ Ext w w' := by
  obtain ⟨R, hR⟩ : ∃ R : Ending → World → Prop, R = fun e w' => e = .returned (.bool true) ∧ Ext w w' := ⟨_, rfl⟩
  rw [← hR]
  have HR := Lib.hid hR; clear hR
  have HAL := Lib.hid (alive06 w hE)
  have HE := Lib.hid hE; clear hE
  have hfw := fun W (k : Ext w W) => tree_few_s a c (B.map Prod.fst) W (hB.ext k) hs (by rw [List.length_map]; exact hl)
  rw [List.length_map] at hfw
  have HB := Lib.hid hB; clear hB
  have HRE := Lib.hid hRe; clear hRe
  obtain ⟨n, hn⟩ : ∃ n, n = B.length := ⟨_, rfl⟩
  rw [← hn] at hl hfw ⊢
  have HN := Lib.hid hn; clear hn
  have HFW := Lib.hid hfw; clear hfw
  go_enter Tryz.func3, Tryz.ntmps3
  go_upto_region 5 with (first
    | (go_at_call 5; refine HAL.out.mono ?_; rintro E w1 ⟨rfl, hx⟩; have HX1 := Lib.hid hx; clear hx)
    | (go_at_call 6; refine Hid.out ?_))
  refine Lib.hid ?_
  refine (HFW.out _ HX1.out).mono ?_
  rintro E w2 ⟨⟨q1, rfl, hsm⟩, hx⟩
  have HX2 := Lib.hid (HX1.out.trans hx); clear hx HFW HX1 HAL
  cases q1 with
  | false =>
    go_wp2_with fail
    rw [HR.out]
    exact ⟨rfl, HX2.out⟩
  | true =>
    have HSM := Lib.hid (hsm rfl); clear hsm
    go_upto_region 6 with fail
    have hqr := and_4095 q0
    generalize bits .and .i64 q0 4095 = qv at hqr ⊢
    have hmx : max 0 qv = qv := by omega
    have hnw := fun W => ref_new qv W
    unfold RefR refV newM at hnw
    simp only [hmx, List.length_cons, List.length_nil, Nat.zero_add] at hnw
    have HNW := Lib.hid hnw; clear hnw
    obtain ⟨S, hS⟩ : ∃ S, S = w2.heap.size := ⟨_, rfl⟩
    have hnt := at_New qv w2
    rw [← hS] at hnt
    have HNT := Lib.hid hnt; clear hnt
    have HS : Hid (w.heap.size ≤ S) := Lib.hid (by rw [hS]; exact HX2.out.size)
    clear hS
    go_upto_region 7 with (first
      | (go_at_call 7; refine HNT.out.mono ?_; rintro E w3 ⟨tb, rfl, hT, hx⟩; have HT := Lib.hid hT; have HX3 := Lib.hid (HX2.out.trans hx); clear hT hx)
      | (go_at_call 8; refine (HNW.out _).mono ?_; rintro E w4 ⟨⟨la, lc, fa, fc, F⟩, rfl, hM, hx⟩; have HM := Lib.hid hM; have HT4 := Lib.hid (HT.out.ext hx); have HX4 := Lib.hid (HX3.out.trans hx); clear hM hx))
    clear HNT HNW HT HX3 HX2
    have hx_w5 : Ext w4 (w4.alloc (.cells #[.slice la 1 lc, .slice fa 0 fc, .int .i64 2, .int .i64 qv] 30)) := (Ext.alloc _ _)
    have hf_V := heap_alloc_new w4 (.cells #[.slice la 1 lc, .slice fa 0 fc, .int .i64 2, .int .i64 qv] 30)
    generalize w4.alloc (.cells #[.slice la 1 lc, .slice fa 0 fc, .int .i64 2, .int .i64 qv] 30) = w5 at hx_w5 hf_V ⊢
    obtain ⟨V, h_V⟩ : ∃ x, x = w4.heap.size := ⟨_, rfl⟩
    rw [← h_V] at hf_V
    try rw [← h_V]
    have hs_V : w4.heap.size ≤ V := by omega
    have HM5 := Lib.hid (HM.out.ext hx_w5)
    have HT5 := Lib.hid (HT4.out.ext hx_w5)
    have HX5 := Lib.hid (HX4.out.trans hx_w5)
    have HV5 := Lib.hid hf_V
    have hsv : w.heap.size ≤ V := Nat.le_trans HX4.out.size hs_V
    have HSV := Lib.hid hsv
    clear HM HT4 HX4 hx_w5 hf_V hs_V h_V hsv
    go_wp2_with fail
    go_loopw [33] (fun i wr => ∃ (k : Nat) (T : TreeD) (m : RefD) (A : RefA), i = .int .i64 k ∧ k ≤ n ∧ Hid (TreeAt wr S tb (2 + 2 * sumB2 ((B.take k).map Prod.fst)) T ∧ T.ids.length ≤ 128) ∧ Hid (Like T m ∧ m.quota = qv ∧ m.list.length ≤ 1 + sumB2 ((B.take k).map Prod.fst)) ∧ Hid (RefM wr m A) ∧ Hid (wr.heap[V]? = some (.cells (refC m A) 30 (0, 0))) ∧ Hid (Ext w wr)) (fun i _ => n - (intOf i).toNat)
    case atStart =>
      have hlk := new_like qv
      refine ⟨0, newT qv, newM qv, ⟨la, lc, fa, fc, F⟩, rfl, Nat.zero_le _, Lib.hid ⟨HT5.out, by simp [newT]⟩, Lib.hid ⟨hlk, hmx, by simp [newM]⟩, Lib.hid ?_, Lib.hid ?_, HX5⟩
      · have := HM5.out
        unfold newM
        rw [hmx]
        exact this
      · have := HV5.out
        unfold refC newM
        simp only [hmx]
        exact this
    case round =>
      clear HT5 HM5 HV5 HX5
      obtain ⟨k, T, m, A, rfl, hk, HTT, HLK, HRM, HVV, HXR⟩ := hrel
      by_cases hlt : k < n
      · have hkB : k < B.length := by have := HN.out; omega
        have hkL : k < (B.map Prod.fst).length := by rw [List.length_map]; exact hkB
        have hst := sumB2_take (B.map Prod.fst) hkL
        have hsl := sumB2_le (B.map Prod.fst) (k + 1)
        have emt : ∀ j, ((B.take j).map Prod.fst) = (B.map Prod.fst).take j := fun j => by rw [List.map_take]
        obtain ⟨g, off, rfl, _, ⟨c0, c1⟩, hops⟩ := (HB.out.ext HXR.out).at hkL
        have hsb := HSM.out _ (show (B.map Prod.fst).getD k bz ∈ B.map Prod.fst by
          have e : (B.map Prod.fst).getD k bz = (B.map Prod.fst)[k] := by simp [List.getD_eq_getElem?_getD, List.getElem?_eq_getElem hkL]
          rw [e]; exact List.getElem_mem hkL)
        have hrx := HRE.out _ (List.getElem_mem hkB)
        have hopw : OpsL w ((B.map Prod.fst).getD k bz).a ((B.map Prod.fst).getD k bz).L := by
          obtain ⟨_, _, _, _, _, h⟩ := HB.out.at hkL
          exact h
        have e2 : (B.map Prod.fst).getD k bz = B[k].1 := by simp [List.getD_eq_getElem?_getD, List.getElem?_eq_getElem hkB]
        rw [e2] at c0 c1 hops hst hsb hopw
        generalize B[k] = x at c0 c1 hops hst hsb hrx hopw
        obtain ⟨⟨xL, xa, xc, ra, rn, rc⟩, X⟩ := x
        simp only at c0 c1 hops hst hsb hopw
        have HOPW := Lib.hid hopw; clear hopw
        have hrn : rn = X.length := hrx.1
        subst hrn
        have HST := Lib.hid (And.intro hst (And.intro hsl emt))
        have HSB := Lib.hid hsb
        have HOPS := Lib.hid hops
        have HRX := Lib.hid hrx
        have hs0 : sumB2 ((B.map Prod.fst).take k) + (1 + xL.length) ≤ 2000000 := by omega
        have hX20 : X.length ≤ 20 := hsb.reap
        clear hst hsb hops hrx hsl emt e2 hkL hkB
        obtain ⟨xn, hxn⟩ : ∃ n, n = xL.length := ⟨_, rfl⟩
        obtain ⟨rn, hrn⟩ : ∃ n, n = X.length := ⟨_, rfl⟩
        rw [← hxn] at c0 hs0
        rw [← hrn] at c1 hX20
        have HXN := Lib.hid hxn; clear hxn
        have HRN := Lib.hid hrn; clear hrn
        obtain ⟨N, hNd⟩ : ∃ N, N = 2 + 2 * sumB2 ((B.take k).map Prod.fst) := ⟨_, rfl⟩
        rw [← hNd] at HTT
        have hNN : N + 2 * (1 + xn) ≤ 4000100 := by rw [hNd, HST.out.2.2 k]; omega
        have hml : m.list.length + xn ≤ 3000000 := by have := HLK.out.2.2; rw [HST.out.2.2 k] at this; omega
        have HND := Lib.hid hNd; clear hNd
        go_upto_region 10 with fail
        clear c0 c1
        obtain ⟨wo, rfl⟩ : ∃ x : World, x = wr := ⟨_, rfl⟩
        have hx_w6 : Ext wo (wo.alloc (.cells #[.slice xa xn xc, .slice ra rn rc] 35)) := (Ext.alloc _ _)
        have hf_P := heap_alloc_new wo (.cells #[.slice xa xn xc, .slice ra rn rc] 35)
        generalize wo.alloc (.cells #[.slice xa xn xc, .slice ra rn rc] 35) = w6 at hx_w6 hf_P ⊢
        obtain ⟨P, h_P⟩ : ∃ x, x = wo.heap.size := ⟨_, rfl⟩
        rw [← h_P] at hf_P
        try rw [← h_P]
        have hs_P : wo.heap.size ≤ P := by omega
        have HP6 := Lib.hid hf_P
        have HX6 := Lib.hid (HXR.out.trans hx_w6)
        have HT6 := Lib.hid (HTT.out.1.ext hx_w6)
        have HM6 := Lib.hid (HRM.out.ext hx_w6)
        have HV6 := Lib.hid (hx_w6.heap HVV.out)
        have HXO6 := Lib.hid hx_w6
        clear hf_P hx_w6 hs_P h_P HRM HVV HXR
        have hvc := HV6.out
        unfold refC at hvc
        have v0 := blk_cell hvc 0 (Value.slice A.la m.list.length A.lc) rfl
        have v1 := blk_cell hvc 1 (Value.slice A.fa m.files.length A.fc) rfl
        have v2 := blk_cell hvc 2 (Value.int .i64 m.next) rfl
        have v3 := blk_cell hvc 3 (Value.int .i64 m.quota) rfl
        clear hvc
        go_upto_region 11 with fail
        clear v0 v1 v2 v3
        have hx_w7 : Ext w6 (w6.alloc (.cells #[.slice A.la m.list.length A.lc, .slice A.fa m.files.length A.fc, .int .i64 m.next, .int .i64 m.quota] 30)) := (Ext.alloc _ _)
        have hf_Y := heap_alloc_new w6 (.cells #[.slice A.la m.list.length A.lc, .slice A.fa m.files.length A.fc, .int .i64 m.next, .int .i64 m.quota] 30)
        generalize w6.alloc (.cells #[.slice A.la m.list.length A.lc, .slice A.fa m.files.length A.fc, .int .i64 m.next, .int .i64 m.quota] 30) = w7 at hx_w7 hf_Y ⊢
        obtain ⟨Y, h_Y⟩ : ∃ x, x = w6.heap.size := ⟨_, rfl⟩
        rw [← h_Y] at hf_Y
        try rw [← h_Y]
        have hs_Y : w6.heap.size ≤ Y := by omega
        have HY7 : Hid (w7.heap[Y]? = some (.cells (refC m A) 30 (0, 0))) := Lib.hid hf_Y
        have HP7 := Lib.hid (hx_w7.heap HP6.out)
        have HX7 := Lib.hid (HX6.out.trans hx_w7)
        have HT7 := Lib.hid (HT6.out.ext hx_w7)
        have HM7 := Lib.hid (HM6.out.ext hx_w7)
        have HV7 := Lib.hid (hx_w7.heap HV6.out)
        have hyl : Y ≠ V ∧ Y ≠ P ∧ w6.heap.size ≤ Y := by
          have h1 := (Array.getElem?_eq_some_iff.1 HV6.out).1
          have h2 := (Array.getElem?_eq_some_iff.1 HP6.out).1
          exact ⟨by omega, by omega, by omega⟩
        have HYL := Lib.hid (And.intro hyl (And.intro HXO6.out.size HX6.out.size))
        have HXO7 := Lib.hid (HXO6.out.trans hx_w7)
        clear hf_Y hx_w7 hs_Y h_Y hyl HP6 HX6 HT6 HM6 HV6 HXO6
        have d0 := blk_cell HP7.out 0 (Value.slice xa xn xc) rfl
        go_wp2_with fail
        clear d0
        go_loopw [10, 41] (fun ev i wz => ∃ (j : Nat) (A2 : RefA), ev = .int .i64 (runM m ((xL.take j).map Prod.fst)).2 ∧ i = .int .i64 j ∧ j ≤ xn ∧ Hid (RefM wz (runM m ((xL.take j).map Prod.fst)).1 A2) ∧ Hid (wz.heap[Y]? = some (.cells (refC (runM m ((xL.take j).map Prod.fst)).1 A2) 30 (0, 0))) ∧ Hid (Keep (· ≠ Y) w7 wz)) (fun _ i _ => xn - (intOf i).toNat)
        case atStart => exact ⟨0, A, rfl, rfl, Nat.zero_le _, HM7, HY7, Lib.hid (Keep.refl _ _)⟩
        case round =>
          obtain ⟨j, A2, rfl, rfl, hj, HM2, HY2, HK2⟩ := hrel
          obtain ⟨wz, rfl⟩ : ∃ x : World, x = wr := ⟨_, rfl⟩
          have hlk2 := HLK.out.1.run ((xL.take j).map Prod.fst)
          have hft2 := runT_fit ((xL.take j).map Prod.fst) HTT.out.1.2.1
          have hln2 := runM_len ((xL.take j).map Prod.fst) m
          have hjl : ((xL.take j).map Prod.fst).length ≤ xn := by rw [List.length_map, List.length_take]; omega
          have hk7 : Keep (fun g => g < w7.heap.size ∧ g ≠ Y) w7 wz := HK2.out.mono (fun g _ hg => hg.2)
          have hxz : Ext w wz := ((Keep.of_ext (S := fun j => j < w.heap.size) HX7.out).andThen HK2.out (fun g hg _ => by have := HYL.out; show g ≠ Y; omega)).ext_lt
          have hxo : Ext wo wz := ((Keep.of_ext (S := fun j => j < wo.heap.size) HXO7.out).andThen HK2.out (fun g hg _ => by have := HYL.out; show g ≠ Y; omega)).ext_lt
          by_cases hjn : j < xn
          · have hjL : j < xL.length := by have := HXN.out; omega
            have htk := take_map xL hjL
            have hrt := runM_take m ((xL.take j).map Prod.fst)
            obtain ⟨g2, off2, rfl, _, ⟨e0, e1, e2, e3⟩, hby⟩ := (HOPS.out.ext hxo).at hjL
            have hso := HSB.out.ops _ (show xL.getD j oz ∈ xL by
              have e : xL.getD j oz = xL[j] := by simp [List.getD_eq_getElem?_getD, List.getElem?_eq_getElem hjL]
              rw [e]; exact List.getElem_mem hjL)
            generalize xL.getD j oz = y at e0 e1 e2 e3 hby hso htk
            obtain ⟨⟨kd, pt, ds, dt⟩, ⟨oa, oc⟩⟩ := y
            simp only at e0 e1 e2 e3 hby htk
            have hrj : runM m ((xL.take (j + 1)).map Prod.fst) = if (runM m ((xL.take j).map Prod.fst)).2 = 0 then stepM (runM m ((xL.take j).map Prod.fst)).1 ⟨kd, pt, ds, dt⟩ else runM m ((xL.take j).map Prod.fst) := by rw [htk]; exact hrt _
            have HRJ := Lib.hid hrj; clear hrj hrt htk
            have hfb : (runM m ((xL.take j).map Prod.fst)).1.files.length ≤ 1000000000 := by
              have h1 := hlk2.2.files_le
              have h2 := hft2.count
              omega
            have hnb : -1000000000000 ≤ (runM m ((xL.take j).map Prod.fst)).1.next ∧ (runM m ((xL.take j).map Prod.fst)).1.next ≤ 1000000000000 := by
              rw [hlk2.2.next]
              have h1 := hft2.next
              have h2 := hlk2.2.good.low 1 hlk2.2.good.root
              omega
            have hpl : ∀ e ∈ (runM m ((xL.take j).map Prod.fst)).1.list, e.path.length ≤ 100000 := fun e he => by
              have := (hlk2.2.entry he).2.2.2.2.1
              omega
            have hlb : (runM m ((xL.take j).map Prod.fst)).1.list.length ≤ 1000000000 := by omega
            obtain ⟨m2, hm2⟩ : ∃ z, z = (runM m ((xL.take j).map Prod.fst)).1 := ⟨_, rfl⟩
            obtain ⟨c2, hc2⟩ : ∃ z, z = (runM m ((xL.take j).map Prod.fst)).2 := ⟨_, rfl⟩
            rw [← hm2] at HM2 HY2 HRJ hfb hnb hpl hlb
            rw [← hc2] at HRJ ⊢
            have HMC := Lib.hid (And.intro hm2 hc2)
            clear hlk2 hft2 hln2 hjl hk7 hm2 hc2
            go_upto_region 14 with fail
            clear e0 e1 e2 e3
            have hx_w8 : Ext wz (wz.alloc (.cells #[.int .i64 kd, .string (bs pt), .string (bs ds), .slice oa dt.length oc] 38)) := (Ext.alloc _ _)
            have hf_O := heap_alloc_new wz (.cells #[.int .i64 kd, .string (bs pt), .string (bs ds), .slice oa dt.length oc] 38)
            generalize wz.alloc (.cells #[.int .i64 kd, .string (bs pt), .string (bs ds), .slice oa dt.length oc] 38) = w8 at hx_w8 hf_O ⊢
            obtain ⟨O, h_O⟩ : ∃ x, x = wz.heap.size := ⟨_, rfl⟩
            rw [← h_O] at hf_O
            try rw [← h_O]
            have hs_O : wz.heap.size ≤ O := by omega
            have HO8 := Lib.hid hf_O
            have HY8 := Lib.hid (hx_w8.heap HY2.out)
            have HM8 := Lib.hid (HM2.out.ext hx_w8)
            have HK8 := Lib.hid (HK2.out.andThen (Keep.of_ext (S := (· ≠ Y)) hx_w8) (fun _ _ h => h))
            have hby8 := hby.ext hx_w8
            clear hf_O hx_w8 hs_O h_O
            by_cases h0 : c2 = 0
            · have HRS := Lib.hid (show runM m ((xL.take (j + 1)).map Prod.fst) = stepM m2 ⟨kd, pt, ds, dt⟩ by rw [HRJ.out, if_pos h0])
              subst h0
              have hst := ref_step m2 A2 kd pt ds dt oa oc w8 HM8.out hby8 (by have := hso.data; simp only at this; omega) hlb hfb hnb (by have := hso.path; simp only at this; omega) hpl
              unfold RefE refV at hst
              have HST2 := Lib.hid hst; clear hst hby8 hby hso hfb hnb hpl hlb
              have hyc := HY8.out
              unfold refC at hyc
              have v0 := blk_cell hyc 0 (Value.slice A2.la m2.list.length A2.lc) rfl
              have v1 := blk_cell hyc 1 (Value.slice A2.fa m2.files.length A2.fc) rfl
              have v2 := blk_cell hyc 2 (Value.int .i64 m2.next) rfl
              have v3 := blk_cell hyc 3 (Value.int .i64 m2.quota) rfl
              have o0 := blk_cell HO8.out 0 (Value.int .i64 kd) rfl
              have o1 := blk_cell HO8.out 1 (Value.string (bs pt)) rfl
              have o2 := blk_cell HO8.out 2 (Value.string (bs ds)) rfl
              have o3 := blk_cell HO8.out 3 (Value.slice oa dt.length oc) rfl
              go_wp2_with (go_at_call 9; refine Hid.out ?_)
              refine Lib.hid ?_
              clear v0 v1 v2 v3 o0 o1 o2 o3 hyc
              refine HST2.out.mono ?_
              rintro E w9 ⟨A3, rfl, hM3, hx9⟩
              have hrs := HRS.out
              rw [← hrs] at hM3 ⊢
              obtain ⟨m3, hm3⟩ : ∃ z, z = (runM m ((xL.take (j + 1)).map Prod.fst)).1 := ⟨_, rfl⟩
              obtain ⟨c3, hc3⟩ : ∃ z, z = (runM m ((xL.take (j + 1)).map Prod.fst)).2 := ⟨_, rfl⟩
              rw [← hm3] at hM3 ⊢
              rw [← hc3]
              have HY9 := Lib.hid (hx9.heap HY8.out)
              have HM9 := Lib.hid hM3
              have HK9 := Lib.hid (HK8.out.andThen (Keep.of_ext (S := (· ≠ Y)) hx9) (fun _ _ h => h))
              have HM3 := Lib.hid (And.intro hm3 hc3)
              clear hM3 hx9 hrs hm3 hc3 HST2 HY8 HM8 HK8
              have hyc := HY9.out
              unfold refC at hyc
              have v0 := blk_cell hyc 0 (Value.slice A2.la m2.list.length A2.lc) rfl
              have v1 := blk_cell hyc 1 (Value.slice A2.fa m2.files.length A2.fc) rfl
              have v2 := blk_cell hyc 2 (Value.int .i64 m2.next) rfl
              have v3 := blk_cell hyc 3 (Value.int .i64 m2.quota) rfl
              have g0 := blk_free hyc 0
              have g1 := blk_free hyc 1
              have g2 := blk_free hyc 2
              have g3 := blk_free hyc 3
              have hs4 := set4r hyc (.slice A3.la m3.list.length A3.lc) (.slice A3.fa m3.files.length A3.fc) (.int .i64 m3.next) (.int .i64 m3.quota)
              have HS4 := Lib.hid hs4; clear hs4 hyc
              go_wp2_with fail
              go_roundw
              case rel =>
                refine ⟨j + 1, A3, by rw [HM3.out.2], by go_num, by omega, Lib.hid ?_, Lib.hid ?_, Lib.hid (HK9.out.andThen (Keep.of_but HS4.out.2) (fun _ _ h => h))⟩
                · rw [← HM3.out.1]
                  exact HM9.out.keep_c (Keep.of_but HS4.out.2) HY9.out
                · rw [← HM3.out.1]
                  exact HS4.out.1
              case measure => simp [intOf]; omega
            · have hb := int_bne h0
              have hrs := HRJ.out
              rw [if_neg h0] at hrs
              have HRS := Lib.hid hrs; clear hrs
              go_wp2_with fail
              go_roundw
              case rel =>
                refine ⟨j + 1, A2, ?_, by go_num, by omega, Lib.hid ?_, Lib.hid ?_, HK8⟩
                · rw [HRS.out, ← HMC.out.2]
                · rw [HRS.out, ← HMC.out.1]; exact HM8.out
                · rw [HRS.out, ← HMC.out.1]; exact HY8.out
              case measure => simp [intOf]; omega
          · have htE : xL.take j = xL := List.take_of_length_le (by have := HXN.out; omega)
            rw [htE] at HM2 HY2 hlk2 hft2 hln2 ⊢
            obtain ⟨l, hl2⟩ : ∃ l, l = xL.map Prod.fst := ⟨_, rfl⟩
            rw [← hl2] at HM2 HY2 hlk2 hft2 hln2 ⊢
            have hll : l.length = xn := by rw [hl2, List.length_map]; exact HXN.out.symm
            have hdo2 := HLK.out.1.do l
            have hdl2 := doM_len m l
            have hqd : (doM m l).1.quota = qv := (doM_quota m l).trans HLK.out.2.1
            obtain ⟨m1, hm1⟩ : ∃ z, z = (runM m l).1 := ⟨_, rfl⟩
            obtain ⟨c1, hc1⟩ : ∃ z, z = (runM m l).2 := ⟨_, rfl⟩
            rw [← hm1] at HM2 HY2 hlk2 hln2
            rw [← hc1] at hlk2 ⊢
            have hf1 : m1.files.length ≤ 1000000000 := by
              have h1 := hlk2.2.files_le
              have h2 := hft2.count
              omega
            have hl1 : m1.list.length ≤ 1000000000 := by omega
            have hmq : m.quota = qv := HLK.out.2.1
            have HLL := Lib.hid (And.intro hl2 (And.intro hm1 hc1))
            have HTz := Lib.hid (HT7.out.keep_var HY7.out HK2.out)
            have HMz := Lib.hid (HM7.out.keep_c HK2.out HY7.out)
            have HVz := Lib.hid (HK2.out.heap (fun e => HYL.out.1.1 e.symm) HV7.out)
            have HPz := Lib.hid (HK2.out.heap (fun e => HYL.out.1.2.1 e.symm) HP7.out)
            have HXz := Lib.hid hxz
            have HD2 := Lib.hid (And.intro hdo2 (And.intro hdl2 hqd))
            have HMQ := Lib.hid hmq
            have HYV := Lib.hid HYL.out.1.1
            have HT1 : Hid (T.ids.length ≤ 128) := Lib.hid HTT.out.2
            clear hl2 hm1 hc1 hdo2 hdl2 hqd hmq hxz hxo hk7 hlk2 hft2 hln2 hjl htE HT7 HM7 HV7 HP7 HX7 HXO7 HY7 HK2 HTT
            by_cases h1 : c1 = 0
            · subst h1
              have hyc := HY2.out
              unfold refC at hyc
              have y0 := blk_cell hyc 0 (Value.slice A2.la m1.list.length A2.lc) rfl
              have y1 := blk_cell hyc 1 (Value.slice A2.fa m1.files.length A2.fc) rfl
              have y2 := blk_cell hyc 2 (Value.int .i64 m1.next) rfl
              have y3 := blk_cell hyc 3 (Value.int .i64 m1.quota) rfl
              have hnd := ref_nodes m1.list A2.la A2.lc A2.fa m1.files.length A2.fc m1.next m1.quota wz HM2.out.ents (by omega) (by omega)
              have end1 : m1.files.length + dirsL m1.list = nodesM m1 := rfl
              rw [end1] at hnd
              obtain ⟨nd, hnde⟩ : ∃ z, z = nodesM m1 := ⟨_, rfl⟩
              rw [← hnde] at hnd
              have HNDC := Lib.hid hnd
              have HNE := Lib.hid hnde
              clear hnd hnde end1 hyc
              go_wp2_with (go_at_call 10; refine Hid.out ?_)
              refine Lib.hid ?_
              clear y0 y1 y2 y3
              refine HNDC.out.mono ?_
              rintro E wa ⟨rfl, hxa⟩
              have HTa := Lib.hid (HTz.out.ext hxa)
              have HMa := Lib.hid (HMz.out.ext hxa)
              have HVa := Lib.hid (hxa.heap HVz.out)
              have HPa := Lib.hid (hxa.heap HPz.out)
              have HXa := Lib.hid (HXz.out.trans hxa)
              have HYa := Lib.hid (hxa.heap HY2.out)
              have HM1a := Lib.hid (HM2.out.ext hxa)
              clear hxa HTz HMz HVz HPz HXz HY2 HM2 HNDC
              by_cases h2 : 128 < nd
              · have hd : decide ((128 : Int) < (nd : Int)) = true := decide_eq_true (by omega)
                have hdm : doM m l = (m, 7) := by
                  unfold doM
                  rw [if_neg (by rw [← HLL.out.2.2]; simp), ← HLL.out.2.1, ← HNE.out, if_pos h2]
                have hdr : (doT T l).2 = 7 := by rw [← HD2.out.1.1, hdm]
                have hld := HD2.out.1.2
                have hdl3 := HD2.out.2.1
                have hqd3 := HD2.out.2.2
                rw [hdm] at hld hdl3 hqd3
                have HDR := Lib.hid hdr; have HLD := Lib.hid hld; have HDL := Lib.hid (And.intro hdl3 hqd3)
                clear hdr hld hdl3 hqd3 hdm
                go_upto_region 23 with fail
                have hdo := at_Do xa xc xL (HE.out.ext HXa.out) HTa.out (HOPW.out.ext HXa.out) (by have := HXN.out; omega)
                rw [← HLL.out.1, HDR.out, ← HXN.out] at hdo
                have HDO := Lib.hid hdo; clear hdo
                have hT1c : (doT T l).1.ids.length ≤ 128 := doT_count HT1.out l
                obtain ⟨T1, hT1⟩ : ∃ z, z = (doT T l).1 := ⟨_, rfl⟩
                rw [← hT1] at HDO HLD hT1c
                have HT1C := Lib.hid hT1c
                clear hT1 hT1c
                have p0 := blk_cell HPa.out 0 (Value.slice xa xn xc) rfl
                go_wp2_with (go_at_call 12; refine Hid.out ?_)
                refine Lib.hid ?_
                clear p0
                refine HDO.out.mono ?_
                rintro E we ⟨rfl, hTe, hke⟩
                obtain ⟨mbx, htop⟩ := HTa.out.top
                have hVne : V ≠ tb := fun e => apart_types HVa.out htop (by decide) e
                have hPne : P ≠ tb := fun e => apart_types HPa.out htop (by decide) e
                have HTe := Lib.hid hTe
                have HMe := Lib.hid (HMa.out.keep_tree hke htop)
                have HVe := Lib.hid (hke.heap hVne HVa.out)
                have HPe := Lib.hid (hke.heap hPne HPa.out)
                have HXe := Lib.hid (ext_do HXa.out (by have := HTa.out.low.1; have := HS.out; omega) hke)
                clear hTe hke htop hVne hPne HDO HTa HMa HVa HPa HXa
                obtain ⟨N2, hN2⟩ : ∃ z, z = N + 2 * xn := ⟨_, rfl⟩
                rw [← hN2] at HTe
                have HN2 := Lib.hid hN2; clear hN2
                have hNb : N2 ≤ 1000000000 := by have := HN2.out; omega
                have p0 := blk_cell HPe.out 0 (Value.slice xa xn xc) rfl
                have hec : ((7 : Int) == 7) = true := by simp
                go_wp2_with fail
                clear p0 hec
                go_loopw [88] (fun i wz => ∃ j : Nat, i = .int .i64 j ∧ j ≤ xn ∧ Hid (Ext we wz)) (fun i _ => xn - (intOf i).toNat)
                case atStart => exact ⟨0, rfl, Nat.zero_le _, Lib.hid (Ext.refl _)⟩
                case round =>
                  obtain ⟨j, rfl, hj, HXJ⟩ := hrel
                  obtain ⟨wj, rfl⟩ : ∃ x : World, x = wr := ⟨_, rfl⟩
                  by_cases hjn : j < xn
                  · have hjL : j < xL.length := by have := HXN.out; omega
                    have HXwj := Lib.hid (HXe.out.trans HXJ.out)
                    obtain ⟨g2, off2, rfl, _, ⟨e0, e1, e2, e3⟩, _⟩ := (HOPW.out.ext HXwj.out).at hjL
                    generalize xL.getD j oz = y at e0 e1 e2 e3
                    obtain ⟨⟨kd, pt, ds, dt⟩, ⟨oa, oc⟩⟩ := y
                    simp only at e0 e1 e2 e3
                    go_upto_region 28 with fail
                    clear e0 e1 e2 e3
                    have hx_w8 : Ext wj (wj.alloc (.cells #[.int .i64 kd, .string (bs pt), .string (bs ds), .slice oa dt.length oc] 38)) := (Ext.alloc _ _)
                    have hf_O := heap_alloc_new wj (.cells #[.int .i64 kd, .string (bs pt), .string (bs ds), .slice oa dt.length oc] 38)
                    generalize wj.alloc (.cells #[.int .i64 kd, .string (bs pt), .string (bs ds), .slice oa dt.length oc] 38) = w8 at hx_w8 hf_O ⊢
                    obtain ⟨O, h_O⟩ : ∃ x, x = wj.heap.size := ⟨_, rfl⟩
                    rw [← h_O] at hf_O
                    try rw [← h_O]
                    have hs_O : wj.heap.size ≤ O := by omega
                    have HO8 := Lib.hid hf_O
                    have HX8 := Lib.hid (HXwj.out.trans hx_w8)
                    have HJ8 := Lib.hid (HXJ.out.trans hx_w8)
                    clear hf_O hx_w8 hs_O h_O HXwj
                    have o1 := blk_cell HO8.out 1 (Value.string (bs pt)) rfl
                    have hfi := at_Find pt (HE.out.ext HX8.out) (HTe.out.ext HJ8.out) hNb
                    have hlf := HLD.out.ent_find pt
                    obtain ⟨f, hf⟩ : ∃ z, z = findT T1 pt := ⟨_, rfl⟩
                    rw [← hf] at hfi hlf
                    have HFI := Lib.hid hfi
                    have HLF := Lib.hid hlf
                    clear hfi hlf hf
                    go_wp2_with (go_at_call 13; refine Hid.out ?_)
                    refine Lib.hid ?_
                    clear o1
                    refine HFI.out.mono ?_
                    rintro E w9 ⟨rfl, hx9⟩
                    have HJ9 := Lib.hid (HJ8.out.trans hx9)
                    have o1 := blk_cell (hx9.heap HO8.out) 1 (Value.string (bs pt)) rfl
                    clear hx9 HFI HX8
                    have hvc := HJ9.out.heap HVe.out
                    unfold refC at hvc
                    have v0 := blk_cell hvc 0 (Value.slice A.la m.list.length A.lc) rfl
                    have v1 := blk_cell hvc 1 (Value.slice A.fa m.files.length A.fc) rfl
                    have v2 := blk_cell hvc 2 (Value.int .i64 m.next) rfl
                    have v3 := blk_cell hvc 3 (Value.int .i64 m.quota) rfl
                    have hdlb := HDL.out.1
                    have hlb : m.list.length ≤ 1000000000 := by have := HLL.out.1; have := HXN.out; rw [HLL.out.1, List.length_map] at hdlb; omega
                    have hfr := ref_find m.list A.la A.lc A.fa m.files.length A.fc m.next m.quota pt w9 (HMe.out.ents.ext HJ9.out) (by omega)
                    have HFR := Lib.hid hfr
                    clear hfr hvc hdlb
                    go_upto_region 30 with (go_at_call 14; refine HFR.out.mono ?_; rintro E wa ⟨rfl, hxa⟩; have HJa := Lib.hid (HJ9.out.trans hxa); clear hxa)
                    clear v0 v1 v2 v3 o1 HFR
                    rcases findI_cases m.list pt with ⟨f1, f2⟩ | ⟨kk, f1, f2, f3, f4⟩
                    · have hf0 : f = 0 := by
                        have h := HLF.out
                        have h2 : entM m pt = none := f2
                        rw [h2] at h
                        by_cases hz : f = 0
                        · exact hz
                        · rw [if_neg hz] at h; cases h
                      rw [f1]
                      clear f1 f2
                      subst hf0
                      go_wp2_with fail
                      go_roundw
                      case rel => exact ⟨j + 1, by go_num, by omega, HJa⟩
                      case measure => simp [intOf]; omega
                    · have h3 : entM m pt = some (m.list.getD kk ez06) := f3
                      have hfz : f ≠ 0 ∧ (m.list.getD kk ez06).id = f := by
                        have h := HLF.out
                        rw [h3] at h
                        by_cases hz : f = 0
                        · rw [if_pos hz] at h; cases h
                        · rw [if_neg hz] at h
                          have h := Option.some.inj h
                          exact ⟨hz, by rw [h]⟩
                      obtain ⟨g3, off3, hla, _, _, d1, _⟩ := (HMe.out.ents.ext HJa.out).at f1
                      rw [hfz.2] at d1
                      have hz := hfz.1
                      have hd1 : decide (f ≠ 0) = true := decide_eq_true hz
                      have hd2 : (f == 0) = false := int_bne hz
                      have hff : (f == f) = true := by simp
                      have hvc := HJa.out.heap HVe.out
                      unfold refC at hvc
                      have v0 := blk_cell hvc 0 (Value.slice A.la m.list.length A.lc) rfl
                      rw [hla] at v0
                      have hg0 : decide ((0 : Int) ≤ (kk : Int)) = true := decide_eq_true (by omega)
                      have i0 : (0 : Int) ≤ (kk : Int) := by omega
                      have i1 : (kk : Int) < (m.list.length : Int) := by omega
                      rw [f2]
                      clear f2 f3 f4 h3 hfz hvc hla
                      go_wp2_with fail
                      go_roundw
                      case rel => exact ⟨j + 1, by go_num, by omega, HJa⟩
                      case measure => simp [intOf]; omega
                  · have HTj := Lib.hid (HTe.out.ext HXJ.out)
                    have HMj := Lib.hid (HMe.out.ext HXJ.out)
                    have HVj := Lib.hid (HXJ.out.heap HVe.out)
                    have HPj := Lib.hid (HXJ.out.heap HPe.out)
                    have HXj := Lib.hid (HXe.out.trans HXJ.out)
                    clear HTe HMe HVe HPe HXe HXJ
                    have hlr := HLD.out.reaps X
                    have hrp := at_Reap X ra rc HTj.out hlr.good (HRX.out.2.1.ext HXj.out) HRX.out.2.2 (by have := HRN.out; omega)
                    rw [← HRN.out] at hrp
                    have HRP := Lib.hid hrp
                    have HLR := Lib.hid hlr
                    clear hrp hlr
                    have p1 := blk_cell HPj.out 1 (Value.slice ra rn rc) rfl
                    go_wp2_with (go_at_call 15; refine Hid.out ?_)
                    refine Lib.hid ?_
                    clear p1
                    refine HRP.out.mono ?_
                    rintro E wf ⟨rfl, hTf, mbx, es, cl, hmap, hmb, hkf⟩
                    have hne : ∀ {cs : Array Value} {t : TypeId} {g : Nat}, wj.heap[g]? = some (.cells cs t (0, 0)) → g ≠ mbx := fun hg e => by rw [e, hmap] at hg; cases hg
                    have HTf := Lib.hid hTf
                    have HMf := Lib.hid (HMj.out.keep_map hkf hmap)
                    have HVf := Lib.hid (hkf.heap (hne HVj.out) HVj.out)
                    have HPf := Lib.hid (hkf.heap (hne HPj.out) HPj.out)
                    have HXf : Hid (Ext w wf) := Lib.hid ((Keep.of_ext (S := fun j => j < w.heap.size) HXj.out).andThen hkf (fun g hg _ => by have := HS.out; show g ≠ mbx; omega)).ext_lt
                    clear hTf hmap hmb hkf hne HTj HMj HVj HPj HXj HRP
                    have p1 := blk_cell HPf.out 1 (Value.slice ra rn rc) rfl
                    go_wp2_with fail
                    clear p1
                    go_loopw [136] (fun i wz => ∃ (j : Nat) (A3 : RefA), i = .int .i64 j ∧ j ≤ rn ∧ Hid (RefM wz (reapsM m (X.take j)) A3) ∧ Hid (wz.heap[V]? = some (.cells (refC (reapsM m (X.take j)) A3) 30 (0, 0))) ∧ Hid (Keep (· ≠ V) wf wz)) (fun i _ => rn - (intOf i).toNat)
                    case atStart => exact ⟨0, A, rfl, Nat.zero_le _, HMf, HVf, Lib.hid (Keep.refl _ _)⟩
                    case round =>
                      obtain ⟨i, A3, rfl, hi, HM3, HV3, HK3⟩ := hrel
                      obtain ⟨wi, rfl⟩ : ∃ x : World, x = wr := ⟨_, rfl⟩
                      have hxi : Ext w wi := ((Keep.of_ext (S := fun j => j < w.heap.size) HXf.out).andThen HK3.out (fun g hg _ => by have := HSV.out; show g ≠ V; omega)).ext_lt
                      have hdlb := HDL.out.1
                      have hlb : m.list.length ≤ 1000000000 := by rw [HLL.out.1, List.length_map] at hdlb; have := HXN.out; omega
                      have hfb : m.files.length ≤ 1000000000 := by have h1 := HLD.out.files_le; have h2 := HT1C.out; omega
                      have hvc := HV3.out
                      unfold refC at hvc
                      by_cases hin : i < rn
                      · have hiX : i < X.length := by have := HRN.out; omega
                        obtain ⟨g3, off3, rfl, x0⟩ := run_int (HRX.out.2.1.ext hxi) hiX
                        have hrt := reapsM_take m hiX
                        generalize X.getD i 0 = xi at x0 hrt
                        obtain ⟨f1, f2, f3⟩ := reapsM_facts (X.take i) m
                        have hrr := ref_reap (reapsM m (X.take i)) A3 xi wi HM3.out (by rw [f1]; omega) (by omega)
                        rw [← hrt] at hrr
                        unfold RefR at hrr
                        have HRR := Lib.hid hrr
                        obtain ⟨mi, hmi⟩ : ∃ z, z = reapsM m (X.take i) := ⟨_, rfl⟩
                        rw [← hmi] at HRR hvc
                        unfold refV at HRR
                        clear hrr hrt f1 f2 f3 hlb hfb hdlb hmi
                        have v0 := blk_cell hvc 0 (Value.slice A3.la mi.list.length A3.lc) rfl
                        have v1 := blk_cell hvc 1 (Value.slice A3.fa mi.files.length A3.fc) rfl
                        have v2 := blk_cell hvc 2 (Value.int .i64 mi.next) rfl
                        have v3 := blk_cell hvc 3 (Value.int .i64 mi.quota) rfl
                        have i2 : (0 : Int) ≤ (i : Int) := by omega
                        have i3 : (i : Int) < (rn : Int) := by omega
                        go_wp2_with (go_at_call 16; refine Hid.out ?_)
                        refine Lib.hid ?_
                        clear v0 v1 v2 v3 x0
                        refine HRR.out.mono ?_
                        rintro E wk ⟨A4, rfl, hM4, hxk⟩
                        obtain ⟨m4, hm4⟩ : ∃ z, z = reapsM m (X.take (i + 1)) := ⟨_, rfl⟩
                        rw [← hm4] at hM4 ⊢
                        have hvk := hxk.heap hvc
                        have v0 := blk_cell hvk 0 (Value.slice A3.la mi.list.length A3.lc) rfl
                        have v1 := blk_cell hvk 1 (Value.slice A3.fa mi.files.length A3.fc) rfl
                        have v2 := blk_cell hvk 2 (Value.int .i64 mi.next) rfl
                        have v3 := blk_cell hvk 3 (Value.int .i64 mi.quota) rfl
                        have g0 := blk_free hvk 0
                        have g1 := blk_free hvk 1
                        have g2 := blk_free hvk 2
                        have g3 := blk_free hvk 3
                        have hs4 := set4r hvk (.slice A4.la m4.list.length A4.lc) (.slice A4.fa m4.files.length A4.fc) (.int .i64 m4.next) (.int .i64 m4.quota)
                        have HS4 := Lib.hid (And.intro hs4 hvk)
                        have HM4 := Lib.hid hM4
                        have HKk := Lib.hid (HK3.out.andThen (Keep.of_ext (S := (· ≠ V)) hxk) (fun _ _ h => h))
                        have HE4 := Lib.hid hm4
                        clear hs4 hvk hM4 hxk hm4 hvc
                        go_wp2_with fail
                        go_roundw
                        case rel =>
                          refine ⟨i + 1, A4, by go_num, by omega, Lib.hid ?_, Lib.hid ?_, Lib.hid (HKk.out.andThen (Keep.of_but HS4.out.1.2) (fun _ _ h => h))⟩
                          · rw [← HE4.out]
                            exact HM4.out.keep_var (Keep.of_but HS4.out.1.2) HS4.out.2
                          · rw [← HE4.out]
                            exact HS4.out.1.1
                        case measure => simp [intOf]; omega
                      · have hXE : X.take i = X := List.take_of_length_le (by have := HRN.out; omega)
                        rw [hXE] at HM3 hvc HV3
                        obtain ⟨f1, f2, f3⟩ := reapsM_facts X m
                        have hti := HTf.out.keep_var HVf.out HK3.out
                        have hag := law_agree (reapsM m X) A3 wi (HE.out.ext hxi) hti HM3.out HLR.out hNb (by rw [f1]; omega) (by omega)
                        obtain ⟨m5, hm5⟩ : ∃ z, z = reapsM m X := ⟨_, rfl⟩
                        rw [← hm5] at hag hvc HM3 HV3
                        unfold refV at hag
                        have HAG := Lib.hid hag
                        have HTI := Lib.hid hti
                        have HXI := Lib.hid hxi
                        have HM5 := Lib.hid hm5
                        clear hag hti hxi hm5 hXE f1 f2 f3
                        have v0 := blk_cell hvc 0 (Value.slice A3.la m5.list.length A3.lc) rfl
                        have v1 := blk_cell hvc 1 (Value.slice A3.fa m5.files.length A3.fc) rfl
                        have v2 := blk_cell hvc 2 (Value.int .i64 m5.next) rfl
                        have v3 := blk_cell hvc 3 (Value.int .i64 m5.quota) rfl
                        go_wp2_with (go_at_call 17; refine HAG.out.mono ?_; rintro E wl ⟨rfl, hxl⟩; have HXL := Lib.hid hxl; clear hxl)
                        go_roundw
                        case rel =>
                          obtain ⟨f1, f2, f3⟩ := reapsM_facts X m
                          refine ⟨k + 1, reapsT T1 X, m5, A3, by go_num, by omega, Lib.hid ⟨(HTI.out.ext HXL.out).mono ?_, ?_⟩, Lib.hid ⟨?_, ?_, ?_⟩, Lib.hid (HM3.out.ext HXL.out), Lib.hid (HXL.out.heap HV3.out), Lib.hid (HXI.out.trans HXL.out)⟩
                          · rw [HN2.out, HND.out, HST.out.2.2, HST.out.2.2, HST.out.1, HXN.out]; omega
                          · exact Nat.le_trans (reapsT_count X T1) HT1C.out
                          · rw [HM5.out]; exact HLR.out
                          · rw [HM5.out, f3]; exact HDL.out.2
                          · rw [HM5.out, f1, HST.out.2.2, HST.out.1]
                            have h1 := HDL.out.1
                            have h2 := HLK.out.2.2
                            rw [HST.out.2.2] at h2
                            rw [HLL.out.1, List.length_map] at h1
                            omega
                        case measure => simp [intOf]; omega
              · have hd : decide ((128 : Int) < (nd : Int)) = false := decide_eq_false (by omega)
                have hyc := HYa.out
                unfold refC at hyc
                have y0 := blk_cell hyc 0 (Value.slice A2.la m1.list.length A2.lc) rfl
                have y1 := blk_cell hyc 1 (Value.slice A2.fa m1.files.length A2.fc) rfl
                have y2 := blk_cell hyc 2 (Value.int .i64 m1.next) rfl
                have y3 := blk_cell hyc 3 (Value.int .i64 m1.quota) rfl
                have hus := ref_used A2.F A2.la A2.lc A2.fa A2.fc m1.list.length m1.next m1.quota wa HM1a.out.fils (by have := HM1a.out.flen'; omega)
                rw [HM1a.out.flen'] at hus
                have eus : usedF A2.F = usedM m1 := by rw [usedF_map, HM1a.out.fmap]; rfl
                rw [eus] at hus
                obtain ⟨u, hue⟩ : ∃ z, z = usedM m1 := ⟨_, rfl⟩
                rw [← hue] at hus
                have HUS := Lib.hid hus
                have HUE := Lib.hid hue
                clear hus hue eus hyc
                go_wp2_with (go_at_call 11; refine Hid.out ?_)
                refine Lib.hid ?_
                clear y0 y1 y2 y3 hd
                refine HUS.out.mono ?_
                rintro E wb ⟨rfl, hxb⟩
                have HTb := Lib.hid (HTa.out.ext hxb)
                have HMb := Lib.hid (HMa.out.ext hxb)
                have HVb := Lib.hid (hxb.heap HVa.out)
                have HPb := Lib.hid (hxb.heap HPa.out)
                have HXb := Lib.hid (HXa.out.trans hxb)
                have HYb := Lib.hid (hxb.heap HYa.out)
                have HM1b := Lib.hid (HM1a.out.ext hxb)
                clear hxb HTa HMa HVa HPa HXa HYa HM1a HUS
                by_cases h3 : qv < (u : Int)
                · have hd : decide (qv < (u : Int)) = true := decide_eq_true h3
                  have hdm : doM m l = (m, 13) := by
                    unfold doM
                    rw [if_neg (by rw [← HLL.out.2.2]; simp), ← HLL.out.2.1, ← HNE.out, if_neg h2, ← HUE.out, HMQ.out, if_pos h3]
                  have hdr : (doT T l).2 = 13 := by rw [← HD2.out.1.1, hdm]
                  have hld := HD2.out.1.2
                  have hdl3 := HD2.out.2.1
                  have hqd3 := HD2.out.2.2
                  rw [hdm] at hld hdl3 hqd3
                  have HDR := Lib.hid hdr; have HLD := Lib.hid hld; have HDL := Lib.hid (And.intro hdl3 hqd3)
                  clear hdr hld hdl3 hqd3 hdm
                  go_upto_region 23 with fail
                  have hdo := at_Do xa xc xL (HE.out.ext HXb.out) HTb.out (HOPW.out.ext HXb.out) (by have := HXN.out; omega)
                  rw [← HLL.out.1, HDR.out, ← HXN.out] at hdo
                  have HDO := Lib.hid hdo; clear hdo
                  have hT1c : (doT T l).1.ids.length ≤ 128 := doT_count HT1.out l
                  obtain ⟨T1, hT1⟩ : ∃ z, z = (doT T l).1 := ⟨_, rfl⟩
                  rw [← hT1] at HDO HLD hT1c
                  have HT1C := Lib.hid hT1c
                  clear hT1 hT1c
                  have p0 := blk_cell HPb.out 0 (Value.slice xa xn xc) rfl
                  go_wp2_with (go_at_call 12; refine Hid.out ?_)
                  refine Lib.hid ?_
                  clear p0
                  refine HDO.out.mono ?_
                  rintro E we ⟨rfl, hTe, hke⟩
                  obtain ⟨mbx, htop⟩ := HTb.out.top
                  have hVne : V ≠ tb := fun e => apart_types HVb.out htop (by decide) e
                  have hPne : P ≠ tb := fun e => apart_types HPb.out htop (by decide) e
                  have HTe := Lib.hid hTe
                  have HMe := Lib.hid (HMb.out.keep_tree hke htop)
                  have HVe := Lib.hid (hke.heap hVne HVb.out)
                  have HPe := Lib.hid (hke.heap hPne HPb.out)
                  have HXe := Lib.hid (ext_do HXb.out (by have := HTb.out.low.1; have := HS.out; omega) hke)
                  clear hTe hke htop hVne hPne HDO HTb HMb HVb HPb HXb
                  obtain ⟨N2, hN2⟩ : ∃ z, z = N + 2 * xn := ⟨_, rfl⟩
                  rw [← hN2] at HTe
                  have HN2 := Lib.hid hN2; clear hN2
                  have hNb : N2 ≤ 1000000000 := by have := HN2.out; omega
                  have p0 := blk_cell HPe.out 0 (Value.slice xa xn xc) rfl
                  have hec : ((13 : Int) == 13) = true := by simp
                  go_wp2_with fail
                  clear p0 hec
                  go_loopw [88] (fun i wz => ∃ j : Nat, i = .int .i64 j ∧ j ≤ xn ∧ Hid (Ext we wz)) (fun i _ => xn - (intOf i).toNat)
                  case atStart => exact ⟨0, rfl, Nat.zero_le _, Lib.hid (Ext.refl _)⟩
                  case round =>
                    obtain ⟨j, rfl, hj, HXJ⟩ := hrel
                    obtain ⟨wj, rfl⟩ : ∃ x : World, x = wr := ⟨_, rfl⟩
                    by_cases hjn : j < xn
                    · have hjL : j < xL.length := by have := HXN.out; omega
                      have HXwj := Lib.hid (HXe.out.trans HXJ.out)
                      obtain ⟨g2, off2, rfl, _, ⟨e0, e1, e2, e3⟩, _⟩ := (HOPW.out.ext HXwj.out).at hjL
                      generalize xL.getD j oz = y at e0 e1 e2 e3
                      obtain ⟨⟨kd, pt, ds, dt⟩, ⟨oa, oc⟩⟩ := y
                      simp only at e0 e1 e2 e3
                      go_upto_region 28 with fail
                      clear e0 e1 e2 e3
                      have hx_w8 : Ext wj (wj.alloc (.cells #[.int .i64 kd, .string (bs pt), .string (bs ds), .slice oa dt.length oc] 38)) := (Ext.alloc _ _)
                      have hf_O := heap_alloc_new wj (.cells #[.int .i64 kd, .string (bs pt), .string (bs ds), .slice oa dt.length oc] 38)
                      generalize wj.alloc (.cells #[.int .i64 kd, .string (bs pt), .string (bs ds), .slice oa dt.length oc] 38) = w8 at hx_w8 hf_O ⊢
                      obtain ⟨O, h_O⟩ : ∃ x, x = wj.heap.size := ⟨_, rfl⟩
                      rw [← h_O] at hf_O
                      try rw [← h_O]
                      have hs_O : wj.heap.size ≤ O := by omega
                      have HO8 := Lib.hid hf_O
                      have HX8 := Lib.hid (HXwj.out.trans hx_w8)
                      have HJ8 := Lib.hid (HXJ.out.trans hx_w8)
                      clear hf_O hx_w8 hs_O h_O HXwj
                      have o1 := blk_cell HO8.out 1 (Value.string (bs pt)) rfl
                      have hfi := at_Find pt (HE.out.ext HX8.out) (HTe.out.ext HJ8.out) hNb
                      have hlf := HLD.out.ent_find pt
                      obtain ⟨f, hf⟩ : ∃ z, z = findT T1 pt := ⟨_, rfl⟩
                      rw [← hf] at hfi hlf
                      have HFI := Lib.hid hfi
                      have HLF := Lib.hid hlf
                      clear hfi hlf hf
                      go_wp2_with (go_at_call 13; refine Hid.out ?_)
                      refine Lib.hid ?_
                      clear o1
                      refine HFI.out.mono ?_
                      rintro E w9 ⟨rfl, hx9⟩
                      have HJ9 := Lib.hid (HJ8.out.trans hx9)
                      have o1 := blk_cell (hx9.heap HO8.out) 1 (Value.string (bs pt)) rfl
                      clear hx9 HFI HX8
                      have hvc := HJ9.out.heap HVe.out
                      unfold refC at hvc
                      have v0 := blk_cell hvc 0 (Value.slice A.la m.list.length A.lc) rfl
                      have v1 := blk_cell hvc 1 (Value.slice A.fa m.files.length A.fc) rfl
                      have v2 := blk_cell hvc 2 (Value.int .i64 m.next) rfl
                      have v3 := blk_cell hvc 3 (Value.int .i64 m.quota) rfl
                      have hdlb := HDL.out.1
                      have hlb : m.list.length ≤ 1000000000 := by have := HLL.out.1; have := HXN.out; rw [HLL.out.1, List.length_map] at hdlb; omega
                      have hfr := ref_find m.list A.la A.lc A.fa m.files.length A.fc m.next m.quota pt w9 (HMe.out.ents.ext HJ9.out) (by omega)
                      have HFR := Lib.hid hfr
                      clear hfr hvc hdlb
                      go_upto_region 30 with (go_at_call 14; refine HFR.out.mono ?_; rintro E wa ⟨rfl, hxa⟩; have HJa := Lib.hid (HJ9.out.trans hxa); clear hxa)
                      clear v0 v1 v2 v3 o1 HFR
                      rcases findI_cases m.list pt with ⟨f1, f2⟩ | ⟨kk, f1, f2, f3, f4⟩
                      · have hf0 : f = 0 := by
                          have h := HLF.out
                          have h2 : entM m pt = none := f2
                          rw [h2] at h
                          by_cases hz : f = 0
                          · exact hz
                          · rw [if_neg hz] at h; cases h
                        rw [f1]
                        clear f1 f2
                        subst hf0
                        go_wp2_with fail
                        go_roundw
                        case rel => exact ⟨j + 1, by go_num, by omega, HJa⟩
                        case measure => simp [intOf]; omega
                      · have h3 : entM m pt = some (m.list.getD kk ez06) := f3
                        have hfz : f ≠ 0 ∧ (m.list.getD kk ez06).id = f := by
                          have h := HLF.out
                          rw [h3] at h
                          by_cases hz : f = 0
                          · rw [if_pos hz] at h; cases h
                          · rw [if_neg hz] at h
                            have h := Option.some.inj h
                            exact ⟨hz, by rw [h]⟩
                        obtain ⟨g3, off3, hla, _, _, d1, _⟩ := (HMe.out.ents.ext HJa.out).at f1
                        rw [hfz.2] at d1
                        have hz := hfz.1
                        have hd1 : decide (f ≠ 0) = true := decide_eq_true hz
                        have hd2 : (f == 0) = false := int_bne hz
                        have hff : (f == f) = true := by simp
                        have hvc := HJa.out.heap HVe.out
                        unfold refC at hvc
                        have v0 := blk_cell hvc 0 (Value.slice A.la m.list.length A.lc) rfl
                        rw [hla] at v0
                        have hg0 : decide ((0 : Int) ≤ (kk : Int)) = true := decide_eq_true (by omega)
                        have i0 : (0 : Int) ≤ (kk : Int) := by omega
                        have i1 : (kk : Int) < (m.list.length : Int) := by omega
                        rw [f2]
                        clear f2 f3 f4 h3 hfz hvc hla
                        go_wp2_with fail
                        go_roundw
                        case rel => exact ⟨j + 1, by go_num, by omega, HJa⟩
                        case measure => simp [intOf]; omega
                    · have HTj := Lib.hid (HTe.out.ext HXJ.out)
                      have HMj := Lib.hid (HMe.out.ext HXJ.out)
                      have HVj := Lib.hid (HXJ.out.heap HVe.out)
                      have HPj := Lib.hid (HXJ.out.heap HPe.out)
                      have HXj := Lib.hid (HXe.out.trans HXJ.out)
                      clear HTe HMe HVe HPe HXe HXJ
                      have hlr := HLD.out.reaps X
                      have hrp := at_Reap X ra rc HTj.out hlr.good (HRX.out.2.1.ext HXj.out) HRX.out.2.2 (by have := HRN.out; omega)
                      rw [← HRN.out] at hrp
                      have HRP := Lib.hid hrp
                      have HLR := Lib.hid hlr
                      clear hrp hlr
                      have p1 := blk_cell HPj.out 1 (Value.slice ra rn rc) rfl
                      go_wp2_with (go_at_call 15; refine Hid.out ?_)
                      refine Lib.hid ?_
                      clear p1
                      refine HRP.out.mono ?_
                      rintro E wf ⟨rfl, hTf, mbx, es, cl, hmap, hmb, hkf⟩
                      have hne : ∀ {cs : Array Value} {t : TypeId} {g : Nat}, wj.heap[g]? = some (.cells cs t (0, 0)) → g ≠ mbx := fun hg e => by rw [e, hmap] at hg; cases hg
                      have HTf := Lib.hid hTf
                      have HMf := Lib.hid (HMj.out.keep_map hkf hmap)
                      have HVf := Lib.hid (hkf.heap (hne HVj.out) HVj.out)
                      have HPf := Lib.hid (hkf.heap (hne HPj.out) HPj.out)
                      have HXf : Hid (Ext w wf) := Lib.hid ((Keep.of_ext (S := fun j => j < w.heap.size) HXj.out).andThen hkf (fun g hg _ => by have := HS.out; show g ≠ mbx; omega)).ext_lt
                      clear hTf hmap hmb hkf hne HTj HMj HVj HPj HXj HRP
                      have p1 := blk_cell HPf.out 1 (Value.slice ra rn rc) rfl
                      go_wp2_with fail
                      clear p1
                      go_loopw [136] (fun i wz => ∃ (j : Nat) (A3 : RefA), i = .int .i64 j ∧ j ≤ rn ∧ Hid (RefM wz (reapsM m (X.take j)) A3) ∧ Hid (wz.heap[V]? = some (.cells (refC (reapsM m (X.take j)) A3) 30 (0, 0))) ∧ Hid (Keep (· ≠ V) wf wz)) (fun i _ => rn - (intOf i).toNat)
                      case atStart => exact ⟨0, A, rfl, Nat.zero_le _, HMf, HVf, Lib.hid (Keep.refl _ _)⟩
                      case round =>
                        obtain ⟨i, A3, rfl, hi, HM3, HV3, HK3⟩ := hrel
                        obtain ⟨wi, rfl⟩ : ∃ x : World, x = wr := ⟨_, rfl⟩
                        have hxi : Ext w wi := ((Keep.of_ext (S := fun j => j < w.heap.size) HXf.out).andThen HK3.out (fun g hg _ => by have := HSV.out; show g ≠ V; omega)).ext_lt
                        have hdlb := HDL.out.1
                        have hlb : m.list.length ≤ 1000000000 := by rw [HLL.out.1, List.length_map] at hdlb; have := HXN.out; omega
                        have hfb : m.files.length ≤ 1000000000 := by have h1 := HLD.out.files_le; have h2 := HT1C.out; omega
                        have hvc := HV3.out
                        unfold refC at hvc
                        by_cases hin : i < rn
                        · have hiX : i < X.length := by have := HRN.out; omega
                          obtain ⟨g3, off3, rfl, x0⟩ := run_int (HRX.out.2.1.ext hxi) hiX
                          have hrt := reapsM_take m hiX
                          generalize X.getD i 0 = xi at x0 hrt
                          obtain ⟨f1, f2, f3⟩ := reapsM_facts (X.take i) m
                          have hrr := ref_reap (reapsM m (X.take i)) A3 xi wi HM3.out (by rw [f1]; omega) (by omega)
                          rw [← hrt] at hrr
                          unfold RefR at hrr
                          have HRR := Lib.hid hrr
                          obtain ⟨mi, hmi⟩ : ∃ z, z = reapsM m (X.take i) := ⟨_, rfl⟩
                          rw [← hmi] at HRR hvc
                          unfold refV at HRR
                          clear hrr hrt f1 f2 f3 hlb hfb hdlb hmi
                          have v0 := blk_cell hvc 0 (Value.slice A3.la mi.list.length A3.lc) rfl
                          have v1 := blk_cell hvc 1 (Value.slice A3.fa mi.files.length A3.fc) rfl
                          have v2 := blk_cell hvc 2 (Value.int .i64 mi.next) rfl
                          have v3 := blk_cell hvc 3 (Value.int .i64 mi.quota) rfl
                          have i2 : (0 : Int) ≤ (i : Int) := by omega
                          have i3 : (i : Int) < (rn : Int) := by omega
                          go_wp2_with (go_at_call 16; refine Hid.out ?_)
                          refine Lib.hid ?_
                          clear v0 v1 v2 v3 x0
                          refine HRR.out.mono ?_
                          rintro E wk ⟨A4, rfl, hM4, hxk⟩
                          obtain ⟨m4, hm4⟩ : ∃ z, z = reapsM m (X.take (i + 1)) := ⟨_, rfl⟩
                          rw [← hm4] at hM4 ⊢
                          have hvk := hxk.heap hvc
                          have v0 := blk_cell hvk 0 (Value.slice A3.la mi.list.length A3.lc) rfl
                          have v1 := blk_cell hvk 1 (Value.slice A3.fa mi.files.length A3.fc) rfl
                          have v2 := blk_cell hvk 2 (Value.int .i64 mi.next) rfl
                          have v3 := blk_cell hvk 3 (Value.int .i64 mi.quota) rfl
                          have g0 := blk_free hvk 0
                          have g1 := blk_free hvk 1
                          have g2 := blk_free hvk 2
                          have g3 := blk_free hvk 3
                          have hs4 := set4r hvk (.slice A4.la m4.list.length A4.lc) (.slice A4.fa m4.files.length A4.fc) (.int .i64 m4.next) (.int .i64 m4.quota)
                          have HS4 := Lib.hid (And.intro hs4 hvk)
                          have HM4 := Lib.hid hM4
                          have HKk := Lib.hid (HK3.out.andThen (Keep.of_ext (S := (· ≠ V)) hxk) (fun _ _ h => h))
                          have HE4 := Lib.hid hm4
                          clear hs4 hvk hM4 hxk hm4 hvc
                          go_wp2_with fail
                          go_roundw
                          case rel =>
                            refine ⟨i + 1, A4, by go_num, by omega, Lib.hid ?_, Lib.hid ?_, Lib.hid (HKk.out.andThen (Keep.of_but HS4.out.1.2) (fun _ _ h => h))⟩
                            · rw [← HE4.out]
                              exact HM4.out.keep_var (Keep.of_but HS4.out.1.2) HS4.out.2
                            · rw [← HE4.out]
                              exact HS4.out.1.1
                          case measure => simp [intOf]; omega
                        · have hXE : X.take i = X := List.take_of_length_le (by have := HRN.out; omega)
                          rw [hXE] at HM3 hvc HV3
                          obtain ⟨f1, f2, f3⟩ := reapsM_facts X m
                          have hti := HTf.out.keep_var HVf.out HK3.out
                          have hag := law_agree (reapsM m X) A3 wi (HE.out.ext hxi) hti HM3.out HLR.out hNb (by rw [f1]; omega) (by omega)
                          obtain ⟨m5, hm5⟩ : ∃ z, z = reapsM m X := ⟨_, rfl⟩
                          rw [← hm5] at hag hvc HM3 HV3
                          unfold refV at hag
                          have HAG := Lib.hid hag
                          have HTI := Lib.hid hti
                          have HXI := Lib.hid hxi
                          have HM5 := Lib.hid hm5
                          clear hag hti hxi hm5 hXE f1 f2 f3
                          have v0 := blk_cell hvc 0 (Value.slice A3.la m5.list.length A3.lc) rfl
                          have v1 := blk_cell hvc 1 (Value.slice A3.fa m5.files.length A3.fc) rfl
                          have v2 := blk_cell hvc 2 (Value.int .i64 m5.next) rfl
                          have v3 := blk_cell hvc 3 (Value.int .i64 m5.quota) rfl
                          go_wp2_with (go_at_call 17; refine HAG.out.mono ?_; rintro E wl ⟨rfl, hxl⟩; have HXL := Lib.hid hxl; clear hxl)
                          go_roundw
                          case rel =>
                            obtain ⟨f1, f2, f3⟩ := reapsM_facts X m
                            refine ⟨k + 1, reapsT T1 X, m5, A3, by go_num, by omega, Lib.hid ⟨(HTI.out.ext HXL.out).mono ?_, ?_⟩, Lib.hid ⟨?_, ?_, ?_⟩, Lib.hid (HM3.out.ext HXL.out), Lib.hid (HXL.out.heap HV3.out), Lib.hid (HXI.out.trans HXL.out)⟩
                            · rw [HN2.out, HND.out, HST.out.2.2, HST.out.2.2, HST.out.1, HXN.out]; omega
                            · exact Nat.le_trans (reapsT_count X T1) HT1C.out
                            · rw [HM5.out]; exact HLR.out
                            · rw [HM5.out, f3]; exact HDL.out.2
                            · rw [HM5.out, f1, HST.out.2.2, HST.out.1]
                              have h1 := HDL.out.1
                              have h2 := HLK.out.2.2
                              rw [HST.out.2.2] at h2
                              rw [HLL.out.1, List.length_map] at h1
                              omega
                          case measure => simp [intOf]; omega
                · have hd : decide (qv < (u : Int)) = false := decide_eq_false h3
                  have hdm : doM m l = (m1, 0) := by
                    unfold doM
                    rw [if_neg (by rw [← HLL.out.2.2]; simp), ← HLL.out.2.1, ← HNE.out, if_neg h2, ← HUE.out, HMQ.out, if_neg h3]
                  have hdr : (doT T l).2 = 0 := by rw [← HD2.out.1.1, hdm]
                  have hld := HD2.out.1.2
                  have hdl3 := HD2.out.2.1
                  have hqd3 := HD2.out.2.2
                  rw [hdm] at hld hdl3 hqd3
                  have HDR := Lib.hid hdr; have HLD := Lib.hid hld; have HDL := Lib.hid (And.intro hdl3 hqd3)
                  clear hdr hld hdl3 hqd3 hdm
                  have hyc := HYb.out
                  unfold refC at hyc
                  have y0 := blk_cell hyc 0 (Value.slice A2.la m1.list.length A2.lc) rfl
                  have y1 := blk_cell hyc 1 (Value.slice A2.fa m1.files.length A2.fc) rfl
                  have y2 := blk_cell hyc 2 (Value.int .i64 m1.next) rfl
                  have y3 := blk_cell hyc 3 (Value.int .i64 m1.quota) rfl
                  have hvc := HVb.out
                  unfold refC at hvc
                  have v0 := blk_cell hvc 0 (Value.slice A.la m.list.length A.lc) rfl
                  have v1 := blk_cell hvc 1 (Value.slice A.fa m.files.length A.fc) rfl
                  have v2 := blk_cell hvc 2 (Value.int .i64 m.next) rfl
                  have v3 := blk_cell hvc 3 (Value.int .i64 m.quota) rfl
                  have g0 := blk_free hvc 0
                  have g1 := blk_free hvc 1
                  have g2 := blk_free hvc 2
                  have g3 := blk_free hvc 3
                  have hs4 := set4r hvc (.slice A2.la m1.list.length A2.lc) (.slice A2.fa m1.files.length A2.fc) (.int .i64 m1.next) (.int .i64 m1.quota)
                  have HS4 := Lib.hid hs4; clear hs4 hvc hyc
                  go_upto_region 23 with fail
                  clear y0 y1 y2 y3 v0 v1 v2 v3 g0 g1 g2 g3
                  have hs4 := HS4.out
                  clear HS4
                  generalize (((wb.setCell ⟨V, 0, none⟩ (.slice A2.la m1.list.length A2.lc)).setCell ⟨V, 1, none⟩ (.slice A2.fa m1.files.length A2.fc)).setCell ⟨V, 2, none⟩ (.int .i64 m1.next)).setCell ⟨V, 3, none⟩ (.int .i64 m1.quota) = wd at hs4 ⊢
                  have HTd := Lib.hid (HTb.out.keep_var HVb.out (Keep.of_but hs4.2))
                  have HMd := Lib.hid (HM1b.out.keep_c (Keep.of_but hs4.2) HVb.out)
                  have HVd : Hid (wd.heap[V]? = some (.cells (refC m1 A2) 30 (0, 0))) := Lib.hid hs4.1
                  have HPd := Lib.hid ((Keep.of_but hs4.2).heap (fun e => apart_types HPb.out HVb.out (by decide) e) HPb.out)
                  have HXd : Hid (Ext w wd) := Lib.hid ((Keep.of_ext (S := fun j => j < w.heap.size) HXb.out).andThen (Keep.of_but hs4.2) (fun g hg _ => by have := HSV.out; show g ≠ V; omega)).ext_lt
                  clear hs4 HTb HMb HVb HPb HXb HYb HM1b
                  have hdo := at_Do xa xc xL (HE.out.ext HXd.out) HTd.out (HOPW.out.ext HXd.out) (by have := HXN.out; omega)
                  rw [← HLL.out.1, HDR.out, ← HXN.out] at hdo
                  have HDO := Lib.hid hdo; clear hdo
                  have hT1c : (doT T l).1.ids.length ≤ 128 := doT_count HT1.out l
                  obtain ⟨T1, hT1⟩ : ∃ z, z = (doT T l).1 := ⟨_, rfl⟩
                  rw [← hT1] at HDO HLD hT1c
                  have HT1C := Lib.hid hT1c
                  clear hT1 hT1c
                  have p0 := blk_cell HPd.out 0 (Value.slice xa xn xc) rfl
                  go_wp2_with (go_at_call 12; refine Hid.out ?_)
                  refine Lib.hid ?_
                  clear p0
                  refine HDO.out.mono ?_
                  rintro E we ⟨rfl, hTe, hke⟩
                  obtain ⟨mbx, htop⟩ := HTd.out.top
                  have hVne : V ≠ tb := fun e => apart_types HVd.out htop (by decide) e
                  have hPne : P ≠ tb := fun e => apart_types HPd.out htop (by decide) e
                  have HTe := Lib.hid hTe
                  have HMe := Lib.hid (HMd.out.keep_tree hke htop)
                  have HVe := Lib.hid (hke.heap hVne HVd.out)
                  have HPe := Lib.hid (hke.heap hPne HPd.out)
                  have HXe := Lib.hid (ext_do HXd.out (by have := HTd.out.low.1; have := HS.out; omega) hke)
                  clear hTe hke htop hVne hPne HDO HTd HMd HVd HPd HXd
                  obtain ⟨N2, hN2⟩ : ∃ z, z = N + 2 * xn := ⟨_, rfl⟩
                  rw [← hN2] at HTe
                  have HN2 := Lib.hid hN2; clear hN2
                  have hNb : N2 ≤ 1000000000 := by have := HN2.out; omega
                  have p0 := blk_cell HPe.out 0 (Value.slice xa xn xc) rfl
                  have hec : ((0 : Int) == 0) = true := by simp
                  go_wp2_with fail
                  clear p0 hec
                  go_loopw [88] (fun i wz => ∃ j : Nat, i = .int .i64 j ∧ j ≤ xn ∧ Hid (Ext we wz)) (fun i _ => xn - (intOf i).toNat)
                  case atStart => exact ⟨0, rfl, Nat.zero_le _, Lib.hid (Ext.refl _)⟩
                  case round =>
                    obtain ⟨j, rfl, hj, HXJ⟩ := hrel
                    obtain ⟨wj, rfl⟩ : ∃ x : World, x = wr := ⟨_, rfl⟩
                    by_cases hjn : j < xn
                    · have hjL : j < xL.length := by have := HXN.out; omega
                      have HXwj := Lib.hid (HXe.out.trans HXJ.out)
                      obtain ⟨g2, off2, rfl, _, ⟨e0, e1, e2, e3⟩, _⟩ := (HOPW.out.ext HXwj.out).at hjL
                      generalize xL.getD j oz = y at e0 e1 e2 e3
                      obtain ⟨⟨kd, pt, ds, dt⟩, ⟨oa, oc⟩⟩ := y
                      simp only at e0 e1 e2 e3
                      go_upto_region 28 with fail
                      clear e0 e1 e2 e3
                      have hx_w8 : Ext wj (wj.alloc (.cells #[.int .i64 kd, .string (bs pt), .string (bs ds), .slice oa dt.length oc] 38)) := (Ext.alloc _ _)
                      have hf_O := heap_alloc_new wj (.cells #[.int .i64 kd, .string (bs pt), .string (bs ds), .slice oa dt.length oc] 38)
                      generalize wj.alloc (.cells #[.int .i64 kd, .string (bs pt), .string (bs ds), .slice oa dt.length oc] 38) = w8 at hx_w8 hf_O ⊢
                      obtain ⟨O, h_O⟩ : ∃ x, x = wj.heap.size := ⟨_, rfl⟩
                      rw [← h_O] at hf_O
                      try rw [← h_O]
                      have hs_O : wj.heap.size ≤ O := by omega
                      have HO8 := Lib.hid hf_O
                      have HX8 := Lib.hid (HXwj.out.trans hx_w8)
                      have HJ8 := Lib.hid (HXJ.out.trans hx_w8)
                      clear hf_O hx_w8 hs_O h_O HXwj
                      have o1 := blk_cell HO8.out 1 (Value.string (bs pt)) rfl
                      have hfi := at_Find pt (HE.out.ext HX8.out) (HTe.out.ext HJ8.out) hNb
                      have hlf := HLD.out.ent_find pt
                      obtain ⟨f, hf⟩ : ∃ z, z = findT T1 pt := ⟨_, rfl⟩
                      rw [← hf] at hfi hlf
                      have HFI := Lib.hid hfi
                      have HLF := Lib.hid hlf
                      clear hfi hlf hf
                      go_wp2_with (go_at_call 13; refine Hid.out ?_)
                      refine Lib.hid ?_
                      clear o1
                      refine HFI.out.mono ?_
                      rintro E w9 ⟨rfl, hx9⟩
                      have HJ9 := Lib.hid (HJ8.out.trans hx9)
                      have o1 := blk_cell (hx9.heap HO8.out) 1 (Value.string (bs pt)) rfl
                      clear hx9 HFI HX8
                      have hvc := HJ9.out.heap HVe.out
                      unfold refC at hvc
                      have v0 := blk_cell hvc 0 (Value.slice A2.la m1.list.length A2.lc) rfl
                      have v1 := blk_cell hvc 1 (Value.slice A2.fa m1.files.length A2.fc) rfl
                      have v2 := blk_cell hvc 2 (Value.int .i64 m1.next) rfl
                      have v3 := blk_cell hvc 3 (Value.int .i64 m1.quota) rfl
                      have hdlb := HDL.out.1
                      have hlb : m1.list.length ≤ 1000000000 := by have := HLL.out.1; have := HXN.out; rw [HLL.out.1, List.length_map] at hdlb; omega
                      have hfr := ref_find m1.list A2.la A2.lc A2.fa m1.files.length A2.fc m1.next m1.quota pt w9 (HMe.out.ents.ext HJ9.out) (by omega)
                      have HFR := Lib.hid hfr
                      clear hfr hvc hdlb
                      go_upto_region 30 with (go_at_call 14; refine HFR.out.mono ?_; rintro E wa ⟨rfl, hxa⟩; have HJa := Lib.hid (HJ9.out.trans hxa); clear hxa)
                      clear v0 v1 v2 v3 o1 HFR
                      rcases findI_cases m1.list pt with ⟨f1, f2⟩ | ⟨kk, f1, f2, f3, f4⟩
                      · have hf0 : f = 0 := by
                          have h := HLF.out
                          have h2 : entM m1 pt = none := f2
                          rw [h2] at h
                          by_cases hz : f = 0
                          · exact hz
                          · rw [if_neg hz] at h; cases h
                        rw [f1]
                        clear f1 f2
                        subst hf0
                        go_wp2_with fail
                        go_roundw
                        case rel => exact ⟨j + 1, by go_num, by omega, HJa⟩
                        case measure => simp [intOf]; omega
                      · have h3 : entM m1 pt = some (m1.list.getD kk ez06) := f3
                        have hfz : f ≠ 0 ∧ (m1.list.getD kk ez06).id = f := by
                          have h := HLF.out
                          rw [h3] at h
                          by_cases hz : f = 0
                          · rw [if_pos hz] at h; cases h
                          · rw [if_neg hz] at h
                            have h := Option.some.inj h
                            exact ⟨hz, by rw [h]⟩
                        obtain ⟨g3, off3, hla, _, _, d1, _⟩ := (HMe.out.ents.ext HJa.out).at f1
                        rw [hfz.2] at d1
                        have hz := hfz.1
                        have hd1 : decide (f ≠ 0) = true := decide_eq_true hz
                        have hd2 : (f == 0) = false := int_bne hz
                        have hff : (f == f) = true := by simp
                        have hvc := HJa.out.heap HVe.out
                        unfold refC at hvc
                        have v0 := blk_cell hvc 0 (Value.slice A2.la m1.list.length A2.lc) rfl
                        rw [hla] at v0
                        have hg0 : decide ((0 : Int) ≤ (kk : Int)) = true := decide_eq_true (by omega)
                        have i0 : (0 : Int) ≤ (kk : Int) := by omega
                        have i1 : (kk : Int) < (m1.list.length : Int) := by omega
                        rw [f2]
                        clear f2 f3 f4 h3 hfz hvc hla
                        go_wp2_with fail
                        go_roundw
                        case rel => exact ⟨j + 1, by go_num, by omega, HJa⟩
                        case measure => simp [intOf]; omega
                    · have HTj := Lib.hid (HTe.out.ext HXJ.out)
                      have HMj := Lib.hid (HMe.out.ext HXJ.out)
                      have HVj := Lib.hid (HXJ.out.heap HVe.out)
                      have HPj := Lib.hid (HXJ.out.heap HPe.out)
                      have HXj := Lib.hid (HXe.out.trans HXJ.out)
                      clear HTe HMe HVe HPe HXe HXJ
                      have hlr := HLD.out.reaps X
                      have hrp := at_Reap X ra rc HTj.out hlr.good (HRX.out.2.1.ext HXj.out) HRX.out.2.2 (by have := HRN.out; omega)
                      rw [← HRN.out] at hrp
                      have HRP := Lib.hid hrp
                      have HLR := Lib.hid hlr
                      clear hrp hlr
                      have p1 := blk_cell HPj.out 1 (Value.slice ra rn rc) rfl
                      go_wp2_with (go_at_call 15; refine Hid.out ?_)
                      refine Lib.hid ?_
                      clear p1
                      refine HRP.out.mono ?_
                      rintro E wf ⟨rfl, hTf, mbx, es, cl, hmap, hmb, hkf⟩
                      have hne : ∀ {cs : Array Value} {t : TypeId} {g : Nat}, wj.heap[g]? = some (.cells cs t (0, 0)) → g ≠ mbx := fun hg e => by rw [e, hmap] at hg; cases hg
                      have HTf := Lib.hid hTf
                      have HMf := Lib.hid (HMj.out.keep_map hkf hmap)
                      have HVf := Lib.hid (hkf.heap (hne HVj.out) HVj.out)
                      have HPf := Lib.hid (hkf.heap (hne HPj.out) HPj.out)
                      have HXf : Hid (Ext w wf) := Lib.hid ((Keep.of_ext (S := fun j => j < w.heap.size) HXj.out).andThen hkf (fun g hg _ => by have := HS.out; show g ≠ mbx; omega)).ext_lt
                      clear hTf hmap hmb hkf hne HTj HMj HVj HPj HXj HRP
                      have p1 := blk_cell HPf.out 1 (Value.slice ra rn rc) rfl
                      go_wp2_with fail
                      clear p1
                      go_loopw [136] (fun i wz => ∃ (j : Nat) (A3 : RefA), i = .int .i64 j ∧ j ≤ rn ∧ Hid (RefM wz (reapsM m1 (X.take j)) A3) ∧ Hid (wz.heap[V]? = some (.cells (refC (reapsM m1 (X.take j)) A3) 30 (0, 0))) ∧ Hid (Keep (· ≠ V) wf wz)) (fun i _ => rn - (intOf i).toNat)
                      case atStart => exact ⟨0, A2, rfl, Nat.zero_le _, HMf, HVf, Lib.hid (Keep.refl _ _)⟩
                      case round =>
                        obtain ⟨i, A3, rfl, hi, HM3, HV3, HK3⟩ := hrel
                        obtain ⟨wi, rfl⟩ : ∃ x : World, x = wr := ⟨_, rfl⟩
                        have hxi : Ext w wi := ((Keep.of_ext (S := fun j => j < w.heap.size) HXf.out).andThen HK3.out (fun g hg _ => by have := HSV.out; show g ≠ V; omega)).ext_lt
                        have hdlb := HDL.out.1
                        have hlb : m1.list.length ≤ 1000000000 := by rw [HLL.out.1, List.length_map] at hdlb; have := HXN.out; omega
                        have hfb : m1.files.length ≤ 1000000000 := by have h1 := HLD.out.files_le; have h2 := HT1C.out; omega
                        have hvc := HV3.out
                        unfold refC at hvc
                        by_cases hin : i < rn
                        · have hiX : i < X.length := by have := HRN.out; omega
                          obtain ⟨g3, off3, rfl, x0⟩ := run_int (HRX.out.2.1.ext hxi) hiX
                          have hrt := reapsM_take m1 hiX
                          generalize X.getD i 0 = xi at x0 hrt
                          obtain ⟨f1, f2, f3⟩ := reapsM_facts (X.take i) m1
                          have hrr := ref_reap (reapsM m1 (X.take i)) A3 xi wi HM3.out (by rw [f1]; omega) (by omega)
                          rw [← hrt] at hrr
                          unfold RefR at hrr
                          have HRR := Lib.hid hrr
                          obtain ⟨mi, hmi⟩ : ∃ z, z = reapsM m1 (X.take i) := ⟨_, rfl⟩
                          rw [← hmi] at HRR hvc
                          unfold refV at HRR
                          clear hrr hrt f1 f2 f3 hlb hfb hdlb hmi
                          have v0 := blk_cell hvc 0 (Value.slice A3.la mi.list.length A3.lc) rfl
                          have v1 := blk_cell hvc 1 (Value.slice A3.fa mi.files.length A3.fc) rfl
                          have v2 := blk_cell hvc 2 (Value.int .i64 mi.next) rfl
                          have v3 := blk_cell hvc 3 (Value.int .i64 mi.quota) rfl
                          have i2 : (0 : Int) ≤ (i : Int) := by omega
                          have i3 : (i : Int) < (rn : Int) := by omega
                          go_wp2_with (go_at_call 16; refine Hid.out ?_)
                          refine Lib.hid ?_
                          clear v0 v1 v2 v3 x0
                          refine HRR.out.mono ?_
                          rintro E wk ⟨A4, rfl, hM4, hxk⟩
                          obtain ⟨m4, hm4⟩ : ∃ z, z = reapsM m1 (X.take (i + 1)) := ⟨_, rfl⟩
                          rw [← hm4] at hM4 ⊢
                          have hvk := hxk.heap hvc
                          have v0 := blk_cell hvk 0 (Value.slice A3.la mi.list.length A3.lc) rfl
                          have v1 := blk_cell hvk 1 (Value.slice A3.fa mi.files.length A3.fc) rfl
                          have v2 := blk_cell hvk 2 (Value.int .i64 mi.next) rfl
                          have v3 := blk_cell hvk 3 (Value.int .i64 mi.quota) rfl
                          have g0 := blk_free hvk 0
                          have g1 := blk_free hvk 1
                          have g2 := blk_free hvk 2
                          have g3 := blk_free hvk 3
                          have hs4 := set4r hvk (.slice A4.la m4.list.length A4.lc) (.slice A4.fa m4.files.length A4.fc) (.int .i64 m4.next) (.int .i64 m4.quota)
                          have HS4 := Lib.hid (And.intro hs4 hvk)
                          have HM4 := Lib.hid hM4
                          have HKk := Lib.hid (HK3.out.andThen (Keep.of_ext (S := (· ≠ V)) hxk) (fun _ _ h => h))
                          have HE4 := Lib.hid hm4
                          clear hs4 hvk hM4 hxk hm4 hvc
                          go_wp2_with fail
                          go_roundw
                          case rel =>
                            refine ⟨i + 1, A4, by go_num, by omega, Lib.hid ?_, Lib.hid ?_, Lib.hid (HKk.out.andThen (Keep.of_but HS4.out.1.2) (fun _ _ h => h))⟩
                            · rw [← HE4.out]
                              exact HM4.out.keep_var (Keep.of_but HS4.out.1.2) HS4.out.2
                            · rw [← HE4.out]
                              exact HS4.out.1.1
                          case measure => simp [intOf]; omega
                        · have hXE : X.take i = X := List.take_of_length_le (by have := HRN.out; omega)
                          rw [hXE] at HM3 hvc HV3
                          obtain ⟨f1, f2, f3⟩ := reapsM_facts X m1
                          have hti := HTf.out.keep_var HVf.out HK3.out
                          have hag := law_agree (reapsM m1 X) A3 wi (HE.out.ext hxi) hti HM3.out HLR.out hNb (by rw [f1]; omega) (by omega)
                          obtain ⟨m5, hm5⟩ : ∃ z, z = reapsM m1 X := ⟨_, rfl⟩
                          rw [← hm5] at hag hvc HM3 HV3
                          unfold refV at hag
                          have HAG := Lib.hid hag
                          have HTI := Lib.hid hti
                          have HXI := Lib.hid hxi
                          have HM5 := Lib.hid hm5
                          clear hag hti hxi hm5 hXE f1 f2 f3
                          have v0 := blk_cell hvc 0 (Value.slice A3.la m5.list.length A3.lc) rfl
                          have v1 := blk_cell hvc 1 (Value.slice A3.fa m5.files.length A3.fc) rfl
                          have v2 := blk_cell hvc 2 (Value.int .i64 m5.next) rfl
                          have v3 := blk_cell hvc 3 (Value.int .i64 m5.quota) rfl
                          go_wp2_with (go_at_call 17; refine HAG.out.mono ?_; rintro E wl ⟨rfl, hxl⟩; have HXL := Lib.hid hxl; clear hxl)
                          go_roundw
                          case rel =>
                            obtain ⟨f1, f2, f3⟩ := reapsM_facts X m1
                            refine ⟨k + 1, reapsT T1 X, m5, A3, by go_num, by omega, Lib.hid ⟨(HTI.out.ext HXL.out).mono ?_, ?_⟩, Lib.hid ⟨?_, ?_, ?_⟩, Lib.hid (HM3.out.ext HXL.out), Lib.hid (HXL.out.heap HV3.out), Lib.hid (HXI.out.trans HXL.out)⟩
                            · rw [HN2.out, HND.out, HST.out.2.2, HST.out.2.2, HST.out.1, HXN.out]; omega
                            · exact Nat.le_trans (reapsT_count X T1) HT1C.out
                            · rw [HM5.out]; exact HLR.out
                            · rw [HM5.out, f3]; exact HDL.out.2
                            · rw [HM5.out, f1, HST.out.2.2, HST.out.1]
                              have h1 := HDL.out.1
                              have h2 := HLK.out.2.2
                              rw [HST.out.2.2] at h2
                              rw [HLL.out.1, List.length_map] at h1
                              omega
                          case measure => simp [intOf]; omega
            · have hb := int_bne h1
              have hdm : doM m l = (m, c1) := by
                unfold doM
                rw [if_pos (by rw [← HLL.out.2.2]; exact h1), ← HLL.out.2.2]
              have hdr : (doT T l).2 = c1 := by rw [← HD2.out.1.1, hdm]
              have hld := HD2.out.1.2
              have hdl3 := HD2.out.2.1
              have hqd3 := HD2.out.2.2
              rw [hdm] at hld hdl3 hqd3
              have HDR := Lib.hid hdr; have HLD := Lib.hid hld; have HDL := Lib.hid (And.intro hdl3 hqd3)
              clear hdr hld hdl3 hqd3 hdm HM2 HY2
              go_upto_region 23 with fail
              have hdo := at_Do xa xc xL (HE.out.ext HXz.out) HTz.out (HOPW.out.ext HXz.out) (by have := HXN.out; omega)
              rw [← HLL.out.1, HDR.out, ← HXN.out] at hdo
              have HDO := Lib.hid hdo; clear hdo
              have hT1c : (doT T l).1.ids.length ≤ 128 := doT_count HT1.out l
              obtain ⟨T1, hT1⟩ : ∃ z, z = (doT T l).1 := ⟨_, rfl⟩
              rw [← hT1] at HDO HLD hT1c
              have HT1C := Lib.hid hT1c
              clear hT1 hT1c
              have p0 := blk_cell HPz.out 0 (Value.slice xa xn xc) rfl
              go_wp2_with (go_at_call 12; refine Hid.out ?_)
              refine Lib.hid ?_
              clear p0
              refine HDO.out.mono ?_
              rintro E we ⟨rfl, hTe, hke⟩
              obtain ⟨mbx, htop⟩ := HTz.out.top
              have hVne : V ≠ tb := fun e => apart_types HVz.out htop (by decide) e
              have hPne : P ≠ tb := fun e => apart_types HPz.out htop (by decide) e
              have HTe := Lib.hid hTe
              have HMe := Lib.hid (HMz.out.keep_tree hke htop)
              have HVe := Lib.hid (hke.heap hVne HVz.out)
              have HPe := Lib.hid (hke.heap hPne HPz.out)
              have HXe := Lib.hid (ext_do HXz.out (by have := HTz.out.low.1; have := HS.out; omega) hke)
              clear hTe hke htop hVne hPne HDO HTz HMz HVz HPz HXz
              obtain ⟨N2, hN2⟩ : ∃ z, z = N + 2 * xn := ⟨_, rfl⟩
              rw [← hN2] at HTe
              have HN2 := Lib.hid hN2; clear hN2
              have hNb : N2 ≤ 1000000000 := by have := HN2.out; omega
              have p0 := blk_cell HPe.out 0 (Value.slice xa xn xc) rfl
              have hec : ((c1 : Int) == c1) = true := by simp
              go_wp2_with fail
              clear p0 hec
              go_loopw [88] (fun i wz => ∃ j : Nat, i = .int .i64 j ∧ j ≤ xn ∧ Hid (Ext we wz)) (fun i _ => xn - (intOf i).toNat)
              case atStart => exact ⟨0, rfl, Nat.zero_le _, Lib.hid (Ext.refl _)⟩
              case round =>
                obtain ⟨j, rfl, hj, HXJ⟩ := hrel
                obtain ⟨wj, rfl⟩ : ∃ x : World, x = wr := ⟨_, rfl⟩
                by_cases hjn : j < xn
                · have hjL : j < xL.length := by have := HXN.out; omega
                  have HXwj := Lib.hid (HXe.out.trans HXJ.out)
                  obtain ⟨g2, off2, rfl, _, ⟨e0, e1, e2, e3⟩, _⟩ := (HOPW.out.ext HXwj.out).at hjL
                  generalize xL.getD j oz = y at e0 e1 e2 e3
                  obtain ⟨⟨kd, pt, ds, dt⟩, ⟨oa, oc⟩⟩ := y
                  simp only at e0 e1 e2 e3
                  go_upto_region 28 with fail
                  clear e0 e1 e2 e3
                  have hx_w8 : Ext wj (wj.alloc (.cells #[.int .i64 kd, .string (bs pt), .string (bs ds), .slice oa dt.length oc] 38)) := (Ext.alloc _ _)
                  have hf_O := heap_alloc_new wj (.cells #[.int .i64 kd, .string (bs pt), .string (bs ds), .slice oa dt.length oc] 38)
                  generalize wj.alloc (.cells #[.int .i64 kd, .string (bs pt), .string (bs ds), .slice oa dt.length oc] 38) = w8 at hx_w8 hf_O ⊢
                  obtain ⟨O, h_O⟩ : ∃ x, x = wj.heap.size := ⟨_, rfl⟩
                  rw [← h_O] at hf_O
                  try rw [← h_O]
                  have hs_O : wj.heap.size ≤ O := by omega
                  have HO8 := Lib.hid hf_O
                  have HX8 := Lib.hid (HXwj.out.trans hx_w8)
                  have HJ8 := Lib.hid (HXJ.out.trans hx_w8)
                  clear hf_O hx_w8 hs_O h_O HXwj
                  have o1 := blk_cell HO8.out 1 (Value.string (bs pt)) rfl
                  have hfi := at_Find pt (HE.out.ext HX8.out) (HTe.out.ext HJ8.out) hNb
                  have hlf := HLD.out.ent_find pt
                  obtain ⟨f, hf⟩ : ∃ z, z = findT T1 pt := ⟨_, rfl⟩
                  rw [← hf] at hfi hlf
                  have HFI := Lib.hid hfi
                  have HLF := Lib.hid hlf
                  clear hfi hlf hf
                  go_wp2_with (go_at_call 13; refine Hid.out ?_)
                  refine Lib.hid ?_
                  clear o1
                  refine HFI.out.mono ?_
                  rintro E w9 ⟨rfl, hx9⟩
                  have HJ9 := Lib.hid (HJ8.out.trans hx9)
                  have o1 := blk_cell (hx9.heap HO8.out) 1 (Value.string (bs pt)) rfl
                  clear hx9 HFI HX8
                  have hvc := HJ9.out.heap HVe.out
                  unfold refC at hvc
                  have v0 := blk_cell hvc 0 (Value.slice A.la m.list.length A.lc) rfl
                  have v1 := blk_cell hvc 1 (Value.slice A.fa m.files.length A.fc) rfl
                  have v2 := blk_cell hvc 2 (Value.int .i64 m.next) rfl
                  have v3 := blk_cell hvc 3 (Value.int .i64 m.quota) rfl
                  have hdlb := HDL.out.1
                  have hlb : m.list.length ≤ 1000000000 := by have := HLL.out.1; have := HXN.out; rw [HLL.out.1, List.length_map] at hdlb; omega
                  have hfr := ref_find m.list A.la A.lc A.fa m.files.length A.fc m.next m.quota pt w9 (HMe.out.ents.ext HJ9.out) (by omega)
                  have HFR := Lib.hid hfr
                  clear hfr hvc hdlb
                  go_upto_region 30 with (go_at_call 14; refine HFR.out.mono ?_; rintro E wa ⟨rfl, hxa⟩; have HJa := Lib.hid (HJ9.out.trans hxa); clear hxa)
                  clear v0 v1 v2 v3 o1 HFR
                  rcases findI_cases m.list pt with ⟨f1, f2⟩ | ⟨kk, f1, f2, f3, f4⟩
                  · have hf0 : f = 0 := by
                      have h := HLF.out
                      have h2 : entM m pt = none := f2
                      rw [h2] at h
                      by_cases hz : f = 0
                      · exact hz
                      · rw [if_neg hz] at h; cases h
                    rw [f1]
                    clear f1 f2
                    subst hf0
                    go_wp2_with fail
                    go_roundw
                    case rel => exact ⟨j + 1, by go_num, by omega, HJa⟩
                    case measure => simp [intOf]; omega
                  · have h3 : entM m pt = some (m.list.getD kk ez06) := f3
                    have hfz : f ≠ 0 ∧ (m.list.getD kk ez06).id = f := by
                      have h := HLF.out
                      rw [h3] at h
                      by_cases hz : f = 0
                      · rw [if_pos hz] at h; cases h
                      · rw [if_neg hz] at h
                        have h := Option.some.inj h
                        exact ⟨hz, by rw [h]⟩
                    obtain ⟨g3, off3, hla, _, _, d1, _⟩ := (HMe.out.ents.ext HJa.out).at f1
                    rw [hfz.2] at d1
                    have hz := hfz.1
                    have hd1 : decide (f ≠ 0) = true := decide_eq_true hz
                    have hd2 : (f == 0) = false := int_bne hz
                    have hff : (f == f) = true := by simp
                    have hvc := HJa.out.heap HVe.out
                    unfold refC at hvc
                    have v0 := blk_cell hvc 0 (Value.slice A.la m.list.length A.lc) rfl
                    rw [hla] at v0
                    have hg0 : decide ((0 : Int) ≤ (kk : Int)) = true := decide_eq_true (by omega)
                    have i0 : (0 : Int) ≤ (kk : Int) := by omega
                    have i1 : (kk : Int) < (m.list.length : Int) := by omega
                    rw [f2]
                    clear f2 f3 f4 h3 hfz hvc hla
                    go_wp2_with fail
                    go_roundw
                    case rel => exact ⟨j + 1, by go_num, by omega, HJa⟩
                    case measure => simp [intOf]; omega
                · have HTj := Lib.hid (HTe.out.ext HXJ.out)
                  have HMj := Lib.hid (HMe.out.ext HXJ.out)
                  have HVj := Lib.hid (HXJ.out.heap HVe.out)
                  have HPj := Lib.hid (HXJ.out.heap HPe.out)
                  have HXj := Lib.hid (HXe.out.trans HXJ.out)
                  clear HTe HMe HVe HPe HXe HXJ
                  have hlr := HLD.out.reaps X
                  have hrp := at_Reap X ra rc HTj.out hlr.good (HRX.out.2.1.ext HXj.out) HRX.out.2.2 (by have := HRN.out; omega)
                  rw [← HRN.out] at hrp
                  have HRP := Lib.hid hrp
                  have HLR := Lib.hid hlr
                  clear hrp hlr
                  have p1 := blk_cell HPj.out 1 (Value.slice ra rn rc) rfl
                  go_wp2_with (go_at_call 15; refine Hid.out ?_)
                  refine Lib.hid ?_
                  clear p1
                  refine HRP.out.mono ?_
                  rintro E wf ⟨rfl, hTf, mbx, es, cl, hmap, hmb, hkf⟩
                  have hne : ∀ {cs : Array Value} {t : TypeId} {g : Nat}, wj.heap[g]? = some (.cells cs t (0, 0)) → g ≠ mbx := fun hg e => by rw [e, hmap] at hg; cases hg
                  have HTf := Lib.hid hTf
                  have HMf := Lib.hid (HMj.out.keep_map hkf hmap)
                  have HVf := Lib.hid (hkf.heap (hne HVj.out) HVj.out)
                  have HPf := Lib.hid (hkf.heap (hne HPj.out) HPj.out)
                  have HXf : Hid (Ext w wf) := Lib.hid ((Keep.of_ext (S := fun j => j < w.heap.size) HXj.out).andThen hkf (fun g hg _ => by have := HS.out; show g ≠ mbx; omega)).ext_lt
                  clear hTf hmap hmb hkf hne HTj HMj HVj HPj HXj HRP
                  have p1 := blk_cell HPf.out 1 (Value.slice ra rn rc) rfl
                  go_wp2_with fail
                  clear p1
                  go_loopw [136] (fun i wz => ∃ (j : Nat) (A3 : RefA), i = .int .i64 j ∧ j ≤ rn ∧ Hid (RefM wz (reapsM m (X.take j)) A3) ∧ Hid (wz.heap[V]? = some (.cells (refC (reapsM m (X.take j)) A3) 30 (0, 0))) ∧ Hid (Keep (· ≠ V) wf wz)) (fun i _ => rn - (intOf i).toNat)
                  case atStart => exact ⟨0, A, rfl, Nat.zero_le _, HMf, HVf, Lib.hid (Keep.refl _ _)⟩
                  case round =>
                    obtain ⟨i, A3, rfl, hi, HM3, HV3, HK3⟩ := hrel
                    obtain ⟨wi, rfl⟩ : ∃ x : World, x = wr := ⟨_, rfl⟩
                    have hxi : Ext w wi := ((Keep.of_ext (S := fun j => j < w.heap.size) HXf.out).andThen HK3.out (fun g hg _ => by have := HSV.out; show g ≠ V; omega)).ext_lt
                    have hdlb := HDL.out.1
                    have hlb : m.list.length ≤ 1000000000 := by rw [HLL.out.1, List.length_map] at hdlb; have := HXN.out; omega
                    have hfb : m.files.length ≤ 1000000000 := by have h1 := HLD.out.files_le; have h2 := HT1C.out; omega
                    have hvc := HV3.out
                    unfold refC at hvc
                    by_cases hin : i < rn
                    · have hiX : i < X.length := by have := HRN.out; omega
                      obtain ⟨g3, off3, rfl, x0⟩ := run_int (HRX.out.2.1.ext hxi) hiX
                      have hrt := reapsM_take m hiX
                      generalize X.getD i 0 = xi at x0 hrt
                      obtain ⟨f1, f2, f3⟩ := reapsM_facts (X.take i) m
                      have hrr := ref_reap (reapsM m (X.take i)) A3 xi wi HM3.out (by rw [f1]; omega) (by omega)
                      rw [← hrt] at hrr
                      unfold RefR at hrr
                      have HRR := Lib.hid hrr
                      obtain ⟨mi, hmi⟩ : ∃ z, z = reapsM m (X.take i) := ⟨_, rfl⟩
                      rw [← hmi] at HRR hvc
                      unfold refV at HRR
                      clear hrr hrt f1 f2 f3 hlb hfb hdlb hmi
                      have v0 := blk_cell hvc 0 (Value.slice A3.la mi.list.length A3.lc) rfl
                      have v1 := blk_cell hvc 1 (Value.slice A3.fa mi.files.length A3.fc) rfl
                      have v2 := blk_cell hvc 2 (Value.int .i64 mi.next) rfl
                      have v3 := blk_cell hvc 3 (Value.int .i64 mi.quota) rfl
                      have i2 : (0 : Int) ≤ (i : Int) := by omega
                      have i3 : (i : Int) < (rn : Int) := by omega
                      go_wp2_with (go_at_call 16; refine Hid.out ?_)
                      refine Lib.hid ?_
                      clear v0 v1 v2 v3 x0
                      refine HRR.out.mono ?_
                      rintro E wk ⟨A4, rfl, hM4, hxk⟩
                      obtain ⟨m4, hm4⟩ : ∃ z, z = reapsM m (X.take (i + 1)) := ⟨_, rfl⟩
                      rw [← hm4] at hM4 ⊢
                      have hvk := hxk.heap hvc
                      have v0 := blk_cell hvk 0 (Value.slice A3.la mi.list.length A3.lc) rfl
                      have v1 := blk_cell hvk 1 (Value.slice A3.fa mi.files.length A3.fc) rfl
                      have v2 := blk_cell hvk 2 (Value.int .i64 mi.next) rfl
                      have v3 := blk_cell hvk 3 (Value.int .i64 mi.quota) rfl
                      have g0 := blk_free hvk 0
                      have g1 := blk_free hvk 1
                      have g2 := blk_free hvk 2
                      have g3 := blk_free hvk 3
                      have hs4 := set4r hvk (.slice A4.la m4.list.length A4.lc) (.slice A4.fa m4.files.length A4.fc) (.int .i64 m4.next) (.int .i64 m4.quota)
                      have HS4 := Lib.hid (And.intro hs4 hvk)
                      have HM4 := Lib.hid hM4
                      have HKk := Lib.hid (HK3.out.andThen (Keep.of_ext (S := (· ≠ V)) hxk) (fun _ _ h => h))
                      have HE4 := Lib.hid hm4
                      clear hs4 hvk hM4 hxk hm4 hvc
                      go_wp2_with fail
                      go_roundw
                      case rel =>
                        refine ⟨i + 1, A4, by go_num, by omega, Lib.hid ?_, Lib.hid ?_, Lib.hid (HKk.out.andThen (Keep.of_but HS4.out.1.2) (fun _ _ h => h))⟩
                        · rw [← HE4.out]
                          exact HM4.out.keep_var (Keep.of_but HS4.out.1.2) HS4.out.2
                        · rw [← HE4.out]
                          exact HS4.out.1.1
                      case measure => simp [intOf]; omega
                    · have hXE : X.take i = X := List.take_of_length_le (by have := HRN.out; omega)
                      rw [hXE] at HM3 hvc HV3
                      obtain ⟨f1, f2, f3⟩ := reapsM_facts X m
                      have hti := HTf.out.keep_var HVf.out HK3.out
                      have hag := law_agree (reapsM m X) A3 wi (HE.out.ext hxi) hti HM3.out HLR.out hNb (by rw [f1]; omega) (by omega)
                      obtain ⟨m5, hm5⟩ : ∃ z, z = reapsM m X := ⟨_, rfl⟩
                      rw [← hm5] at hag hvc HM3 HV3
                      unfold refV at hag
                      have HAG := Lib.hid hag
                      have HTI := Lib.hid hti
                      have HXI := Lib.hid hxi
                      have HM5 := Lib.hid hm5
                      clear hag hti hxi hm5 hXE f1 f2 f3
                      have v0 := blk_cell hvc 0 (Value.slice A3.la m5.list.length A3.lc) rfl
                      have v1 := blk_cell hvc 1 (Value.slice A3.fa m5.files.length A3.fc) rfl
                      have v2 := blk_cell hvc 2 (Value.int .i64 m5.next) rfl
                      have v3 := blk_cell hvc 3 (Value.int .i64 m5.quota) rfl
                      go_wp2_with (go_at_call 17; refine HAG.out.mono ?_; rintro E wl ⟨rfl, hxl⟩; have HXL := Lib.hid hxl; clear hxl)
                      go_roundw
                      case rel =>
                        obtain ⟨f1, f2, f3⟩ := reapsM_facts X m
                        refine ⟨k + 1, reapsT T1 X, m5, A3, by go_num, by omega, Lib.hid ⟨(HTI.out.ext HXL.out).mono ?_, ?_⟩, Lib.hid ⟨?_, ?_, ?_⟩, Lib.hid (HM3.out.ext HXL.out), Lib.hid (HXL.out.heap HV3.out), Lib.hid (HXI.out.trans HXL.out)⟩
                        · rw [HN2.out, HND.out, HST.out.2.2, HST.out.2.2, HST.out.1, HXN.out]; omega
                        · exact Nat.le_trans (reapsT_count X T1) HT1C.out
                        · rw [HM5.out]; exact HLR.out
                        · rw [HM5.out, f3]; exact HDL.out.2
                        · rw [HM5.out, f1, HST.out.2.2, HST.out.1]
                          have h1 := HDL.out.1
                          have h2 := HLK.out.2.2
                          rw [HST.out.2.2] at h2
                          rw [HLL.out.1, List.length_map] at h1
                          omega
                      case measure => simp [intOf]; omega
      · go_wp2_with fail
        rw [HR.out]
        exact ⟨rfl, HXR.out⟩
end Go.Proofs.YtldgpcmnmegioaaGreatDoor
