/- tree.Do: operations, all of them or none. -/
import Derived.Test.YtldgpcmnmegioaaGreatDoorTreeStep
import Derived.Test.YtldgpcmnmegioaaGreatDoorTreeClone
import Derived.Test.YtldgpcmnmegioaaGreatDoorTreeOnce
namespace Go.Proofs.YtldgpcmnmegioaaGreatDoor
open Go.RowKit
/-- Where an operation's bytes lie. -/
structure OpA where
  oa : Option Addr
  oc : Nat
def OpAt (w : World) (g off : Nat) (x : OpD × OpA) : Prop :=
  (w.cell? ⟨g, off, none⟩ = some (.int .i64 x.1.kind) ∧ w.cell? ⟨g, off + 1, none⟩ = some (.string (bs x.1.path)) ∧ w.cell? ⟨g, off + 2, none⟩ = some (.string (bs x.1.dest)) ∧ w.cell? ⟨g, off + 3, none⟩ = some (.slice x.2.oa x.1.data.length x.2.oc)) ∧ Bytes w x.2.oa x.1.data
theorem OpAt.ext {w w' : World} {g off : Nat} {x : OpD × OpA} (h : OpAt w g off x) (k : Ext w w') : OpAt w' g off x :=
  ⟨⟨k.cell h.1.1, k.cell h.1.2.1, k.cell h.1.2.2.1, k.cell h.1.2.2.2⟩, h.2.ext k⟩
def oz : OpD × OpA := (⟨0, [], [], []⟩, ⟨none, 0⟩)
/-- Operations one behind the other. -/
def OpsL (w : World) (a : Option Addr) (L : List (OpD × OpA)) : Prop :=
  L = [] ∨ ∃ g off, a = some ⟨g, off, none⟩ ∧ g < w.heap.size ∧ ∀ i, i < L.length → OpAt w g (off + i * 4) (L.getD i oz)
theorem OpsL.ext {w w' : World} {a : Option Addr} {L : List (OpD × OpA)} (h : OpsL w a L) (k : Ext w w') : OpsL w' a L := by
  rcases h with h | ⟨g, off, ha, hg, hc⟩
  · exact Or.inl h
  · exact Or.inr ⟨g, off, ha, Nat.lt_of_lt_of_le hg k.size, fun i hi => (hc i hi).ext k⟩
theorem OpsL.at {w : World} {a : Option Addr} {L : List (OpD × OpA)} (h : OpsL w a L) {i : Nat} (hi : i < L.length) :
    ∃ g off, a = some ⟨g, off, none⟩ ∧ g < w.heap.size ∧ OpAt w g (off + i * 4) (L.getD i oz) := by
  rcases h with h | ⟨g, off, ha, hg, hc⟩
  · rw [h] at hi; simp at hi
  · exact ⟨g, off, ha, hg, hc i hi⟩
theorem runT_append : ∀ (l k : List OpD) (T : TreeD), (runT T l).2 = 0 → runT T (l ++ k) = runT (runT T l).1 k
  | [], _, _, _ => rfl
  | o :: l, k, T, h => by
    unfold runT at h
    split at h
    · rename_i h0
      have e1 : runT T (o :: l) = runT (stepT T o).1 l := by conv => lhs; unfold runT; rw [if_pos h0]
      have e2 : runT T (o :: l ++ k) = runT (stepT T o).1 (l ++ k) := by conv => lhs; rw [List.cons_append]; unfold runT; rw [if_pos h0]
      rw [e1, e2]
      exact runT_append l k _ h
    · rename_i h0
      exact absurd h h0
theorem runT_cons (T : TreeD) (o : OpD) (l : List OpD) : runT T (o :: l) = if (stepT T o).2 = 0 then runT (stepT T o).1 l else stepT T o := rfl
section
variable {base tb mb ub um N S : Nat} {T U : TreeD} {A : Int → NodeA}
theorem set3t {w : World} {B : Nat} {t : TypeId} {x0 x1 x2 : Value} (hg : w.heap[B]? = some (.cells #[x0, x1, x2] t (0, 0))) (v0 v1 v2 : Value) :
    (((w.setCell ⟨B, 0, none⟩ v0).setCell ⟨B, 1, none⟩ v1).setCell ⟨B, 2, none⟩ v2).heap[B]? = some (.cells #[v0, v1, v2] t (0, 0)) := by
  have h := setCell_row (setCell_row (setCell_row (i := 0) hg v0) (i := 1) v1) (i := 2) v2
  simpa using h
/-- A tree is another one now. -/
theorem TreeM.moved {w : World} (h : TreeM w S ub um N T A) {x0 x1 x2 : Value} (hb : w.heap[tb]? = some (.cells #[x0, x1, x2] 74 (0, 0))) (hS : base ≤ S) (ht : base ≤ tb) :
    TreeM (((w.setCell ⟨tb, 0, none⟩ (.map (some um))).setCell ⟨tb, 1, none⟩ (.int .i64 T.next)).setCell ⟨tb, 2, none⟩ (.int .i64 T.quota)) base tb um N T A := by
  have k : Keep (· ≠ tb) w (((w.setCell ⟨tb, 0, none⟩ (.map (some um))).setCell ⟨tb, 1, none⟩ (.int .i64 T.next)).setCell ⟨tb, 2, none⟩ (.int .i64 T.quota)) :=
    (((Keep.refl _ _).setCell (fun _ h => h) 0 _).setCell (fun _ h => h) 1 _).setCell (fun _ h => h) 2 _
  have hD := datas_cells hb (by decide)
  have hne : ∀ j ∈ T.ids, (A j).blk ≠ tb := fun j hj e => by
    have h1 := (h.node j hj).1
    rw [e, hb] at h1
    injection (Option.some.inj h1) with _ h2
    exact absurd h2 (by decide)
  exact ⟨set3t hb _ _ _, h.map.keep k (h.map_ne hb), fun j hj => (h.node j hj).keep k hD (hne j hj) (fun b hb' => h.kid_ne hj hb' hb), h.blk, h.kid, h.mkb, h.kbd, ht, Nat.le_trans hS h.low.2.1, fun j hj => ⟨Nat.le_trans hS (h.low.2.2 j hj).1, fun b hb' => Nat.le_trans hS ((h.low.2.2 j hj).2 b hb')⟩⟩
/-- What Do makes. -/
def DoR (base tb N : Nat) (T : TreeD) (l : List OpD) (w : World) (e : Ending) (w' : World) : Prop :=
  e = .returned (.int .i64 (doT T l).2) ∧ (∃ mb' A', TreeM w' base tb mb' N (doT T l).1 A') ∧ Keep (· ≠ tb) w w'
set_option maxRecDepth 100000 in
set_option maxHeartbeats 12800000 in
theorem tree_Do {K : Nat} (a : Option Addr) (c : Nat) (L : List (OpD × OpA)) (w : World) (hE : Env w) (hT : TreeM w base tb mb N T A) (hg : GoodT T) (hf : FitT T K) (hKN : K ≤ N) (hN : N + 2 * L.length ≤ 1000000000) (hL : OpsL w a L) :
    Calls Tryz.prog 12 #[.pointer (some ⟨tb, 0, none⟩), .slice a L.length c] w (DoR base tb (N + 2 * L.length) T (L.map Prod.fst) w) := by
  obtain ⟨R, hR⟩ : ∃ R, R = DoR base tb (N + 2 * L.length) T (L.map Prod.fst) w := ⟨_, rfl⟩
  rw [← hR]
  have HR := Lib.hid hR; clear hR
  have HE := Lib.hid hE; clear hE
  have HT := Lib.hid hT; clear hT
  have HG := Lib.hid hg; clear hg
  have HF := Lib.hid hf; clear hf
  have HL := Lib.hid hL; clear hL
  obtain ⟨n, hn⟩ : ∃ n, n = L.length := ⟨_, rfl⟩
  rw [← hn] at hN HR ⊢
  have HNN := Lib.hid hn; clear hn
  have hcl := tree_Clone w HT.out HG.out HF.out hKN (by omega)
  have HCL := Lib.hid hcl; clear hcl
  obtain ⟨S, hS⟩ : ∃ S, S = w.heap.size := ⟨_, rfl⟩
  rw [← hS] at HCL
  have htl := (Array.getElem?_eq_some_iff.1 HT.out.top).1
  rw [← hS] at htl
  have HS := Lib.hid hS; clear hS
  have hlo := HT.out.low.1
  go_enter Tryz.func12, Tryz.ntmps12
  go_wp2_with (go_at_call 30; refine HCL.out.mono ?_; rintro E w1 ⟨ub, um, A1, rfl, hT1, hx1⟩; have HT1 := Lib.hid hT1; have HX1 := Lib.hid hx1; clear hT1 hx1)
  go_loopw [13] (fun i wr => ∃ (k : Nat) (A' : Int → NodeA), i = .int .i64 k ∧ k ≤ n ∧ Hid ((runT T ((L.map Prod.fst).take k)).2 = 0) ∧ Hid (TreeM wr S ub um (N + 2 * k) (runT T ((L.map Prod.fst).take k)).1 A') ∧ Hid (Ext w wr)) (fun i _ => n - (intOf i).toNat)
  case atStart => exact ⟨0, A1, rfl, Nat.zero_le _, Lib.hid rfl, HT1, HX1⟩
  case round =>
    clear HT1 HX1
    obtain ⟨k, A', rfl, hk, HZ, HTK, HX⟩ := hrel
    by_cases hlt : k < n
    · have hkL : k < L.length := by have := HNN.out; omega
      obtain ⟨g, off, rfl, _, ⟨c0, c1, c2, c3⟩, hby⟩ := (HL.out.ext HX.out).at hkL
      have hdr : (L.map Prod.fst).drop k = (L.getD k oz).1 :: (L.map Prod.fst).drop (k + 1) := by
        have e : (L.getD k oz).1 = (L.map Prod.fst)[k]'(by rw [List.length_map]; exact hkL) := by
          rw [List.getElem_map, List.getD_eq_getElem?_getD, List.getElem?_eq_getElem hkL]; rfl
        rw [e]
        exact List.drop_eq_getElem_cons (by rw [List.length_map]; exact hkL)
      have htk : (L.map Prod.fst).take (k + 1) = (L.map Prod.fst).take k ++ [(L.getD k oz).1] := by
        rw [List.take_succ_eq_append_getElem (by rw [List.length_map]; exact hkL), List.getElem_map, List.getD_eq_getElem?_getD, List.getElem?_eq_getElem hkL]
        rfl
      have hall : runT T (L.map Prod.fst) = runT (runT T ((L.map Prod.fst).take k)).1 ((L.getD k oz).1 :: (L.map Prod.fst).drop (k + 1)) := by
        rw [← hdr, ← runT_append _ _ _ HZ.out, List.take_append_drop]
      have hnext : runT T ((L.map Prod.fst).take (k + 1)) = stepT (runT T ((L.map Prod.fst).take k)).1 (L.getD k oz).1 := by
        rw [htk, runT_append _ _ _ HZ.out, runT_one]
      have hgk := runT_good ((L.map Prod.fst).take k) HG.out
      have hfk := runT_fit ((L.map Prod.fst).take k) HF.out
      rw [List.length_take, List.length_map] at hfk
      generalize (L.getD k oz) = xo at c0 c1 c2 c3 hby hall hnext
      obtain ⟨o, ⟨oa, oc⟩⟩ := xo
      simp only at c0 c1 c2 c3 hby hall hnext
      clear hdr htk
      have HALL := Lib.hid hall; clear hall
      have HNEXT := Lib.hid hnext; clear hnext
      have HGK := Lib.hid hgk; clear hgk
      have HFK := Lib.hid hfk; clear hfk
      have HTKD := HTK
      obtain ⟨Tk, hTk⟩ : ∃ Tk, Tk = (runT T ((L.map Prod.fst).take k)).1 := ⟨_, rfl⟩
      rw [← hTk] at HALL HNEXT HGK HFK HTKD
      go_upto_region 5 with (fail)
      clear c0 c1 c2 c3
      have hx_w5 : Ext wr (wr.alloc (.cells #[.int .i64 o.kind, .string (bs o.path), .string (bs o.dest), .slice oa o.data.length oc] 38)) := (Ext.alloc _ _)
      have hf_B := heap_alloc_new wr (.cells #[.int .i64 o.kind, .string (bs o.path), .string (bs o.dest), .slice oa o.data.length oc] 38)
      generalize wr.alloc (.cells #[.int .i64 o.kind, .string (bs o.path), .string (bs o.dest), .slice oa o.data.length oc] 38) = w5 at hx_w5 hf_B ⊢
      obtain ⟨B, h_B⟩ : ∃ x, x = wr.heap.size := ⟨_, rfl⟩
      rw [← h_B] at hf_B
      try rw [← h_B]
      have hs_B : wr.heap.size ≤ B := by omega
      clear h_B
      have HB := Lib.hid hf_B; clear hf_B
      have k0 := blk_cell HB.out 0 (Value.int .i64 o.kind) rfl
      have k1 := blk_cell HB.out 1 (Value.string (bs o.path)) rfl
      have k2 := blk_cell HB.out 2 (Value.string (bs o.dest)) rfl
      have k3 := blk_cell HB.out 3 (Value.slice oa o.data.length oc) rfl
      have hsw := HX.out.size
      have hsw5 := hx_w5.size
      have hSS := HS.out
      have hst := tree_step (L := K + min k L.length) o.kind o.path o.dest o.data oa oc w5 (HE.out.ext (HX.out.trans hx_w5)) (HTKD.out.ext hx_w5) HGK.out HFK.out (by have := HNN.out; omega) (by omega) (by omega) (hby.ext hx_w5)
      have HST := Lib.hid hst; clear hst hby
      have HX5 := Lib.hid (HX.out.trans hx_w5); clear hx_w5 hs_B hsw hsw5 hSS
      obtain ⟨r, hr⟩ : ∃ r, r = stepT Tk ⟨o.kind, o.path, o.dest, o.data⟩ := ⟨_, rfl⟩
      rw [← hr] at HST
      have hro : r = stepT Tk o := hr
      have HRO := Lib.hid hro; clear hro hr
      by_cases hr0 : r.2 = 0
      · have HR0 := Lib.hid hr0
        obtain ⟨v, hv⟩ : ∃ v, v = r.2 := ⟨_, rfl⟩
        unfold StepR at HST
        rw [← hv] at HST hr0
        have HV := Lib.hid hv; clear hv
        go_wp2_with (go_at_call 31; refine HST.out.mono ?_; rintro E w6 ⟨A6, rfl, hT6, hk6⟩; have HT6 := Lib.hid hT6; have HK6 := Lib.hid hk6; clear hT6 hk6)
        go_roundw
        case rel =>
          refine ⟨k + 1, A6, by go_num, by omega, Lib.hid ?_, Lib.hid ?_, Lib.hid ?_⟩
          · rw [HNEXT.out, ← HRO.out]; exact HR0.out
          · rw [HNEXT.out, ← HRO.out]; exact HT6.out
          · have hs := HS.out
            exact ((Keep.of_ext (S := fun j => j < w.heap.size) HX5.out).trans (HK6.out.mono (fun j _ (hj : j < w.heap.size) => by show j < S; omega))).ext_lt
        case measure => simp [intOf]; omega
      · have hrun : runT T (L.map Prod.fst) = r := by rw [HALL.out, runT_cons, ← HRO.out, if_neg hr0]
        have hdo : doT T (L.map Prod.fst) = (T, r.2) := by unfold doT; rw [hrun, if_pos hr0]
        have HDO := Lib.hid hdo; clear hdo hrun
        obtain ⟨v, hv⟩ : ∃ v, v = r.2 := ⟨_, rfl⟩
        unfold StepR at HST
        rw [← hv] at HST hr0 HDO
        have HV := Lib.hid hv; clear hv
        go_wp2_with (go_at_call 31; refine HST.out.mono ?_; rintro E w6 ⟨A6, rfl, _, hk6⟩; have HK6 := Lib.hid hk6; clear hk6)
        rw [HR.out]
        have hs := HS.out
        have hx6 : Ext w w6 := ((Keep.of_ext (S := fun j => j < w.heap.size) HX5.out).trans (HK6.out.mono (fun j _ (hj : j < w.heap.size) => by show j < S; omega))).ext_lt
        unfold DoR
        rw [HDO.out]
        exact ⟨rfl, ⟨mb, A, (HT.out.ext hx6).mono (by omega)⟩, Keep.of_ext hx6⟩
    · obtain rfl : k = n := by omega
      have hz := HZ.out
      have htk := HTK.out
      have hgk := runT_good (L.map Prod.fst) HG.out
      have hfk := runT_fit (L.map Prod.fst) HF.out
      rw [List.length_map, ← HNN.out] at hfk
      rw [List.take_of_length_le (by rw [List.length_map]; have := HNN.out; omega)] at hz htk
      obtain ⟨U, hU⟩ : ∃ U, U = (runT T (L.map Prod.fst)).1 := ⟨_, rfl⟩
      rw [← hU] at htk hgk hfk
      have HU := Lib.hid hU; clear hU
      have HZ2 := Lib.hid hz; clear hz
      have HTU := Lib.hid htk; clear htk HZ HTK
      have HGU := Lib.hid hgk; clear hgk
      have HFU := Lib.hid hfk; clear hfk
      have c0 := blk_cell HTU.out.top 0 (Value.map (some um)) rfl
      have hlen := TreeM.len wr HTU.out HGU.out.nodup
      by_cases hfull : 128 < U.ids.length
      · have hdo : doT T (L.map Prod.fst) = (T, 7) := by unfold doT; rw [← HU.out, if_neg (by rw [HZ2.out]; simp), if_pos hfull]
        have HDO := Lib.hid hdo; clear hdo
        go_wp2_with fail
        rw [HR.out]
        unfold DoR
        rw [HDO.out]
        exact ⟨rfl, ⟨mb, A, (HT.out.ext HX.out).mono (by omega)⟩, Keep.of_ext HX.out⟩
      · have hus := fun W (k : Ext wr W) => tree_Used W (HTU.out.ext k) HGU.out HFU.out (by omega)
        have HUS := Lib.hid hus; clear hus
        have hcs : ∀ W, Ext wr W → W.cell? ⟨ub, 2, none⟩ = some (.int .i64 U.quota) := fun W k => blk_cell (HTU.out.ext k).top 2 _ rfl
        have HCS := Lib.hid hcs; clear hcs
        have hq : U.quota = T.quota := by rw [HU.out]; exact runT_quota _ _
        have HQ := Lib.hid hq; clear hq
        go_upto_region 11 with fail
        clear hlen c0
        have HK := Lib.hid ((Ext.refl wr).drew)
        refine wp_region_noPanic ?_
        refine wp_region_held_drew (S := (fun W => W.cell? ⟨ub, 2, none⟩ = some (.int .i64 U.quota))) (by kernel_rfl) (HCS.out _ HK.out) (fun hHeld => ?_)
        clear hHeld
        generalize wr.drew = wc at HK ⊢
        refine wpAnyH_take (i := 0) (v := ?_) rfl (by kernel_rfl) (by kernel_rfl) (by kernel_rfl) (fun _ _ _ h => h) (Or.inl ⟨by kernel_rfl, ?_⟩) (HCS.out _ HK.out) ?_
        rotate_left
        · (intro wq _; first | (go_simp; done) | (go_simp; with_reducible rfl))
        try simp only [List.getElem_toArray, List.getElem_cons_zero, Act.put, List.setIfInBounds_toArray, List.set_cons_zero, List.set_cons_succ]
        refine wpAnyH_take (i := 2) (v := ?_) rfl (by kernel_rfl) (by kernel_rfl) (by kernel_rfl) (fun _ _ _ h => h) (Or.inl ⟨by kernel_rfl, ?_⟩) (HCS.out _ HK.out) ?_
        rotate_left
        · (intro wq _; first | (go_simp; done) | (go_simp; with_reducible rfl))
        try simp only [List.getElem_toArray, List.getElem_cons_zero, List.getElem_cons_succ, Act.put, List.setIfInBounds_toArray, List.set_cons_zero, List.set_cons_succ]
        refine wpAnyH_take (i := 3) (v := ?_) rfl (by kernel_rfl) (by kernel_rfl) (by kernel_rfl) (fun _ _ _ h => h) (Or.inl ⟨by kernel_rfl, ?_⟩) (HCS.out _ HK.out) ?_
        rotate_left
        · (intro wq _; first | (go_simp; done) | (go_simp; with_reducible rfl))
        try simp only [List.getElem_toArray, List.getElem_cons_zero, List.getElem_cons_succ, Act.put, List.setIfInBounds_toArray, List.set_cons_zero, List.set_cons_succ]
        refine wpAnyH_take (i := 4) (v := ?_) rfl (by kernel_rfl) (by kernel_rfl) (by kernel_rfl) (fun _ _ _ h => h) (Or.inl ⟨by kernel_rfl, ?_⟩) (HCS.out _ HK.out) ?_
        rotate_left
        · (intro wq _; first | (go_simp; done) | (go_simp; with_reducible rfl))
        try simp only [List.getElem_toArray, List.getElem_cons_zero, List.getElem_cons_succ, Act.put, List.setIfInBounds_toArray, List.set_cons_zero, List.set_cons_succ]
        refine wpAnyH_take (i := 5) (v := ?_) rfl (by kernel_rfl) (by kernel_rfl) (by kernel_rfl) (fun _ _ _ h => h) (Or.inl ⟨by kernel_rfl, ?_⟩) (HCS.out _ HK.out) ?_
        rotate_left
        · (intro wq hSw; (try dsimp only at hSw); first | (go_simp; done) | (go_simp; with_reducible rfl))
        try simp only [List.getElem_toArray, List.getElem_cons_zero, List.getElem_cons_succ, Act.put, List.setIfInBounds_toArray, List.set_cons_zero, List.set_cons_succ]
        all_goals (
          first
            | refine wpAnyH_ready (rs := [1]) (by decide +kernel) (by simp) ?_
          repeat' (first | exact AllReadyH.nil | (refine AllReadyH.cons rfl (fun K hK => ?_) ?_)))
        all_goals (
          first
            | (go_simp
               first
                 | (go_at_call 24
                    refine (HUS.out _ HK.out).mono ?_
                    rintro E wn ⟨rfl, hx⟩
                    replace HK := Lib.hid (HK.out.trans hx)
                    clear hx
                    go_wp2_with fail
                    refine hK.out _ _ (HCS.out _ HK.out) (fun _ => ?_)
                    clear hK K
                    obtain ⟨wc, rfl⟩ : ∃ z : World, z = wn := ⟨_, rfl⟩
                    try simp only [List.getElem_toArray, List.getElem_cons_zero, List.getElem_cons_succ, Act.put, List.setIfInBounds_toArray, List.set_cons_zero, List.set_cons_succ]
                    refine wpAnyH_take (i := 6) (v := ?_) rfl (by kernel_rfl) (by kernel_rfl) (by kernel_rfl) (fun _ _ _ h => h) (Or.inl ⟨by kernel_rfl, ?_⟩) (HCS.out _ HK.out) ?_
                    rotate_left
                    · (intro wq _; first | (go_simp; done) | (go_simp; with_reducible rfl))
                    try simp only [List.getElem_toArray, List.getElem_cons_zero, List.getElem_cons_succ, Act.put, List.setIfInBounds_toArray, List.set_cons_zero, List.set_cons_succ])))
        all_goals (
          refine wpAnyH_done (by kernel_rfl) ?_ _
          refine NoPanic.normal ?_
          skip)
        have HXC := Lib.hid (HX.out.trans HK.out)
        by_cases hover : U.quota < (usedT U : Int)
        · have hdo : doT T (L.map Prod.fst) = (T, 13) := by
            unfold doT
            rw [← HU.out, if_neg (by rw [HZ2.out]; simp), if_neg hfull, if_pos (by rw [← HQ.out]; exact hover)]
          have HDO := Lib.hid hdo; clear hdo
          go_wp2_with fail
          rw [HR.out]
          unfold DoR
          rw [HDO.out]
          exact ⟨rfl, ⟨mb, A, (HT.out.ext HXC.out).mono (by omega)⟩, Keep.of_ext HXC.out⟩
        · have hdo : doT T (L.map Prod.fst) = (U, 0) := by
            unfold doT
            rw [← HU.out, if_neg (by rw [HZ2.out]; simp), if_neg hfull, if_neg (by rw [← HQ.out]; exact hover)]
          have HDO := Lib.hid hdo; clear hdo
          have hTc := HTU.out.ext HK.out
          have htb := HXC.out.heap HT.out.top
          have u0 := blk_cell hTc.top 0 (Value.map (some um)) rfl
          have u1 := blk_cell hTc.top 1 (Value.int .i64 U.next) rfl
          have u2 := blk_cell hTc.top 2 (Value.int .i64 U.quota) rfl
          have t0 := blk_cell htb 0 (Value.map (some mb)) rfl
          have t1 := blk_cell htb 1 (Value.int .i64 T.next) rfl
          have t2 := blk_cell htb 2 (Value.int .i64 T.quota) rfl
          have g0 := blk_free htb 0
          have g1 := blk_free htb 1
          have g2 := blk_free htb 2
          have hmv := hTc.moved (base := base) htb (by omega) hlo
          have HMV := Lib.hid hmv; clear hmv hTc htb
          go_wp2_with fail
          rw [HR.out]
          unfold DoR
          rw [HDO.out]
          exact ⟨rfl, ⟨um, _, HMV.out⟩, (((Keep.of_ext HXC.out).setCell (fun _ h => h) 0 _).setCell (fun _ h => h) 1 _).setCell (fun _ h => h) 2 _⟩
end
end Go.Proofs.YtldgpcmnmegioaaGreatDoor
