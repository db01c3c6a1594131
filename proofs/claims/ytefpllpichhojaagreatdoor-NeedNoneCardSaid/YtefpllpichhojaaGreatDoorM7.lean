/- Several texts of mine, one behind the other: TreeOnce, TreeDo, TreeRead, TreeList, TreeLoose, TreeAt, RecNum, ConvText, RecRaw, TreeUnp, LogMem, TreeReap, VolMem. -/
import Derived.Test.YtefpllpichhojaaGreatDoorM14
import Derived.Test.YtefpllpichhojaaGreatDoorTreeStep
import Derived.Test.YtefpllpichhojaaGreatDoorTreeClone
import Derived.Test.YtefpllpichhojaaGreatDoorM4
import Derived.Test.YtefpllpichhojaaGreatDoorTreeFileM
import Derived.Test.YtefpllpichhojaaGreatDoorM5
import Derived.Shelf.SlIter.Nil
import Derived.Shelf.SortM.Plain
import Derived.Shelf.SortM.SortNone
import Derived.Shelf.AbstractIn
import Derived.Test.YtefpllpichhojaaGreatDoorM8
import Derived.Sort.OwnSortedInts
import Derived.Shelf.SlicesE.Clone
import Derived.Deep.AppendLies
import Derived.Test.YtefpllpichhojaaGreatDoorM9
import Derived.Lib.EndianBits
import Derived.WalkSpells
import Derived.WalkLawsBesides
namespace Go.Proofs.YtefpllpichhojaaGreatDoor
section
variable {T : TreeD}
theorem runT_one (o : OpD) : runT T [o] = stepT T o := by
 unfold runT
 split
 · rename_i h
   unfold runT
   rw [← h]
 · rfl
theorem fileT_quota (o : OpD) (d : Int) (x : By) (i : Int) : (fileT T o d x i).1.quota = T.quota := by
 unfold fileT
 split
 · rfl
 · split
   · rfl
   · split
     · rfl
     · split
       · rfl
       · split
         · rfl
         · split
           · rfl
           · split
             · rfl
             · split <;> rfl
theorem stepT_quota (o : OpD) : (stepT T o).1.quota = T.quota := by
 unfold stepT
 split
 · rfl
 · split
   · rfl
   · split
     · rfl
     · split
       · split <;> rfl
       · split
         · rfl
         · split
           · split
             · rfl
             · split <;> rfl
           · split
             · rfl
             · exact fileT_quota _ _ _ _
theorem runT_quota : ∀ (l : List OpD) (T : TreeD), (runT T l).1.quota = T.quota
 | [], _ => rfl
 | o :: l, T => by
   unfold runT
   split
   · rw [runT_quota l, stepT_quota]
   · exact stepT_quota o
end
end Go.Proofs.YtefpllpichhojaaGreatDoor
namespace Go.Proofs.YtefpllpichhojaaGreatDoor
open Go.RowKit
structure OpA where
 oa : Option Addr
 oc : Nat
def OpAt (w : World) (g off : Nat) (x : OpD × OpA) : Prop :=
 (w.cell? ⟨g, off, none⟩ = some (.int .i64 x.1.kind) ∧ w.cell? ⟨g, off + 1, none⟩ = some (.string (bs x.1.path)) ∧ w.cell? ⟨g, off + 2, none⟩ = some (.string (bs x.1.dest)) ∧ w.cell? ⟨g, off + 3, none⟩ = some (.slice x.2.oa x.1.data.length x.2.oc)) ∧ Bytes w x.2.oa x.1.data
theorem OpAt.ext {w w' : World} {g off : Nat} {x : OpD × OpA} (h : OpAt w g off x) (k : Ext w w') : OpAt w' g off x :=
 ⟨⟨k.cell h.1.1, k.cell h.1.2.1, k.cell h.1.2.2.1, k.cell h.1.2.2.2⟩, h.2.ext k⟩
def oz : OpD × OpA := (⟨0, [], [], []⟩, ⟨none, 0⟩)
def OpsL (w : World) (a : Option Addr) (L : List (OpD × OpA)) : Prop :=
 L = [] ∨ ∃ g off, a = some ⟨g, off, none⟩ ∧ g < w.heap.size ∧ ∀ i, i < L.length → OpAt w g (off + i * 4) (L.getD i oz)
theorem OpsL.ext {w w' : World} {a : Option Addr} {L : List (OpD × OpA)} (h : OpsL w a L) (k : Ext w w') : OpsL w' a L := by
 rcases h with h | ⟨g, off, ha, hg, hc⟩
 · exact Or.inl h
 · exact Or.inr ⟨g, off, ha, Nat.lt_of_lt_of_le hg k.size, fun i hi => (hc i hi).ext k⟩
theorem OpsL.at {w : World} {a : Option Addr} {L : List (OpD × OpA)} (h : OpsL w a L) {i : Nat} (hi : i < L.length) :
 ∃ g off, a = some ⟨g, off, none⟩ ∧ g < w.heap.size ∧ OpAt w g (off + i * 4) (L.getD i oz) := by
 rcases h with h | ⟨g, off, ha, hg, hc⟩
 · rw [h] at hi; simp at hi
 · exact ⟨g, off, ha, hg, hc i hi⟩
theorem runT_append : ∀ (l k : List OpD) (T : TreeD), (runT T l).2 = 0 → runT T (l ++ k) = runT (runT T l).1 k
 | [], _, _, _ => rfl
 | o :: l, k, T, h => by
   unfold runT at h
   split at h
   · rename_i h0
     have e1 : runT T (o :: l) = runT (stepT T o).1 l := by conv => lhs; unfold runT; rw [if_pos h0]
     have e2 : runT T (o :: l ++ k) = runT (stepT T o).1 (l ++ k) := by conv => lhs; rw [List.cons_append]; unfold runT; rw [if_pos h0]
     rw [e1, e2]
     exact runT_append l k _ h
   · rename_i h0
     exact absurd h h0
theorem runT_cons (T : TreeD) (o : OpD) (l : List OpD) : runT T (o :: l) = if (stepT T o).2 = 0 then runT (stepT T o).1 l else stepT T o := rfl
section
variable {base tb mb ub um N S : Nat} {T U : TreeD} {A : Int → NodeA}
theorem set3t {w : World} {B : Nat} {t : TypeId} {x0 x1 x2 : Value} (hg : w.heap[B]? = some (.cells #[x0, x1, x2] t (0, 0))) (v0 v1 v2 : Value) :
 (((w.setCell ⟨B, 0, none⟩ v0).setCell ⟨B, 1, none⟩ v1).setCell ⟨B, 2, none⟩ v2).heap[B]? = some (.cells #[v0, v1, v2] t (0, 0)) := by
 have h := setCell_row (setCell_row (setCell_row (i := 0) hg v0) (i := 1) v1) (i := 2) v2
 simpa using h
theorem TreeM.moved {w : World} (h : TreeM w S ub um N T A) {x0 x1 x2 : Value} (hb : w.heap[tb]? = some (.cells #[x0, x1, x2] 203 (0, 0))) (hS : base ≤ S) (ht : base ≤ tb) :
 TreeM (((w.setCell ⟨tb, 0, none⟩ (.map (some um))).setCell ⟨tb, 1, none⟩ (.int .i64 T.next)).setCell ⟨tb, 2, none⟩ (.int .i64 T.quota)) base tb um N T A := by
 have k : Keep (· ≠ tb) w (((w.setCell ⟨tb, 0, none⟩ (.map (some um))).setCell ⟨tb, 1, none⟩ (.int .i64 T.next)).setCell ⟨tb, 2, none⟩ (.int .i64 T.quota)) :=
  (((Keep.refl _ _).setCell (fun _ h => h) 0 _).setCell (fun _ h => h) 1 _).setCell (fun _ h => h) 2 _
 have hD := datas_cells hb (by decide)
 have hne : ∀ j ∈ T.ids, (A j).blk ≠ tb := fun j hj e => by
  have h1 := (h.node j hj).1
  rw [e, hb] at h1
  injection (Option.some.inj h1) with _ h2
  exact absurd h2 (by decide)
 exact ⟨set3t hb _ _ _, h.map.keep k (h.map_ne hb), fun j hj => (h.node j hj).keep k hD (hne j hj) (fun b hb' => h.kid_ne hj hb' hb), h.blk, h.kid, h.mkb, h.kbd, ht, Nat.le_trans hS h.low.2.1, fun j hj => ⟨Nat.le_trans hS (h.low.2.2 j hj).1, fun b hb' => Nat.le_trans hS ((h.low.2.2 j hj).2 b hb')⟩⟩
def FreshT (mb : Nat) (A : Int → NodeA) (T : TreeD) (S : Nat) (T' : TreeD) (mb' : Nat) (A' : Int → NodeA) : Prop := (mb' = mb ∧ A' = A ∧ T' = T) ∨ (S ≤ mb' ∧ ∀ i ∈ T'.ids, ∀ b, (A' i).kb = some b → S ≤ b)
def DoF (base tb mb N : Nat) (A : Int → NodeA) (T : TreeD) (l : List OpD) (w : World) (e : Ending) (w' : World) : Prop :=
 e = .returned (.int .i64 (doT T l).2) ∧ (∃ mb' A', TreeM w' base tb mb' N (doT T l).1 A' ∧ FreshT mb A T w.heap.size (doT T l).1 mb' A') ∧ Keep (· ≠ tb) w w'
def DoR (base tb N : Nat) (T : TreeD) (l : List OpD) (w : World) (e : Ending) (w' : World) : Prop :=
 e = .returned (.int .i64 (doT T l).2) ∧ (∃ mb' A', TreeM w' base tb mb' N (doT T l).1 A') ∧ Keep (· ≠ tb) w w'
set_option maxRecDepth 100000 in
set_option maxHeartbeats 12800000 in
theorem tree_DoF {K : Nat} (a : Option Addr) (c : Nat) (L : List (OpD × OpA)) (w : World) (hE : Env w) (hT : TreeM w base tb mb N T A) (hg : GoodT T) (hf : FitT T K) (hKN : K ≤ N) (hN : N + 2 * L.length ≤ 1000000000) (hL : OpsL w a L) :
 Calls Tryz.prog 76 #[.pointer (some ⟨tb, 0, none⟩), .slice a L.length c] w (DoF base tb mb (N + 2 * L.length) A T (L.map Prod.fst) w) := by
 obtain ⟨R, hR⟩ : ∃ R, R = DoF base tb mb (N + 2 * L.length) A T (L.map Prod.fst) w := ⟨_, rfl⟩
 rw [← hR]
 have HR := Lib.hid hR; clear hR
 have HE := Lib.hid hE; clear hE
 have HT := Lib.hid hT; clear hT
 have HG := Lib.hid hg; clear hg
 have HF := Lib.hid hf; clear hf
 have HL := Lib.hid hL; clear hL
 obtain ⟨n, hn⟩ : ∃ n, n = L.length := ⟨_, rfl⟩
 rw [← hn] at hN HR ⊢
 have HNN := Lib.hid hn; clear hn
 have hcl := tree_Clone w HT.out HG.out HF.out hKN (by omega)
 have HCL := Lib.hid hcl; clear hcl
 obtain ⟨S, hS⟩ : ∃ S, S = w.heap.size := ⟨_, rfl⟩
 rw [← hS] at HCL
 have htl := (Array.getElem?_eq_some_iff.1 HT.out.top).1
 rw [← hS] at htl
 have HS := Lib.hid hS; clear hS
 have hlo := HT.out.low.1
 go_enter Tryz.func76, Tryz.ntmps76
 go_wp2_with (go_at_call 75; refine HCL.out.mono ?_; rintro E w1 ⟨ub, um, A1, rfl, hT1, hx1⟩; have HT1 := Lib.hid hT1; have HX1 := Lib.hid hx1; clear hT1 hx1)
 go_loopw [13] (fun i wr => ∃ (k : Nat) (A' : Int → NodeA), i = .int .i64 k ∧ k ≤ n ∧ Hid ((runT T ((L.map Prod.fst).take k)).2 = 0) ∧ Hid (TreeM wr S ub um (N + 2 * k) (runT T ((L.map Prod.fst).take k)).1 A') ∧ Hid (Ext w wr)) (fun i _ => n - (intOf i).toNat)
 case atStart => exact ⟨0, A1, rfl, Nat.zero_le _, Lib.hid rfl, HT1, HX1⟩
 case round =>
  clear HT1 HX1
  obtain ⟨k, A', rfl, hk, HZ, HTK, HX⟩ := hrel
  by_cases hlt : k < n
  · have hkL : k < L.length := by have := HNN.out; omega
    obtain ⟨g, off, rfl, _, ⟨c0, c1, c2, c3⟩, hby⟩ := (HL.out.ext HX.out).at hkL
    have hdr : (L.map Prod.fst).drop k = (L.getD k oz).1 :: (L.map Prod.fst).drop (k + 1) := by
     have e : (L.getD k oz).1 = (L.map Prod.fst)[k]'(by rw [List.length_map]; exact hkL) := by
      rw [List.getElem_map, List.getD_eq_getElem?_getD, List.getElem?_eq_getElem hkL]; rfl
     rw [e]
     exact List.drop_eq_getElem_cons (by rw [List.length_map]; exact hkL)
    have htk : (L.map Prod.fst).take (k + 1) = (L.map Prod.fst).take k ++ [(L.getD k oz).1] := by
     rw [List.take_succ_eq_append_getElem (by rw [List.length_map]; exact hkL), List.getElem_map, List.getD_eq_getElem?_getD, List.getElem?_eq_getElem hkL]
     rfl
    have hall : runT T (L.map Prod.fst) = runT (runT T ((L.map Prod.fst).take k)).1 ((L.getD k oz).1 :: (L.map Prod.fst).drop (k + 1)) := by
     rw [← hdr, ← runT_append _ _ _ HZ.out, List.take_append_drop]
    have hnext : runT T ((L.map Prod.fst).take (k + 1)) = stepT (runT T ((L.map Prod.fst).take k)).1 (L.getD k oz).1 := by
     rw [htk, runT_append _ _ _ HZ.out, runT_one]
    have hgk := runT_good ((L.map Prod.fst).take k) HG.out
    have hfk := runT_fit ((L.map Prod.fst).take k) HF.out
    rw [List.length_take, List.length_map] at hfk
    generalize (L.getD k oz) = xo at c0 c1 c2 c3 hby hall hnext
    obtain ⟨o, ⟨oa, oc⟩⟩ := xo
    simp only at c0 c1 c2 c3 hby hall hnext
    clear hdr htk
    have HALL := Lib.hid hall; clear hall
    have HNEXT := Lib.hid hnext; clear hnext
    have HGK := Lib.hid hgk; clear hgk
    have HFK := Lib.hid hfk; clear hfk
    have HTKD := HTK
    obtain ⟨Tk, hTk⟩ : ∃ Tk, Tk = (runT T ((L.map Prod.fst).take k)).1 := ⟨_, rfl⟩
    rw [← hTk] at HALL HNEXT HGK HFK HTKD
    go_upto_region 5 with (fail)
    clear c0 c1 c2 c3
    have hx_w5 : Ext wr (wr.alloc (.cells #[.int .i64 o.kind, .string (bs o.path), .string (bs o.dest), .slice oa o.data.length oc] 52)) := (Ext.alloc _ _)
    have hf_B := heap_alloc_new wr (.cells #[.int .i64 o.kind, .string (bs o.path), .string (bs o.dest), .slice oa o.data.length oc] 52)
    generalize wr.alloc (.cells #[.int .i64 o.kind, .string (bs o.path), .string (bs o.dest), .slice oa o.data.length oc] 52) = w5 at hx_w5 hf_B ⊢
    obtain ⟨B, h_B⟩ : ∃ x, x = wr.heap.size := ⟨_, rfl⟩
    rw [← h_B] at hf_B
    try rw [← h_B]
    have hs_B : wr.heap.size ≤ B := by omega
    clear h_B
    have HB := Lib.hid hf_B; clear hf_B
    have k0 := blk_cell HB.out 0 (Value.int .i64 o.kind) rfl
    have k1 := blk_cell HB.out 1 (Value.string (bs o.path)) rfl
    have k2 := blk_cell HB.out 2 (Value.string (bs o.dest)) rfl
    have k3 := blk_cell HB.out 3 (Value.slice oa o.data.length oc) rfl
    have hsw := HX.out.size
    have hsw5 := hx_w5.size
    have hSS := HS.out
    have hst := tree_step (L := K + min k L.length) o.kind o.path o.dest o.data oa oc w5 (HE.out.ext (HX.out.trans hx_w5)) (HTKD.out.ext hx_w5) HGK.out HFK.out (by have := HNN.out; omega) (by omega) (by omega) (hby.ext hx_w5)
    have HST := Lib.hid hst; clear hst hby
    have HX5 := Lib.hid (HX.out.trans hx_w5); clear hx_w5 hs_B hsw hsw5 hSS
    obtain ⟨r, hr⟩ : ∃ r, r = stepT Tk ⟨o.kind, o.path, o.dest, o.data⟩ := ⟨_, rfl⟩
    rw [← hr] at HST
    have hro : r = stepT Tk o := hr
    have HRO := Lib.hid hro; clear hro hr
    by_cases hr0 : r.2 = 0
    · have HR0 := Lib.hid hr0
      obtain ⟨v, hv⟩ : ∃ v, v = r.2 := ⟨_, rfl⟩
      unfold StepR at HST
      rw [← hv] at HST hr0
      have HV := Lib.hid hv; clear hv
      go_wp2_with (go_at_call 117; refine HST.out.mono ?_; rintro E w6 ⟨A6, rfl, hT6, hk6⟩; have HT6 := Lib.hid hT6; have HK6 := Lib.hid hk6; clear hT6 hk6)
      go_roundw
      case rel =>
       refine ⟨k + 1, A6, by go_num, by omega, Lib.hid ?_, Lib.hid ?_, Lib.hid ?_⟩
       · rw [HNEXT.out, ← HRO.out]; exact HR0.out
       · rw [HNEXT.out, ← HRO.out]; exact HT6.out
       · have hs := HS.out
         exact ((Keep.of_ext (S := fun j => j < w.heap.size) HX5.out).trans (HK6.out.mono (fun j _ (hj : j < w.heap.size) => by show j < S; omega))).ext_lt
      case measure => simp [intOf]; omega
    · have hrun : runT T (L.map Prod.fst) = r := by rw [HALL.out, runT_cons, ← HRO.out, if_neg hr0]
      have hdo : doT T (L.map Prod.fst) = (T, r.2) := by unfold doT; rw [hrun, if_pos hr0]
      have HDO := Lib.hid hdo; clear hdo hrun
      obtain ⟨v, hv⟩ : ∃ v, v = r.2 := ⟨_, rfl⟩
      unfold StepR at HST
      rw [← hv] at HST hr0 HDO
      have HV := Lib.hid hv; clear hv
      go_wp2_with (go_at_call 117; refine HST.out.mono ?_; rintro E w6 ⟨A6, rfl, _, hk6⟩; have HK6 := Lib.hid hk6; clear hk6)
      rw [HR.out]
      have hs := HS.out
      have hx6 : Ext w w6 := ((Keep.of_ext (S := fun j => j < w.heap.size) HX5.out).trans (HK6.out.mono (fun j _ (hj : j < w.heap.size) => by show j < S; omega))).ext_lt
      unfold DoF
      rw [HDO.out]
      exact ⟨rfl, ⟨mb, A, (HT.out.ext hx6).mono (by omega), Or.inl ⟨rfl, rfl, rfl⟩⟩, Keep.of_ext hx6⟩
  · obtain rfl : k = n := by omega
    have hz := HZ.out
    have htk := HTK.out
    have hgk := runT_good (L.map Prod.fst) HG.out
    have hfk := runT_fit (L.map Prod.fst) HF.out
    rw [List.length_map, ← HNN.out] at hfk
    rw [List.take_of_length_le (by rw [List.length_map]; have := HNN.out; omega)] at hz htk
    obtain ⟨U, hU⟩ : ∃ U, U = (runT T (L.map Prod.fst)).1 := ⟨_, rfl⟩
    rw [← hU] at htk hgk hfk
    have HU := Lib.hid hU; clear hU
    have HZ2 := Lib.hid hz; clear hz
    have HTU := Lib.hid htk; clear htk HZ HTK
    have HGU := Lib.hid hgk; clear hgk
    have HFU := Lib.hid hfk; clear hfk
    have c0 := blk_cell HTU.out.top 0 (Value.map (some um)) rfl
    have hlen := TreeM.len wr HTU.out HGU.out.nodup
    by_cases hfull : 128 < U.ids.length
    · have hdo : doT T (L.map Prod.fst) = (T, 7) := by unfold doT; rw [← HU.out, if_neg (by rw [HZ2.out]; simp), if_pos hfull]
      have HDO := Lib.hid hdo; clear hdo
      go_wp2_with fail
      rw [HR.out]
      unfold DoF
      rw [HDO.out]
      exact ⟨rfl, ⟨mb, A, (HT.out.ext HX.out).mono (by omega), Or.inl ⟨rfl, rfl, rfl⟩⟩, Keep.of_ext HX.out⟩
    · have hus := fun W (k : Ext wr W) => tree_Used W (HTU.out.ext k) HGU.out HFU.out (by omega)
      have HUS := Lib.hid hus; clear hus
      have hcs : ∀ W, Ext wr W → W.cell? ⟨ub, 2, none⟩ = some (.int .i64 U.quota) := fun W k => blk_cell (HTU.out.ext k).top 2 _ rfl
      have HCS := Lib.hid hcs; clear hcs
      have hq : U.quota = T.quota := by rw [HU.out]; exact runT_quota _ _
      have HQ := Lib.hid hq; clear hq
      go_upto_region 11 with fail
      clear hlen c0
      have HK := Lib.hid ((Ext.refl wr).drew)
      refine wp_region_noPanic ?_
      refine wp_region_held_drew (S := (fun W => W.cell? ⟨ub, 2, none⟩ = some (.int .i64 U.quota))) (by kernel_rfl) (HCS.out _ HK.out) (fun hHeld => ?_)
      clear hHeld
      generalize wr.drew = wc at HK ⊢
      refine wpAnyH_take (i := 0) (v := ?_) rfl (by kernel_rfl) (by kernel_rfl) (by kernel_rfl) (fun _ _ _ h => h) (Or.inl ⟨by kernel_rfl, ?_⟩) (HCS.out _ HK.out) ?_
      rotate_left
      · (intro wq _; first | (go_simp; done) | (go_simp; with_reducible rfl))
      try simp only [List.getElem_toArray, List.getElem_cons_zero, Act.put, List.setIfInBounds_toArray, List.set_cons_zero, List.set_cons_succ]
      refine wpAnyH_take (i := 2) (v := ?_) rfl (by kernel_rfl) (by kernel_rfl) (by kernel_rfl) (fun _ _ _ h => h) (Or.inl ⟨by kernel_rfl, ?_⟩) (HCS.out _ HK.out) ?_
      rotate_left
      · (intro wq _; first | (go_simp; done) | (go_simp; with_reducible rfl))
      try simp only [List.getElem_toArray, List.getElem_cons_zero, List.getElem_cons_succ, Act.put, List.setIfInBounds_toArray, List.set_cons_zero, List.set_cons_succ]
      refine wpAnyH_take (i := 3) (v := ?_) rfl (by kernel_rfl) (by kernel_rfl) (by kernel_rfl) (fun _ _ _ h => h) (Or.inl ⟨by kernel_rfl, ?_⟩) (HCS.out _ HK.out) ?_
      rotate_left
      · (intro wq _; first | (go_simp; done) | (go_simp; with_reducible rfl))
      try simp only [List.getElem_toArray, List.getElem_cons_zero, List.getElem_cons_succ, Act.put, List.setIfInBounds_toArray, List.set_cons_zero, List.set_cons_succ]
      refine wpAnyH_take (i := 4) (v := ?_) rfl (by kernel_rfl) (by kernel_rfl) (by kernel_rfl) (fun _ _ _ h => h) (Or.inl ⟨by kernel_rfl, ?_⟩) (HCS.out _ HK.out) ?_
      rotate_left
      · (intro wq _; first | (go_simp; done) | (go_simp; with_reducible rfl))
      try simp only [List.getElem_toArray, List.getElem_cons_zero, List.getElem_cons_succ, Act.put, List.setIfInBounds_toArray, List.set_cons_zero, List.set_cons_succ]
      refine wpAnyH_take (i := 5) (v := ?_) rfl (by kernel_rfl) (by kernel_rfl) (by kernel_rfl) (fun _ _ _ h => h) (Or.inl ⟨by kernel_rfl, ?_⟩) (HCS.out _ HK.out) ?_
      rotate_left
      · (intro wq hSw; (try dsimp only at hSw); first | (go_simp; done) | (go_simp; with_reducible rfl))
      try simp only [List.getElem_toArray, List.getElem_cons_zero, List.getElem_cons_succ, Act.put, List.setIfInBounds_toArray, List.set_cons_zero, List.set_cons_succ]
      all_goals (
       first
        | refine wpAnyH_ready (rs := [1]) (by decide +kernel) (by simp) ?_
       repeat' (first | exact AllReadyH.nil | (refine AllReadyH.cons rfl (fun K hK => ?_) ?_)))
      all_goals (
       first
        | (go_simp
           first
            | (go_at_call 118
               refine (HUS.out _ HK.out).mono ?_
               rintro E wn ⟨rfl, hx⟩
               replace HK := Lib.hid (HK.out.trans hx)
               clear hx
               go_wp2_with fail
               refine hK.out _ _ (HCS.out _ HK.out) (fun _ => ?_)
               clear hK K
               obtain ⟨wc, rfl⟩ : ∃ z : World, z = wn := ⟨_, rfl⟩
               try simp only [List.getElem_toArray, List.getElem_cons_zero, List.getElem_cons_succ, Act.put, List.setIfInBounds_toArray, List.set_cons_zero, List.set_cons_succ]
               refine wpAnyH_take (i := 6) (v := ?_) rfl (by kernel_rfl) (by kernel_rfl) (by kernel_rfl) (fun _ _ _ h => h) (Or.inl ⟨by kernel_rfl, ?_⟩) (HCS.out _ HK.out) ?_
               rotate_left
               · (intro wq _; first | (go_simp; done) | (go_simp; with_reducible rfl))
               try simp only [List.getElem_toArray, List.getElem_cons_zero, List.getElem_cons_succ, Act.put, List.setIfInBounds_toArray, List.set_cons_zero, List.set_cons_succ])))
      all_goals (
       refine wpAnyH_done (by kernel_rfl) ?_ _
       refine NoPanic.normal ?_
       skip)
      have HXC := Lib.hid (HX.out.trans HK.out)
      by_cases hover : U.quota < (usedT U : Int)
      · have hdo : doT T (L.map Prod.fst) = (T, 13) := by
         unfold doT
         rw [← HU.out, if_neg (by rw [HZ2.out]; simp), if_neg hfull, if_pos (by rw [← HQ.out]; exact hover)]
        have HDO := Lib.hid hdo; clear hdo
        go_wp2_with fail
        rw [HR.out]
        unfold DoF
        rw [HDO.out]
        exact ⟨rfl, ⟨mb, A, (HT.out.ext HXC.out).mono (by omega), Or.inl ⟨rfl, rfl, rfl⟩⟩, Keep.of_ext HXC.out⟩
      · have hdo : doT T (L.map Prod.fst) = (U, 0) := by
         unfold doT
         rw [← HU.out, if_neg (by rw [HZ2.out]; simp), if_neg hfull, if_neg (by rw [← HQ.out]; exact hover)]
        have HDO := Lib.hid hdo; clear hdo
        have hTc := HTU.out.ext HK.out
        have htb := HXC.out.heap HT.out.top
        have u0 := blk_cell hTc.top 0 (Value.map (some um)) rfl
        have u1 := blk_cell hTc.top 1 (Value.int .i64 U.next) rfl
        have u2 := blk_cell hTc.top 2 (Value.int .i64 U.quota) rfl
        have t0 := blk_cell htb 0 (Value.map (some mb)) rfl
        have t1 := blk_cell htb 1 (Value.int .i64 T.next) rfl
        have t2 := blk_cell htb 2 (Value.int .i64 T.quota) rfl
        have g0 := blk_free htb 0
        have g1 := blk_free htb 1
        have g2 := blk_free htb 2
        have hmv := hTc.moved (base := base) htb (by omega) hlo
        have HMV := Lib.hid hmv
        have hfr : FreshT mb A T w.heap.size U um A' := Or.inr ⟨by have := hTc.low.2.1; have := HS.out; omega, fun i hi b hb => by have := (hTc.low.2.2 i hi).2 b hb; have := HS.out; omega⟩
        have HFR := Lib.hid hfr
        clear hmv hTc htb hfr
        go_wp2_with fail
        rw [HR.out]
        unfold DoF
        rw [HDO.out]
        exact ⟨rfl, ⟨um, _, HMV.out, HFR.out⟩, (((Keep.of_ext HXC.out).setCell (fun _ h => h) 0 _).setCell (fun _ h => h) 1 _).setCell (fun _ h => h) 2 _⟩
theorem tree_Do {K : Nat} (a : Option Addr) (c : Nat) (L : List (OpD × OpA)) (w : World) (hE : Env w) (hT : TreeM w base tb mb N T A) (hg : GoodT T) (hf : FitT T K) (hKN : K ≤ N) (hN : N + 2 * L.length ≤ 1000000000) (hL : OpsL w a L) :
 Calls Tryz.prog 76 #[.pointer (some ⟨tb, 0, none⟩), .slice a L.length c] w (DoR base tb (N + 2 * L.length) T (L.map Prod.fst) w) :=
 (tree_DoF a c L w hE hT hg hf hKN hN hL).mono fun _ _ ⟨he, ⟨mb', A', hm, _⟩, hk⟩ => ⟨he, ⟨mb', A', hm⟩, hk⟩
end
end Go.Proofs.YtefpllpichhojaaGreatDoor
namespace Go.Proofs.YtefpllpichhojaaGreatDoor
open Go.RowKit
section
variable {base tb mb N L : Nat} {T : TreeD} {A : Int → NodeA}
end
end Go.Proofs.YtefpllpichhojaaGreatDoor
namespace Go.Proofs.YtefpllpichhojaaGreatDoor
open Go.RowKit Go.Maps Go.Sort Go.Shelf
section
variable {base tb mb N L : Nat} {T : TreeD} {A : Int → NodeA}
end
end Go.Proofs.YtefpllpichhojaaGreatDoor
namespace Go.Proofs.YtefpllpichhojaaGreatDoor
open Go.RowKit Go.Sort Go.Shelf
def intV (X : List Int) : List Value := X.map (Value.int .i64)
theorem intV_one (X : List Int) : ∀ u ∈ intV X, u.oneCell' = true := by
 intro u hu
 obtain ⟨b, _, rfl⟩ := List.mem_map.1 hu
 rfl
def OwnIs (w : World) (base : Nat) (a : Option Addr) (cap : Nat) (X : List Int) : Prop := w.ownsRow base 3 1 (.slice a X.length cap) X.length (intV X)
theorem OwnIs.none (w : World) (base : Nat) : OwnIs w base none 0 [] := World.ownsRow_nil _ _ _ _
theorem sort_ints (base : Nat) (a : Option Addr) (c : Nat) (X : List Int) (w : World) (hO : OwnIs w base a c X) (hb : base ≤ w.heap.size) (hl : X.length ≤ 1099511627776) :
 Calls Tryz.prog 142 #[.slice a X.length c] w fun e w' => e = .returned (.tuple #[]) ∧ OwnIs w' base a c (X.mergeSort fun x y => decide (x ≤ y)) ∧ Below base w w' := by
 have hl2 : (X.mergeSort fun x y => decide (x ≤ y)).length = X.length := (List.mergeSort_perm X _).length_eq
 rcases hO.2 with ⟨h1, h2⟩ | ⟨g, c', cur, h1, hbg, hg, hn, hm, hs, ht⟩
 · have h0 : X = [] := List.eq_nil_of_length_eq_zero h2
   subst h0
   refine (AnyM.slices_Sort_int_none Tryz.sort_int a c w).mono ?_
   rintro e w' ⟨he, hw⟩
   subst hw
   exact ⟨he, by simpa using hO, Below.refl _ _⟩
 · obtain ⟨rfl, rfl⟩ : a = some ⟨g, 0, none⟩ ∧ c = c' := by cases h1; exact ⟨rfl, rfl⟩
   have hgl : g < w.heap.size := (Array.getElem?_eq_some_iff.1 hg).1
   rw [Nat.mul_one] at ht
   refine (AnyM.slices_Sort_int Tryz.sort_int g 0 c X w (holds_of_blockI hg ht) hgl (by omega)).mono ?_
   rintro e w' ⟨he, n, os, hw⟩
   subst hw
   refine ⟨he, ?_, (Below.refl base w).grown (grownBy_sortedI _) hb (fun k hk => by cases hk; exact hbg)⟩
   unfold OwnIs
   rw [hl2]
   exact ownsRow_sortedI hl2 hbg hg hn hm hs
theorem info_intL : (Tryz.prog.info? 3).map (fun i => (i.zero, i.size, i.bytes)) = some (some (.int .i64 0), 1, 8) := by kernel_rfl
theorem one_plain {w : World} {g : Nat} {v : Value} {t : TypeId} (h : w.heap[g]? = some (.cells #[v] t (0, 0))) : ∀ j u, [v][j]? = some u → w.cell? ((⟨g, 0, none⟩ : Addr).add j) = some u := by
 intro j u hj
 have : j = 0 := by
  have := (List.getElem?_eq_some_iff.1 hj).1
  simpa using this
 subst this
 have e : (⟨g, 0, none⟩ : Addr).add 0 = ⟨g, 0, none⟩ := rfl
 rw [e]
 exact blk_cell h 0 u hj
section
variable {base tb mb N L : Nat} {T : TreeD} {A : Int → NodeA}
def isLoose (T : TreeD) (i : Int) : Bool := decide ((T.node i).links = 0)
set_option maxRecDepth 100000 in
set_option maxHeartbeats 6400000 in
theorem tree_Loose (w : World) (hT : TreeM w base tb mb N T A) (hg : GoodT T) (hf : FitT T L) (hL : L ≤ 1000000000) :
 Calls Tryz.prog 105 #[.pointer (some ⟨tb, 0, none⟩)] w fun e w' => ∃ a c, e = .returned (.slice a (looseT T).length c) ∧ OwnIs w' w.heap.size a c (looseT T) ∧ Ext w w' := by
 obtain ⟨R, hR⟩ : ∃ R : Ending → World → Prop, R = fun e w' => ∃ a c, e = .returned (.slice a (looseT T).length c) ∧ OwnIs w' w.heap.size a c (looseT T) ∧ Ext w w' := ⟨_, rfl⟩
 rw [← hR]
 have HR := Lib.hid hR; clear hR
 have c1 := blk_cell hT.top 0 (Value.map (some mb)) rfl
 have HT := Lib.hid hT; clear hT
 have HG := Lib.hid hg; clear hg
 have HF := Lib.hid hf; clear hf
 obtain ⟨i0, hi, hz, hsz, hby⟩ := info_parts info_intL
 have HI := Lib.hid hi; clear hi
 have HZ := Lib.hid hz; clear hz
 have HS := Lib.hid hsz; clear hsz
 have HBY := Lib.hid hby; clear hby
 go_enter Tryz.func105, Tryz.ntmps105
 go_wp2_with (first
  | (at_range; refine wpList_range_F rfl _ 201 rfl 200 int_keyedA Tryz.underlying201 mb N (nodeF T A) rfl HT.out.map ?_; intro w0 c0 hg0 hx0 hs0)
  | go_in)
 go_frame
 have hml := HT.out.map.lt
 obtain ⟨r, hr⟩ : ∃ r, r = w.heap.size := ⟨_, rfl⟩
 rw [← hr] at hg0 hml ⊢
 have hrw : w.heap.size ≤ r := by rw [hr]; exact Nat.le_refl _
 have HR0 := Lib.hid hr; clear hr
 have hs1 : w0.heap.size = r + 1 := by have := HR0.out; omega
 obtain ⟨S, hS⟩ : ∃ S, S = w0.heap.size := ⟨_, rfl⟩
 have hSr : S = r + 1 := by omega
 have HX0 := Lib.hid hx0
 have HG0 := Lib.hid hg0
 have HO0 := Lib.hid (OwnIs.none w0 S)
 have HSZ : Hid (S ≤ w0.heap.size) := Lib.hid (by rw [hS]; exact Nat.le_refl _)
 clear hx0 hg0 hs0 c1 hs1 hS
 go_loopw [3] (fun v wr => ∃ (left : Int → Bool) (cnt : Nat) (X : List Int) (a : Option Addr) (c : Nat), v = .slice a X.length c ∧ X.length ≤ L ∧ Hid (MapG keyI wr 3 mb r N (nodeF T A) left cnt) ∧ Hid (X.Perm ((seenT T.ids left).filter (isLoose T))) ∧ Hid (OwnIs wr S a c X) ∧ Hid (Ext w wr) ∧ Hid (S ≤ wr.heap.size)) (fun _ wr => wr.rangeLeft mb r)
 case atStart =>
  refine ⟨_, c0, [], none, 0, rfl, Nat.zero_le _, HG0, Lib.hid ?_, HO0, HX0, HSZ⟩
  rw [seen_none (fun x hx => (nodeF_ids T A x).1 hx)]
  exact List.Perm.refl _
 case round =>
  clear HG0 HX0 HO0 HSZ
  obtain ⟨left, cnt, X, a, c, rfl, hXL, hg, hp, hO, hX, hSw⟩ := hrel
  have HGC := Lib.hid hg.out.count
  go_wp2_with (first
   | (at_next; refine wpList_next_F rfl _ rfl int_keyedA (fun x => .int .i64 x) keyI_inj inv_int mb r N (nodeF T A) left cnt rfl hg.out ?_ ?_)
   | go_in)
  rotate_left
  · intro x v w1' cnt1 hkey hlp hfp hg1 hlt1 hk1 hs1 hen
    obtain ⟨hxm, rfl⟩ := nodeF_some hfp
    have hx1' : Ext w w1' := ((Keep.of_ext (S := fun j => j < w.heap.size) hX.out).andThen hk1 (fun j hj _ => by show j ≠ r; omega)).ext_lt
    have c2 := blk_cell ((HT.out.ext hx1').node x hxm).1 1 (Value.int .i64 (T.node x).links) rfl
    obtain ⟨im, is, iq, ic, hir⟩ := hg.out.iterL
    have hO1 : OwnIs w1' S a c X := ownsRow_keep hO.out hk1 (fun g cur _ _ h3 => by show g ≠ r; intro e; rw [e, hir] at h3; cases h3)
    have hnew := seen_filter HG.out.nodup hxm hlp (isLoose T) hp.out
    have hlen : ((seenT T.ids fun z => left z && !decide (z = x)).filter (isLoose T)).length ≤ L := Nat.le_trans (List.length_filter_le _ _) (Nat.le_trans seen_len HF.out.count)
    rw [← hnew.length_eq] at hlen
    have HNEW := Lib.hid hnew; clear hnew
    have HG1 := Lib.hid hg1
    have HX1' := Lib.hid hx1'
    have HLT1 := Lib.hid hlt1
    have HO1 := Lib.hid hO1
    have HSW : Hid (S ≤ w1'.heap.size) := Lib.hid (Nat.le_trans hSw.out hk1.size)
    clear hg1 hx1' hk1 hs1 hkey hlp hfp hlt1 hir hO1 hxm hp hO hg hX hSw
    by_cases h0 : (T.node x).links = 0
    · have hil : isLoose T x = true := by unfold isLoose; rw [decide_eq_true_eq]; exact h0
      have HIL := Lib.hid hil; clear hil
      rw [HIL.out] at hlen
      simp only [if_true, List.length_append, List.length_cons, List.length_nil] at hlen
      rw [h0] at c2
      go_wp2_with (at_builtin; refine Hid.out ?_)
      refine Lib.hid ?_
      have hx2 := Ext.alloc w1' (.cells #[.int .i64 x] 3)
      have hb2 := heap_alloc_new w1' (.cells #[.int .i64 x] 3)
      have hs2 := World.size_alloc w1' (.cells #[.int .i64 x] 3)
      have HX2 := Lib.hid hx2
      have hO2 := ownsRow_keep HO1.out (Keep.of_ext (S := fun _ => True) hx2) (fun _ _ _ _ _ => trivial)
      have hSW := HSW.out
      refine wpList_append_own _ rfl _ _ 34 rfl S 3 i0 (.int .i64 0) 1 8 Tryz.underlying34 HI.out HZ.out HS.out HBY.out rfl (by decide) (.slice a X.length c) X.length (intV X) rfl hO2 ⟨w1'.heap.size, 0, none⟩ 1 1 [.int .i64 x] rfl rfl (one_plain hb2) (intV_one [x]) (by unfold maxLen; omega) (by omega) (by omega) ?_
      intro v' w3 hown hgrow hnil
      obtain ⟨a', c', rfl, hcc, _, _⟩ := run_of_row hown
      have hO3 : OwnIs w3 S a' c' (X ++ [x]) := by
       unfold OwnIs intV
       rw [List.length_append, List.map_append]
       exact hown
      have hob : ∀ g, (Value.slice a X.length c).ownBlock = some g → S ≤ g := fun g e => (World.ownsRow.lt hO2 g e).1
      have hg3 : MapG keyI w3 3 mb r N (nodeF T A) (fun z => left z && !decide (z = x)) cnt1 := (HG1.out.ext HX2.out).keep (Keep.of_grown hgrow) (fun e => by have := hob mb e.symm; omega) (fun e => by have := hob r e.symm; omega)
      have hx3 : Ext w w3 := ((Keep.of_ext (S := fun j => j < w.heap.size) (HX1'.out.trans HX2.out)).andThen (Keep.of_grown hgrow) (fun j hj _ e => by have := hob j e.symm; omega)).ext_lt
      have hn := HNEW.out
      rw [HIL.out, if_pos rfl] at hn
      have HO3 := Lib.hid hO3
      have HG3 := Lib.hid hg3
      have HX3 := Lib.hid hx3
      have HN := Lib.hid hn
      have HSW3 : Hid (S ≤ w3.heap.size) := Lib.hid (by have := hgrow.size; omega)
      clear hown hgrow hnil hO3 hob hg3 hx3 hn hO2 hb2 hs2 hx2 hSW
      go_wp2_with fail
      go_roundw
      case rel => exact ⟨_, cnt1, X ++ [x], a', c', by simp, by simpa using hlen, HG3, HN, HO3, HX3, HSW3⟩
      case measure =>
       rw [HG3.out.count, HGC.out]
       exact HLT1.out
    · have hil : isLoose T x = false := by unfold isLoose; rw [decide_eq_false_iff_not]; exact h0
      have hn := HNEW.out
      rw [hil, if_neg (by simp)] at hn
      have HN := Lib.hid hn; clear hn hil
      go_wp2_with fail
      go_roundw
      case rel => exact ⟨_, cnt1, X, a, c, rfl, hXL, HG1, HN, HO1, HX1', HSW⟩
      case measure =>
       rw [HG1.out.count, HGC.out]
       exact HLT1.out
  · intro hall
    have hp := hp.out
    rw [seen_all hall] at hp
    have hlo : X.mergeSort (fun x y => decide (x ≤ y)) = looseT T := by
     unfold looseT
     have h1 : ∀ a b c : Int, decide (a ≤ b) = true → decide (b ≤ c) = true → decide (a ≤ c) = true := fun a b c h1 h2 => by simp only [decide_eq_true_eq] at *; omega
     have h2 : ∀ a b : Int, (decide (a ≤ b) || decide (b ≤ a)) = true := fun a b => by simp only [Bool.or_eq_true, decide_eq_true_eq]; omega
     have s1 := List.pairwise_mergeSort h1 h2 X
     have s2 := List.pairwise_mergeSort h1 h2 (T.ids.filter fun i => decide ((T.node i).links = 0))
     exact ((List.mergeSort_perm X _).trans (hp.trans (List.mergeSort_perm _ _).symm)).eq_of_pairwise (fun a b _ _ k1 k2 => by simp only [decide_eq_true_eq] at k1 k2; omega) s1 s2
    have hll : (looseT T).length = X.length := by rw [← hlo]; exact (List.mergeSort_perm X _).length_eq
    have hst := sort_ints S a c X wr hO.out hSw.out (by omega)
    rw [hlo] at hst
    have HST := Lib.hid hst; clear hst
    have HLL := Lib.hid hll; clear hll hlo hp hall
    go_wp2_with (go_at_call 142; refine HST.out.mono ?_; rintro E w6 ⟨rfl, hO6, hb6⟩; have HO6 := Lib.hid hO6; have HB6 := Lib.hid hb6; clear hO6 hb6)
    rw [HR.out]
    refine ⟨a, c, by rw [HLL.out]; rfl, ownsRow_base_a HO6.out (by omega), ?_⟩
    exact ((Keep.of_ext (S := fun j => j < w.heap.size) hX.out).trans ((Keep.of_below HB6.out).mono (fun j _ (hj : j < w.heap.size) => by show j < S; omega))).ext_lt
end
end Go.Proofs.YtefpllpichhojaaGreatDoor
namespace Go.Proofs.YtefpllpichhojaaGreatDoor
open Go.RowKit
def TreeAt (w : World) (base tb N : Nat) (T : TreeD) : Prop := GoodT T ∧ FitT T N ∧ ∃ mb A, TreeM w base tb mb N T A
section
variable {w w' : World} {base tb N : Nat} {T : TreeD}
theorem at_Find (p : By) (hE : Env w) (h : TreeAt w base tb N T) (hN : N ≤ 1000000000) :
 Calls Tryz.prog 69 #[.pointer (some ⟨tb, 0, none⟩), .string (bs p)] w fun e w' => e = .returned (.tuple #[.int .i64 (findT T p), .bool (decide (findT T p ≠ 0))]) ∧ Ext w w' := by
 obtain ⟨h1, h2, mb, A, h3⟩ := h
 exact tree_Find p w hE h3 h1 (by have := h2.next; omega)
end
def opV (x : OpD × OpA) : List Value := [.int .i64 x.1.kind, .string (bs x.1.path), .string (bs x.1.dest), .slice x.2.oa x.1.data.length x.2.oc]
theorem ops_blk {w : World} {g : Nat} {L : List (OpD × OpA)} (hg : w.heap[g]? = some (.cells (L.flatMap opV).toArray 52 (0, 0))) (hb : ∀ x ∈ L, Bytes w x.2.oa x.1.data) : OpsL w (some ⟨g, 0, none⟩) L := by
 refine Or.inr ⟨g, 0, rfl, (Array.getElem?_eq_some_iff.1 hg).1, fun i hi => ?_⟩
 have eL : L.getD i oz = L[i] := by simp [List.getD_eq_getElem?_getD, List.getElem?_eq_getElem hi]
 rw [eL]
 have hcell : ∀ r u, r < 4 → (opV L[i])[r]? = some u → w.cell? ⟨g, 0 + i * 4 + r, none⟩ = some u := by
  intro r u hr hu
  refine blk_cell hg _ u ?_
  have := flat_at (F := opV) (m := 4) (fun _ => rfl) L i r hi hr
  rw [hu] at this
  rw [Nat.zero_add]
  simpa using this
 exact ⟨⟨hcell 0 _ (by omega) rfl, hcell 1 _ (by omega) rfl, hcell 2 _ (by omega) rfl, hcell 3 _ (by omega) rfl⟩, hb _ (List.getElem_mem hi)⟩
end Go.Proofs.YtefpllpichhojaaGreatDoor
namespace Go.Proofs.YtefpllpichhojaaGreatDoor
open Go.RowKit
theorem rNum_short {most : Nat} {s : RSt} (h : s.1.length < 4) : rNum most s = (0, ([], true)) := by unfold rNum; rw [if_pos h]
theorem rNum_big {most : Nat} {s : RSt} (h : 4 ≤ s.1.length) (k : most < le32 s.1) : rNum most s = (0, ([], true)) := by unfold rNum; rw [if_neg (by omega), if_pos k]
theorem rNum_ok {most : Nat} {s : RSt} (h : 4 ≤ s.1.length) (k : le32 s.1 ≤ most) : rNum most s = (le32 s.1, (s.1.drop 4, s.2)) := by unfold rNum; rw [if_neg (by omega), if_neg (by omega)]
theorem byteAt_lt (l : List UInt8) (i : Nat) : byteAt l i < 256 := (l.getD i 0).toNat_lt
def RdR (S : Nat → Prop) (R : Nat) (w : World) (v : Value) (t : RSt) (e : Ending) (w' : World) : Prop := e = .returned v ∧ Rd S w' R t ∧ But R w w'
theorem RdR.of {S : Nat → Prop} {R : Nat} {w w' : World} {v : Value} {t : RSt} (h : But R w w' ∧ Rd S w' R t) : RdR S R w v t (.returned v) w' := ⟨rfl, h.2, h.1⟩
theorem rd_fin_ok {S : Nat → Prop} {w : World} {R g off c k nq : Nat} {s : RSt} {a' : Option Addr} {c' : Nat} {v : Value} (hg : w.heap[R]? = some (.cells #[.slice (some ⟨g, off, none⟩) s.1.length c, .bool s.2] 269 (0, 0))) (hc : s.1.length ≤ c) (hb : BytesS S w (some ⟨g, off, none⟩) s.1) (hk : k ≤ s.1.length)
 (ha : s.1.length = k ∨ a' = some ⟨g, off + k, none⟩) (hc' : s.1.length - k ≤ c') :
 RdR S R w v (s.1.drop k, s.2) (.returned v) ((w.drewN nq).setCell ⟨R, 0, none⟩ (.slice a' (s.1.length - k) c')) := by
 have h := rd_cut (w := w.drewN nq) hg hc (Row.keep hb (Keep.of_ext ((Ext.refl w).drewN nq))) hk ha hc'
 exact ⟨rfl, h.2, ((But.refl R w).drewN nq).trans h.1⟩
theorem rd_fin_bad {S : Nat → Prop} {w : World} {R g off c k nq : Nat} {s : RSt} {a' : Option Addr} {c' : Nat} {v : Value} (hg : w.heap[R]? = some (.cells #[.slice (some ⟨g, off, none⟩) s.1.length c, .bool s.2] 269 (0, 0))) (hc : s.1.length ≤ c) (hb : BytesS S w (some ⟨g, off, none⟩) s.1) (hk : k ≤ s.1.length)
 (ha : s.1.length = k ∨ a' = some ⟨g, off + k, none⟩) (hc' : s.1.length - k ≤ c') :
 RdR S R w v ([], true) (.returned v) ((((w.drewN nq).setCell ⟨R, 0, none⟩ (.slice a' (s.1.length - k) c')).setCell ⟨R, 1, none⟩ (.bool true)).setCell ⟨R, 0, none⟩ (.slice none 0 0)) := by
 have h := rd_fin_ok (nq := nq) (v := v) hg hc hb hk ha hc'
 have h2 := rd_num_bad h.2.1
 exact ⟨rfl, h2.2, h.2.2.trans h2.1⟩
set_option maxHeartbeats 1600000 in
theorem rd_num (S : Nat → Prop) (R most : Nat) (s : RSt) (w : World) (h : Rd S w R s) (hs : s.1.length ≤ 1099511627776) (hm : most ≤ 4294967295) :
 Calls Tryz.prog 154 #[.pointer (some ⟨R, 0, none⟩), .int .i64 (most : Int)] w (RdR S R w (.int .i64 ((rNum most s).1 : Nat)) (rNum most s).2) := by
 have H0 := Lib.hid h
 obtain ⟨a, c, hg, hc, hb⟩ := h
 obtain ⟨n, hn⟩ : ∃ n, n = s.1.length := ⟨_, rfl⟩
 have hg' := hg
 rw [← hn] at hg' hc hs
 obtain ⟨hR0, hR1, hF0, hF1⟩ := rd_facts hg'
 clear hg'
 have HG := Lib.hid hg; clear hg
 by_cases h4 : n < 4
 · have HN := Lib.hid (rNum_short (most := most) (s := s) (by omega))
   have HB := Lib.hid hb; clear hb
   have HNN := Lib.hid hn; clear hn
   go_enter Tryz.func154, Tryz.ntmps154
   go_wp2_with fail
   go_ret
   rw [HN.out]; exact RdR.of (rd_num_bad H0.out)
 · obtain ⟨g, off, rfl, hlt, hcell⟩ := hb.bytes.at (by intro e; rw [hn, e] at h4; simp at h4)
   have hc0 := hcell 0 (by omega)
   have hc1 := hcell 1 (by omega)
   have hc2 := hcell 2 (by omega)
   have hc3 := hcell 3 (by omega)
   rw [Nat.add_zero] at hc0
   have HB := Lib.hid hb; clear hb hcell
   have HNN := Lib.hid hn; clear hn
   have HL := Lib.hid (show le32 s.1 = byteAt s.1 0 + 256 * byteAt s.1 1 + 65536 * byteAt s.1 2 + 16777216 * byteAt s.1 3 from rfl)
   have hl0 := byteAt_lt s.1 0
   have hl1 := byteAt_lt s.1 1
   have hl2 := byteAt_lt s.1 2
   have hl3 := byteAt_lt s.1 3
   generalize hb0 : byteAt s.1 0 = b0 at *
   generalize hb1 : byteAt s.1 1 = b1 at *
   generalize hb2 : byteAt s.1 2 = b2 at *
   generalize hb3 : byteAt s.1 3 = b3 at *
   have H4 : 4 ≤ n := by omega
   have i0 : (0 : Int) < (n : Int) := by omega
   have i1 : (1 : Int) < (n : Int) := by omega
   have i2 : (2 : Int) < (n : Int) := by omega
   have i3 : (3 : Int) < (n : Int) := by omega
   clear hb0 hb1 hb2 hb3
   go_enter Tryz.func154, Tryz.ntmps154
   go_wp2_with fail
   go_quiet (fail)
   simp (disch := omega) only [u32_or8, u32_or16, u32_or24]
   by_cases hbig : most < le32 s.1
   · have HN := Lib.hid (rNum_big (s := s) (by have := HNN.out; omega) hbig)
     have hb2 : (most : Int) < (b0 : Int) + (b1 : Int) * 256 + (b2 : Int) * 65536 + (b3 : Int) * 16777216 := by have := HL.out; omega
     clear hbig
     by_cases hc4 : c = 4
     · go_wp2_with fail
       all_goals first | (exfalso; omega) | skip
       go_ret
       have e := HNN.out
       subst e
       rw [HN.out]; exact rd_fin_bad HG.out hc HB.out H4 (Or.inl (by omega)) (by omega)
     · go_wp2_with fail
       all_goals first | (exfalso; omega) | skip
       go_ret
       have e := HNN.out
       subst e
       rw [HN.out]; exact rd_fin_bad HG.out hc HB.out H4 (Or.inr rfl) (by omega)
   · have HN := Lib.hid (rNum_ok (most := most) (s := s) (by have := HNN.out; omega) (by omega))
     have hb2 : (b0 : Int) + (b1 : Int) * 256 + (b2 : Int) * 65536 + (b3 : Int) * 16777216 ≤ (most : Int) := by have := HL.out; omega
     have HV := Lib.hid (show ((le32 s.1 : Nat) : Int) = (b0 : Int) + (b1 : Int) * 256 + (b2 : Int) * 65536 + (b3 : Int) * 16777216 by have := HL.out; omega)
     clear hbig
     by_cases hc4 : c = 4
     · go_wp2_with fail
       all_goals first | (exfalso; omega) | skip
       go_ret
       have e := HNN.out
       subst e
       rw [HN.out, HV.out]; exact rd_fin_ok HG.out hc HB.out H4 (Or.inl (by omega)) (by omega)
     · go_wp2_with fail
       all_goals first | (exfalso; omega) | skip
       go_ret
       have e := HNN.out
       subst e
       rw [HN.out, HV.out]; exact rd_fin_ok HG.out hc HB.out H4 (Or.inr rfl) (by omega)
end Go.Proofs.YtefpllpichhojaaGreatDoor
namespace Go.Proofs.YtefpllpichhojaaGreatDoor
open Go.RowKit
end Go.Proofs.YtefpllpichhojaaGreatDoor
namespace Go.Proofs.YtefpllpichhojaaGreatDoor
open Go.RowKit
theorem rec_read (a : Option Addr) (c : Nat) (l : List UInt8) (w : World) (hb : Bytes w a l) (hl : l.length ≤ 1099511627776) :
 Calls Tryz.prog 153 #[.slice a l.length c] w fun e w' => ∃ R, e = .returned (.pointer (some ⟨R, 0, none⟩)) ∧ w.heap.size ≤ R ∧ Rd (fun k => w.heap.size ≤ k ∧ k < R) w' R (l, false) ∧ Ext w w' := by
 have HB := Lib.hid hb; clear hb
 go_enter Tryz.func153, Tryz.ntmps153
 go_wp2_with (at_builtin; refine append_bytes rfl (.const (.slice none 0 0)) (.tmp 3) 50 rfl Tryz.underlying50 w.heap.size none 0 [] l 0 l.length rfl rfl rfl (OwnB.nil _ _) a c rfl HB.out (by simpa using hl) (Nat.le_refl _) ?_; intro ad cap w1 hown hx; have hbx := And.intro (hown.fresh (S := fun k => w.heap.size ≤ k) (fun k hk => hk)) hown.bytes; have HBX := Lib.hid hbx; clear hbx hown; have HX := Lib.hid hx; clear hx)
 go_ret
 have hx := HX.out
 refine ⟨w1.heap.size, rfl, hx.size, ⟨ad, cap, ?_, HBX.out.2.2, Row.keep (Row.mono HBX.out.1 (fun k hk hb => ⟨hb, hk⟩)) (Keep.of_ext (Ext.alloc _ _))⟩, Ext.trans hx (Ext.alloc _ _)⟩
 show (w1.heap.push _)[w1.heap.size]? = _
 simp
end Go.Proofs.YtefpllpichhojaaGreatDoor
namespace Go.Proofs.YtefpllpichhojaaGreatDoor
open Go.RowKit
theorem datas_row {w : World} {base E m n : Nat} {v : Value} {us : List Value} (h : w.ownsRow base E m v n us) (hE : E ≠ 5) : Datas (fun g => some g ≠ v.ownBlock) w := by
 intro g cs fr hg e
 have e : some g = v.ownBlock := e
 rcases h.2 with ⟨h1, _⟩ | ⟨g', c, cur, h1, _, hg', _⟩
 · rw [h1] at e; cases e
 · rw [h1] at e
   cases e
   rw [hg] at hg'
   injection (Option.some.inj hg') with _ h2
   exact hE h2.symm
end Go.Proofs.YtefpllpichhojaaGreatDoor
namespace Go.Proofs.YtefpllpichhojaaGreatDoor
open Go.RowKit
variable [Low]
def rowV (z : List UInt8 × OpA) : List Value := [.slice z.2.oa z.1.length z.2.oc]
def RowsM (w : World) (base : Nat) (a : Option Addr) (c : Nat) (D : List (List UInt8)) : Prop :=
 ∃ Z : List (List UInt8 × OpA), Z.map Prod.fst = D ∧ w.ownsRow base 50 1 (.slice a D.length c) D.length (Z.flatMap rowV) ∧ ∀ z ∈ Z, DataM w z.2.oa z.1 ∧ z.1.length ≤ z.2.oc
omit [Low] in
theorem RowsM.nil (w : World) (base : Nat) : RowsM w base none 0 [] := ⟨[], rfl, World.ownsRow_nil _ _ _ _, fun z hz => by cases hz⟩
omit [Low] in
theorem RowsM.keep {S : Nat → Prop} {w w' : World} {base : Nat} {a : Option Addr} {c : Nat} {D : List (List UInt8)} (h : RowsM w base a c D) (k : Keep S w w') (hD : Datas S w) (hS : ∀ g cs fr, w.heap[g]? = some (.cells cs 50 fr) → S g) : RowsM w' base a c D := by
 obtain ⟨Z, h1, h2, h3⟩ := h
 exact ⟨Z, h1, ownsRow_keep h2 k (fun g cur _ _ hg => hS g cur _ hg), fun z hz => ⟨(h3 z hz).1.keep k hD, (h3 z hz).2⟩⟩
omit [Low] in
theorem RowsM.ext {w w' : World} {base : Nat} {a : Option Addr} {c : Nat} {D : List (List UInt8)} (h : RowsM w base a c D) (k : Ext w w') : RowsM w' base a c D :=
 h.keep (Keep.of_ext (S := fun _ => True) k) (datas_all w) (fun _ _ _ _ => trivial)
theorem RowsM.keepT {ts : List TypeId} {w w' : World} {base : Nat} {a : Option Addr} {c : Nat} {D : List (List UInt8)} (h : RowsM w base a c D) (k : KeepT ts w w') (h1 : 5 ∉ ts) (h2 : 50 ∉ ts) : RowsM w' base a c D :=
 h.keep k (KeepT.datas h1) (fun _ _ _ hg => notTy_of hg h2)
omit [Low] in
theorem rows_app {w w3 : World} {base : Nat} {a a' : Option Addr} {c c' : Nat} {D : List (List UInt8)} {Z : List (List UInt8 × OpA)} {l : List UInt8} {o : OpA} (hZ : Z.map Prod.fst = D) (hr : w.ownsRow base 50 1 (.slice a D.length c) D.length (Z.flatMap rowV)) (hz : ∀ z ∈ Z, DataM w z.2.oa z.1 ∧ z.1.length ≤ z.2.oc) (hx : DataM w o.oa l) (hlc : l.length ≤ o.oc)
 (hown : w3.ownsRow base 50 1 (.slice a' (D.length + 1) c') (D.length + 1) (Z.flatMap rowV ++ [.slice o.oa l.length o.oc])) (hk : Keep (fun k => some k ≠ (Value.slice a D.length c).ownBlock) w w3) : RowsM w3 base a' c' (D ++ [l]) := by
 have hD := datas_row hr (by decide)
 refine ⟨Z ++ [(l, o)], by rw [List.map_append, hZ]; rfl, ?_, fun z hzm => ?_⟩
 · rw [List.length_append, List.flatMap_append]
   exact hown
 · rcases List.mem_append.1 hzm with hzm | hzm
   · exact ⟨(hz z hzm).1.keep hk hD, (hz z hzm).2⟩
   · rw [List.mem_singleton.1 hzm]; exact ⟨hx.keep hk hD, hlc⟩
def logV (db : Nat) (L : LogD) (la : Option Addr) (lc : Nat) : Array Value := #[.pointer (some ⟨db, 0, none⟩), .int .i64 (L.epoch : Int), .int .i64 (L.top : Int), .int .i64 (L.half : Int), .int .i64 (L.off : Int), .slice la L.list.length lc, .bool false]
structure LogC (w : World) (lb db kb n : Nat) (img : Img) (C : List (Nat × List UInt8)) (L : LogD) : Prop where
 top : ∃ la lc, w.heap[lb]? = some (.cells (logV db L la lc) 209 (0, 0)) ∧ RowsM w Low.low la lc L.list
 disk : DiskC w db kb n img C
 low : Low.low ≤ lb
def LogM (w : World) (lb db kb n : Nat) (img : Img) (L : LogD) : Prop := LogC w lb db kb n img [] L
def logT : List TypeId := [190, 234, 257, 209, 50]
omit [Low] in
theorem disk_log : ∀ t ∈ diskT, t ∈ logT := by decide
theorem LogC.keepT {ts : List TypeId} {w w' : World} {lb db kb n : Nat} {img : Img} {C : List (Nat × List UInt8)} {L : LogD} (h : LogC w lb db kb n img C L) (k : KeepT ts w w') (h1 : ∀ t ∈ logT, t ∉ ts) (h2 : 5 ∉ ts) : LogC w' lb db kb n img C L := by
 obtain ⟨⟨la, lc, ht, hr⟩, hd, hl⟩ := h
 exact ⟨⟨la, lc, k.heap ht (h1 _ (by decide)), hr.keepT k h2 (h1 _ (by decide))⟩, hd.keepT k (fun t ht => h1 t (disk_log t ht)), hl⟩
theorem LogC.ext {w w' : World} {lb db kb n : Nat} {img : Img} {C : List (Nat × List UInt8)} {L : LogD} (h : LogC w lb db kb n img C L) (k : Ext w w') : LogC w' lb db kb n img C L := by
 obtain ⟨⟨la, lc, ht, hr⟩, hd, hl⟩ := h
 exact ⟨⟨la, lc, k.heap ht, hr.ext k⟩, hd.ext k, hl⟩
section
variable {w : World} {lb db kb n : Nat} {img : Img} {C : List (Nat × List UInt8)} {L : LogD}
theorem log_half (h : DiskC w db kb n img C) (h2 : 2 ≤ n) :
 Calls Tryz.prog 120 #[.pointer (some ⟨db, 0, none⟩)] w fun e w' => e = .returned (.int .i64 (halfN n : Nat)) ∧ w = w' := by
 have hl := disk_Len h
 have hs := h.size
 have HLN := Lib.hid hl; clear hl h
 obtain ⟨Q, hQ⟩ : ∃ Q : Ending → World → Prop, Q = fun e w' => e = .returned (.int .i64 (halfN n : Nat)) ∧ w = w' := ⟨_, rfl⟩
 rw [← hQ]
 have HQ := Lib.hid hQ; clear hQ
 go_enter Tryz.func120, Tryz.ntmps120
 go_wp2_with (go_at_call 148; refine HLN.out.mono ?_; rintro e w1 ⟨rfl, rfl⟩)
 rw [HQ.out]
 refine ⟨?_, rfl⟩
 have e : ((n : Int) - 2) / 2 = ((halfN n : Nat) : Int) := by unfold halfN; omega
 show Ending.returned (.int .i64 (((n : Int) - 2) / 2)) = _
 rw [e]
omit [Low] in
theorem log_sectors (k : Nat) (hk : k ≤ 1000000) :
 Calls Tryz.prog 119 #[.int .i64 k] w fun e w' => e = .returned (.int .i64 (secN k : Nat)) ∧ w = w' := by
 obtain ⟨Q, hQ⟩ : ∃ Q : Ending → World → Prop, Q = fun e w' => e = .returned (.int .i64 (secN k : Nat)) ∧ w = w' := ⟨_, rfl⟩
 rw [← hQ]
 have HQ := Lib.hid hQ; clear hQ
 go_enter Tryz.func119, Tryz.ntmps119
 go_wp2_with fail
 rw [HQ.out]
 refine ⟨?_, rfl⟩
 have e : (16 + (k : Int) + 63 - 1) / 63 = ((secN k : Nat) : Int) := by unfold secN; omega
 show Ending.returned (.int .i64 ((16 + (k : Int) + 63 - 1) / 63)) = _
 rw [e]
end
end Go.Proofs.YtefpllpichhojaaGreatDoor
namespace Go.Proofs.YtefpllpichhojaaGreatDoor
open Go.RowKit
open Classical in
noncomputable def reapT (T : TreeD) (i : Int) : TreeD := if i ∈ T.ids ∧ (T.node i).links = 0 then delT T i else T
noncomputable def reapsT (T : TreeD) (X : List Int) : TreeD := X.foldl reapT T
theorem reapsT_take (T : TreeD) {X : List Int} {k : Nat} (hk : k < X.length) : reapsT T (X.take (k + 1)) = reapT (reapsT T (X.take k)) (X.getD k 0) := by
 unfold reapsT
 rw [List.take_succ_eq_append_getElem hk, List.foldl_append]
 simp [List.getD_eq_getElem?_getD, List.getElem?_eq_getElem hk]
theorem blk_of_cell {w : World} {g o : Nat} {v : Value} (h : w.cell? ⟨g, o, none⟩ = some v) : ∃ cs t fr, w.heap[g]? = some (.cells cs t fr) := by
 unfold World.cell? at h
 cases hg : w.heap[g]? with
 | none => simp [hg] at h
 | some ob =>
   cases ob with
   | cells cs t fr => exact ⟨cs, t, fr, rfl⟩
   | _ => simp [hg] at h
theorem runM_keepm {b : Nat} {w w' : World} {a : Option Addr} {us : List Value} (h : RunM w a us) (k : Keep (· ≠ b) w w') {es : Array MapEntry} {cl : Nat} (hb : w.heap[b]? = some (.map es cl)) : RunM w' a us := by
 rcases h with h | ⟨g, off, ha, hg, hc⟩
 · exact Or.inl h
 · cases us with
   | nil => exact Or.inl rfl
   | cons u us =>
     obtain ⟨cs, t, fr, hgc⟩ := blk_of_cell (hc 0 u rfl)
     have hne : g ≠ b := fun e => by rw [e, hb] at hgc; cases hgc
     exact Or.inr ⟨g, off, ha, Nat.lt_of_lt_of_le hg k.size, fun j u hj => k.cell hne (hc j u hj)⟩
theorem getD_memI {X : List Int} {k : Nat} (hk : k < X.length) : X.getD k 0 ∈ X := by
 have e : X.getD k 0 = X[k] := by simp [List.getD_eq_getElem?_getD, List.getElem?_eq_getElem hk]
 rw [e]; exact List.getElem_mem hk
theorem int_bne0 {a : Int} (h : a ≠ 0) : (a == 0) = false := by simp [h]
section
variable {base tb mb N L : Nat} {T : TreeD} {A : Int → NodeA}
theorem TreeM.look_none {w : World} (h : TreeM w base tb mb N T A) {i : Int} (hi : i ∉ T.ids) (h1 : -9223372036854775808 ≤ i) (h2 : i ≤ 9223372036854775807) :
 (Instr.lookup 201 (.map (some mb)) (.int .i64 i) false).run Tryz.prog w = .ok (.pointer none) w := by
 rw [h.map.lookup int_keyedA Tryz.underlying201 (Tryz.zeroValue200 w) (key_int h1 h2)]
 unfold nodeF
 rw [if_neg hi]
 rfl
set_option maxRecDepth 100000 in
set_option maxHeartbeats 6400000 in
theorem tree_Reap (X : List Int) (ra : Option Addr) (rc : Nat) (w : World) (hT : TreeM w base tb mb N T A) (hX : RunM w ra (intV X)) (hr : ∀ x ∈ X, -9223372036854775808 ≤ x ∧ x ≤ 9223372036854775807) (hl : X.length ≤ 1099511627776) :
 Calls Tryz.prog 130 #[.pointer (some ⟨tb, 0, none⟩), .slice ra X.length rc] w fun e w' => e = .returned (.tuple #[]) ∧ TreeM w' base tb mb N (reapsT T X) A ∧ Keep (· ≠ mb) w w' := by
 obtain ⟨R, hR⟩ : ∃ R : Ending → World → Prop, R = fun e w' => e = .returned (.tuple #[]) ∧ TreeM w' base tb mb N (reapsT T X) A ∧ Keep (· ≠ mb) w w' := ⟨_, rfl⟩
 rw [← hR]
 have HR := Lib.hid hR; clear hR
 have HT := Lib.hid hT; clear hT
 have HXM := Lib.hid hX; clear hX
 have HRG := Lib.hid hr; clear hr
 obtain ⟨n, hn⟩ : ∃ n, n = X.length := ⟨_, rfl⟩
 rw [← hn] at hl ⊢
 have HN := Lib.hid hn; clear hn
 go_enter Tryz.func130, Tryz.ntmps130
 go_wp2_with fail
 go_loopw [9] (fun i wr => ∃ k : Nat, i = .int .i64 k ∧ k ≤ n ∧ Hid (TreeM wr base tb mb N (reapsT T (X.take k)) A) ∧ Hid (RunM wr ra (intV X)) ∧ Hid (Keep (· ≠ mb) w wr)) (fun i _ => n - (intOf i).toNat)
 case atStart => exact ⟨0, rfl, Nat.zero_le _, HT, HXM, Lib.hid (Keep.refl _ _)⟩
 case round =>
  clear HT HXM
  obtain ⟨k, rfl, hk, HT, HXM, HK⟩ := hrel
  by_cases hlt : k < n
  · have hkL : k < X.length := by have := HN.out; omega
    have hst := reapsT_take T hkL
    have hxr := HRG.out _ (getD_memI hkL)
    have HST := Lib.hid hst; clear hst
    have hce : ∃ g off, ra = some ⟨g, off, none⟩ ∧ wr.cell? ⟨g, off + k, none⟩ = some (.int .i64 (X.getD k 0)) := by
     rcases HXM.out with h | ⟨g, off, ha, _, hc⟩
     · have : X = [] := by unfold intV at h; simpa using h
       rw [this] at hkL; simp at hkL
     · refine ⟨g, off, ha, hc k _ ?_⟩
       unfold intV
       rw [List.getElem?_map, List.getElem?_eq_getElem hkL]
       simp [List.getD_eq_getElem?_getD, List.getElem?_eq_getElem hkL]
    obtain ⟨g, off, rfl, c0⟩ := hce
    generalize X.getD k 0 = x at c0 hxr HST
    generalize reapsT T (X.take k) = U at HT HST
    have c1 := blk_cell HT.out.top 0 (Value.map (some mb)) rfl
    by_cases hx : x ∈ U.ids
    · have hlk := HT.out.look hx hxr.1 hxr.2
      have c2 := blk_cell (HT.out.node x hx).1 1 (Value.int .i64 (U.node x).links) rfl
      have HXU := Lib.hid hx; clear hx
      by_cases h0 : (U.node x).links = 0
      · have hrp : reapT U x = delT U x := by unfold reapT; rw [if_pos ⟨HXU.out, h0⟩]
        have HRP := Lib.hid hrp; clear hrp
        rw [h0] at c2
        have hki := key_int hxr.1 hxr.2
        go_wp2_with (at_delete; refine wpList_delete_F rfl _ _ 201 rfl 200 int_keyedA Tryz.underlying201 mb N _ rfl HT.out.map keyI_inj _ x rfl hki ?_; intro w5 hm5 hk5; go_frame)
        have hT5 := HT.out.del x hk5 hm5
        obtain ⟨es, cl, hmb⟩ := HT.out.map.block
        have hX5 := runM_keepm HXM.out hk5 hmb
        have HT5 := Lib.hid hT5
        have HX5 := Lib.hid hX5
        have HK5 := Lib.hid (HK.out.andThen hk5 (fun j _ hj => hj))
        clear hm5 hk5 hT5 hX5 hmb
        go_roundw
        case rel => exact ⟨k + 1, by go_num, by omega, Lib.hid (by rw [HST.out, HRP.out]; exact HT5.out), HX5, HK5⟩
        case measure => simp [intOf]; omega
      · have hrp : reapT U x = U := by unfold reapT; rw [if_neg (fun e => h0 e.2)]
        have HRP := Lib.hid hrp; clear hrp
        have hb := int_bne0 h0
        go_wp2_with fail
        go_roundw
        case rel => exact ⟨k + 1, by go_num, by omega, Lib.hid (by rw [HST.out, HRP.out]; exact HT.out), HXM, HK⟩
        case measure => simp [intOf]; omega
    · have hlk := HT.out.look_none hx hxr.1 hxr.2
      have hrp : reapT U x = U := by unfold reapT; rw [if_neg (fun e => hx e.1)]
      have HRP := Lib.hid hrp; clear hrp hx
      go_wp2_with fail
      go_roundw
      case rel => exact ⟨k + 1, by go_num, by omega, Lib.hid (by rw [HST.out, HRP.out]; exact HT.out), HXM, HK⟩
      case measure => simp [intOf]; omega
  · have hXE : X.take k = X := List.take_of_length_le (by have := HN.out; omega)
    have HXE := Lib.hid hXE; clear hXE
    go_wp2_with fail
    go_end0
    rw [HR.out]
    refine ⟨rfl, ?_, HK.out⟩
    have := HT.out
    rwa [HXE.out] at this
end
end Go.Proofs.YtefpllpichhojaaGreatDoor
namespace Go.Proofs.YtefpllpichhojaaGreatDoor
open Go.RowKit
variable [Low]
theorem TreeM.keepT {ts : List TypeId} {w w' : World} {base tb mb K : Nat} {T : TreeD} {A : Int → NodeA} (h : TreeM w base tb mb K T A) (k : KeepT ts w w') (h1 : 5 ∉ ts) (h2 : 203 ∉ ts) (h3 : 199 ∉ ts) : TreeM w' base tb mb K T A := by
 obtain ⟨es, cl, hm⟩ := h.map.block
 refine h.keep k (KeepT.datas h1) (notTy_of h.top h2) (notTy_map hm) fun i hi => ⟨notTy_of (h.node i hi).1 h3, fun b hb => ?_⟩
 obtain ⟨es, cl, hg⟩ := (h.node i hi).2.2.2.block hb
 exact notTy_map hg
theorem LogC.keepC {S : Nat → Prop} {w w' : World} {lb db kb n : Nat} {img : Img} {C : List (Nat × List UInt8)} {L : LogD} (h : LogC w lb db kb n img C L) (k : Keep S w w') (hS : ∀ g cs t fr, w.heap[g]? = some (.cells cs t fr) → S g) : LogC w' lb db kb n img C L := by
 obtain ⟨⟨la, lc, ht, hr⟩, hd, hl⟩ := h
 exact ⟨⟨la, lc, k.heap (hS _ _ _ _ ht) ht, hr.keep k (fun g cs fr hg => hS g cs _ fr hg) (fun g cs fr hg => hS g cs _ fr hg)⟩, hd.keep k fun g cs t fr hg _ => hS g cs t fr hg, hl⟩
structure VolD where
 T : TreeD
 L : LogD
 img : Img
 q : Int
 hd : Int → Option Nat
def heldV (hd : Int → Option Nat) : Int → Option Value := fun i => (hd i).map fun (k : Nat) => .int .i64 (k : Int)
def heldN (hd : Int → Option Nat) (i : Int) : Nat := (hd i).getD 0
def volV (tb lb hb : Nat) (q : Int) : Array Value := #[.pointer (some ⟨tb, 0, none⟩), .pointer (some ⟨lb, 0, none⟩), .int .i64 q, .map (some hb), .bool false]
structure VolB (X : Nat → Prop) (w : World) (vb db kb n N tb lb hb mb : Nat) (A : Int → NodeA) (V : VolD) : Prop where
 top : w.heap[vb]? = some (.cells (volV tb lb hb V.q) 124 (0, 0))
 tree : TreeM w Low.low tb mb N V.T A
 log : LogM w lb db kb n V.img V.L
 held : MapF keyI w 3 hb N (heldV V.hd)
 ne : hb ≠ mb ∧ ∀ i ∈ V.T.ids, (A i).kb ≠ some hb
 good : GoodT V.T
 fit : FitT V.T N
 glog : GoodLog n V.img V.L
 out : ¬ X hb ∧ ¬ X mb ∧ ∀ g, X g → g < w.heap.size
 lows : Low.low ≤ vb ∧ Low.low ≤ hb
 kids : ∀ i ∈ V.T.ids, ∀ b, (A i).kb = some b → ¬ X b
def VolM (X : Nat → Prop) (w : World) (vb db kb n N : Nat) (V : VolD) : Prop := ∃ tb lb hb mb A, VolB X w vb db kb n N tb lb hb mb A V
def CellX (ts : List TypeId) (X : Nat → Prop) (w : World) (g : Nat) : Prop := g < Low.low ∨ (X g ∧ ∃ es cl, w.heap[g]? = some (.map es cl)) ∨ ∃ cs t fr, w.heap[g]? = some (.cells cs t fr) ∧ t ∉ ts
def KeepX (ts : List TypeId) (X : Nat → Prop) (w w' : World) : Prop := Keep (CellX ts X w) w w'
theorem CellX.keep {ts : List TypeId} {X : Nat → Prop} {a b : World} {g : Nat} (h : CellX ts X a g) (k : KeepX ts X a b) : CellX ts X b g := by
 rcases h with hl | ⟨hx, es, cl, hg⟩ | ⟨cs, t, fr, hg, ht⟩
 · exact Or.inl hl
 · exact Or.inr (Or.inl ⟨hx, es, cl, Keep.heap k (Or.inr (Or.inl ⟨hx, es, cl, hg⟩)) hg⟩)
 · exact Or.inr (Or.inr ⟨cs, t, fr, Keep.heap k (Or.inr (Or.inr ⟨cs, t, fr, hg, ht⟩)) hg, ht⟩)
theorem KeepX.refl (ts : List TypeId) (X : Nat → Prop) (w : World) : KeepX ts X w w := Keep.refl _ _
theorem KeepX.trans {ts : List TypeId} {X : Nat → Prop} {a b c : World} (h : KeepX ts X a b) (k : KeepX ts X b c) : KeepX ts X a c :=
 ⟨k.os.trans h.os, k.tape.trans h.tape, k.output.trans h.output, Nat.le_trans h.size k.size, fun i hi hn => (k.block i (Nat.lt_of_lt_of_le hi h.size) (hn.keep h)).trans (h.block i hi hn)⟩
theorem KeepX.of_ext {ts : List TypeId} {X : Nat → Prop} {a b : World} (h : Ext a b) : KeepX ts X a b := Keep.of_ext h
theorem KeepX.of_keepT {ts us : List TypeId} {X : Nat → Prop} {a b : World} (h : KeepT us a b) (hs : us ⊆ ts) : KeepX ts X a b :=
 Keep.mono h fun g _ hg => by
  rcases hg with hl | ⟨_, es, cl, hg⟩ | ⟨cs, t, fr, hg, ht⟩
  · exact Or.inl hl
  · exact notTy_map hg
  · exact notTy_of hg fun e => ht (hs e)
theorem KeepX.of_map {ts : List TypeId} {X : Nat → Prop} {a b : World} {m : Nat} {es : Array MapEntry} {cl : Nat} (h : Keep (· ≠ m) a b) (hl : Low.low ≤ m) (hx : ¬ X m) (hm : a.heap[m]? = some (.map es cl)) : KeepX ts X a b :=
 Keep.mono h fun g _ hg e => by
  have e : g = m := e
  subst e
  rcases hg with hg | ⟨hg, _⟩ | ⟨cs, t, fr, hg, _⟩
  · omega
  · exact hx hg
  · rw [hm] at hg; cases hg
theorem KeepX.mono {ts us : List TypeId} {X Y : Nat → Prop} {a b : World} (h : KeepX ts X a b) (hs : ts ⊆ us) (hx : ∀ g, Y g → X g) : KeepX us Y a b :=
 Keep.mono h fun g _ hg => hg.imp id fun hg => hg.imp (fun ⟨h1, h2⟩ => ⟨hx g h1, h2⟩) fun ⟨cs, t, fr, h1, h2⟩ => ⟨cs, t, fr, h1, fun e => h2 (hs e)⟩
theorem KeepX.heap {ts : List TypeId} {X : Nat → Prop} {a b : World} (h : KeepX ts X a b) {g : Nat} {cs : Array Value} {t : TypeId} {fr : Nat × Nat} (hg : a.heap[g]? = some (.cells cs t fr)) (ht : t ∉ ts) : b.heap[g]? = some (.cells cs t fr) :=
 Keep.heap h (Or.inr (Or.inr ⟨cs, t, fr, hg, ht⟩)) hg
theorem KeepX.map {ts : List TypeId} {X : Nat → Prop} {a b : World} (h : KeepX ts X a b) {g : Nat} {es : Array MapEntry} {cl : Nat} (hg : a.heap[g]? = some (.map es cl)) (hx : X g) : b.heap[g]? = some (.map es cl) :=
 Keep.heap h (Or.inr (Or.inl ⟨hx, es, cl, hg⟩)) hg
def volT : List TypeId := [124, 203, 190, 234, 257, 209, 50]
omit [Low] in
theorem logT_vol : ∀ t ∈ logT, t ∈ volT := by decide
def KeepY (X : Nat → Prop) (w w' : World) : Prop := KeepX volT X w w'
theorem KeepY.refl (X : Nat → Prop) (w : World) : KeepY X w w := KeepX.refl _ _ _
theorem KeepY.trans {X : Nat → Prop} {a b c : World} (h : KeepY X a b) (k : KeepY X b c) : KeepY X a c := KeepX.trans h k
theorem KeepY.of_ext {X : Nat → Prop} {a b : World} (h : Ext a b) : KeepY X a b := KeepX.of_ext h
theorem KeepY.of_keepT {ts : List TypeId} {X : Nat → Prop} {a b : World} (h : KeepT ts a b) (hs : ts ⊆ volT) : KeepY X a b := KeepX.of_keepT h hs
theorem KeepY.of_map {X : Nat → Prop} {a b : World} {m : Nat} {es : Array MapEntry} {cl : Nat} (h : Keep (· ≠ m) a b) (hl : Low.low ≤ m) (hx : ¬ X m) (hm : a.heap[m]? = some (.map es cl)) : KeepY X a b := KeepX.of_map h hl hx hm
section
variable {X : Nat → Prop} {w w' : World} {vb db kb n N tb lb hb mb : Nat} {A : Int → NodeA} {V : VolD}
theorem VolB.ext (h : VolB X w vb db kb n N tb lb hb mb A V) (k : Ext w w') : VolB X w' vb db kb n N tb lb hb mb A V :=
 ⟨k.heap h.top, h.tree.ext k, h.log.ext k, h.held.ext k, h.ne, h.good, h.fit, h.glog, ⟨h.out.1, h.out.2.1, fun g hg => Nat.lt_of_lt_of_le (h.out.2.2 g hg) k.size⟩, h.lows, h.kids⟩
theorem VolB.mono (h : VolB X w vb db kb n N tb lb hb mb A V) {M : Nat} (hM : N ≤ M) : VolB X w vb db kb n M tb lb hb mb A V :=
 ⟨h.top, h.tree.mono hM, h.log, h.held.mono hM, h.ne, h.good, h.fit.mono hM, h.glog, h.out, h.lows, h.kids⟩
theorem VolM.ext (h : VolM X w vb db kb n N V) (k : Ext w w') : VolM X w' vb db kb n N V := by
 obtain ⟨tb, lb, hb, mb, A, h⟩ := h
 exact ⟨tb, lb, hb, mb, A, h.ext k⟩
theorem VolB.set_held (h : VolB X w vb db kb n N tb lb hb mb A V) (k : Keep (· ≠ hb) w w') {f : Int → Option Nat} {M : Nat} (hM : N ≤ M) (hm : MapF keyI w' 3 hb M (heldV f)) : VolB X w' vb db kb n M tb lb hb mb A { V with hd := f } := by
 obtain ⟨es, cl, hg⟩ := h.held.block
 have hc : ∀ g cs t fr, w.heap[g]? = some (.cells cs t fr) → g ≠ hb := fun g cs t fr hh e => by rw [e, hg] at hh; cases hh
 refine ⟨k.heap (hc _ _ _ _ h.top) h.top, (h.tree.mono hM).keep k (datas_map hg) (hc _ _ _ _ h.tree.top) (fun e => h.ne.1 e.symm) (fun i hi => ⟨hc _ _ _ _ (h.tree.node i hi).1, fun b hb e => h.ne.2 i hi (by rw [hb, e])⟩), ?_, hm, h.ne, h.good, h.fit.mono hM, h.glog, ⟨h.out.1, h.out.2.1, fun g hg => Nat.lt_of_lt_of_le (h.out.2.2 g hg) k.size⟩, h.lows, h.kids⟩
 exact h.log.keepC k fun g cs t fr hh => hc g cs t fr hh
theorem VolM.mono (h : VolM X w vb db kb n N V) {M : Nat} (hM : N ≤ M) : VolM X w vb db kb n M V := by
 obtain ⟨tb, lb, hb, mb, A, h⟩ := h
 exact ⟨tb, lb, hb, mb, A, h.mono hM⟩
theorem VolM.more (h : VolM X w vb db kb n N V) (k : Ext w w') {Y : Nat → Prop} (hY : ∀ g, Y g → X g ∨ (w.heap.size ≤ g ∧ g < w'.heap.size)) : VolM Y w' vb db kb n N V := by
 obtain ⟨tb, lb, hb, mb, A, h⟩ := h
 have h2 := h.ext k
 obtain ⟨es, cl, hg1⟩ := h.held.block
 have hl1 := (Array.getElem?_eq_some_iff.1 hg1).1
 obtain ⟨es2, cl2, hg2⟩ := h.tree.map.block
 have hl2 := (Array.getElem?_eq_some_iff.1 hg2).1
 refine ⟨tb, lb, hb, mb, A, h2.top, h2.tree, h2.log, h2.held, h2.ne, h2.good, h2.fit, h2.glog, ⟨fun hy => ?_, fun hy => ?_, fun g hy => ?_⟩, h2.lows, fun i hi b hb hy => ?_⟩
 · rcases hY _ hy with hx | hx
   · exact h.out.1 hx
   · omega
 · rcases hY _ hy with hx | hx
   · exact h.out.2.1 hx
   · omega
 · rcases hY _ hy with hx | hx
   · exact h2.out.2.2 _ hx
   · exact hx.2
 · rcases hY _ hy with hx | hx
   · exact h.kids i hi b hb hx
   · obtain ⟨es3, cl3, hg3⟩ := (h.tree.node i hi).2.2.2.block hb
     have := (Array.getElem?_eq_some_iff.1 hg3).1
     omega
theorem VolB.keepT {ts : List TypeId} (h : VolB X w vb db kb n N tb lb hb mb A V) (k : KeepT ts w w') (ht : ∀ t ∈ ts, t ∉ 199 :: 5 :: volT) : VolB X w' vb db kb n N tb lb hb mb A V := by
 have h1 : 5 ∉ ts := fun e => ht _ e (by decide)
 have h2 : 203 ∉ ts := fun e => ht _ e (by decide)
 have h3 : 199 ∉ ts := fun e => ht _ e (by decide)
 have h4 : 124 ∉ ts := fun e => ht _ e (by decide)
 obtain ⟨es, cl, hm⟩ := h.held.block
 refine ⟨k.heap h.top h4, h.tree.keepT k h1 h2 h3, LogC.keepT h.log k (fun t h5 h6 => ht _ h6 (List.mem_cons_of_mem _ (List.mem_cons_of_mem _ (logT_vol t h5)))) h1, h.held.keep k (notTy_map hm), h.ne, h.good, h.fit, h.glog, ⟨h.out.1, h.out.2.1, fun g hg => Nat.lt_of_lt_of_le (h.out.2.2 g hg) k.size⟩, h.lows, h.kids⟩
theorem VolM.keepT {ts : List TypeId} (h : VolM X w vb db kb n N V) (k : KeepT ts w w') (ht : ∀ t ∈ ts, t ∉ 199 :: 5 :: volT) : VolM X w' vb db kb n N V := by
 obtain ⟨tb, lb, hb, mb, A, h⟩ := h
 exact ⟨tb, lb, hb, mb, A, h.keepT k ht⟩
theorem VolM.keepM (h : VolM X w vb db kb n N V) {m : Nat} (hx : X m) {es : Array MapEntry} {cl : Nat} (hm : w.heap[m]? = some (.map es cl)) (k : Keep (· ≠ m) w w') : VolM X w' vb db kb n N V := by
 obtain ⟨tb, lb, hb, mb, A, h⟩ := h
 have hc : ∀ g cs t fr, w.heap[g]? = some (.cells cs t fr) → g ≠ m := fun g cs t fr hh e => by rw [e, hm] at hh; cases hh
 refine ⟨tb, lb, hb, mb, A, k.heap (hc _ _ _ _ h.top) h.top, h.tree.keep k (datas_map hm) (hc _ _ _ _ h.tree.top) (fun e => h.out.2.1 (e ▸ hx)) (fun i hi => ⟨hc _ _ _ _ (h.tree.node i hi).1, fun b hb e => h.kids i hi b hb (e ▸ hx)⟩), h.log.keepC k hc, h.held.keep k (fun e => h.out.1 (e ▸ hx)), h.ne, h.good, h.fit, h.glog, ⟨h.out.1, h.out.2.1, fun g hg => Nat.lt_of_lt_of_le (h.out.2.2 g hg) k.size⟩, h.lows, h.kids⟩
omit [Low] in
theorem heldV_set (hd : Int → Option Nat) (i : Int) (k : Nat) : (fun z => if z = i then some (Value.int .i64 (k : Int)) else heldV hd z) = heldV (fun z => if z = i then some k else hd z) := by
 funext z
 unfold heldV
 by_cases h : z = i
 · simp [h]
 · simp [h]
omit [Low] in
theorem heldV_del (hd : Int → Option Nat) (i : Int) : (fun z => if z = i then none else heldV hd z) = heldV (fun z => if z = i then none else hd z) := by
 funext z
 unfold heldV
 by_cases h : z = i
 · simp [h]
 · simp [h]
def holdV (V : VolD) (i : Int) : VolD := { V with hd := fun z => if z = i then some (heldN V.hd i + 1) else V.hd z }
set_option maxRecDepth 100000 in
set_option maxHeartbeats 3200000 in
theorem vol_Hold (hE : Env w) (h : VolM X w vb db kb n N V) (p : By) (i : Int) (hi : findT V.T p = i) (h0 : i ≠ 0) (hdir : (V.T.node i).dir = false) (hN : N + 1 ≤ 1000000000) (hk : heldN V.hd i ≤ 1000000) :
 Calls Tryz.prog 104 #[.pointer (some ⟨vb, 0, none⟩), .string (bs p)] w fun e w' => e = .returned (.tuple #[.int .i64 i, .int .i64 0]) ∧ VolM X w' vb db kb n (N + 1) (holdV V i) ∧ KeepY X w w' := by
 obtain ⟨Q, hQ⟩ : ∃ Q : Ending → World → Prop, Q = fun e w' => e = .returned (.tuple #[.int .i64 i, .int .i64 0]) ∧ VolM X w' vb db kb n (N + 1) (holdV V i) ∧ KeepY X w w' := ⟨_, rfl⟩
 rw [← hQ]
 have HQ := Lib.hid hQ; clear hQ
 obtain ⟨tb, lb, hb, mb, A, h⟩ := h
 have hmem := h.good.find_mem (p := p) (by rw [hi]; exact h0)
 rw [hi] at hmem
 have hbd : -9223372036854775808 ≤ i ∧ i ≤ 9223372036854775807 := by
  have h1 := h.good.low i hmem
  have h2 := h.fit.next
  omega
 have hfd := tree_Find p w hE h.tree h.good (by have := h.fit.next; omega)
 have hdr := fun W hx => tree_Dir p W (hE.ext hx) (h.tree.ext hx) h.good (by have := h.fit.next; omega)
 rw [hi] at hfd hdr
 have c0 := blk_cell h.top 0 (.pointer (some ⟨tb, 0, none⟩)) rfl
 have c3 := blk_cell h.top 3 (.map (some hb)) rfl
 have HFD := Lib.hid hfd; have HDR := Lib.hid hdr; have HV := Lib.hid h; have HB := Lib.hid hbd
 clear hfd hdr h
 have ed : decide (i ≠ 0) = true := decide_eq_true h0
 rw [ed] at HFD
 rw [ed, hdir] at HDR
 have hkn : ((heldV V.hd i).getD (.int .i64 0)) = .int .i64 (heldN V.hd i : Nat) := by unfold heldV heldN; cases V.hd i <;> rfl
 have HKN := Lib.hid hkn; clear hkn
 generalize hkk : heldN V.hd i = k at HKN hk
 have HKK := Lib.hid hkk; clear hkk ed
 go_enter Tryz.func104, Tryz.ntmps104
 go_wp2_with (first
  | (go_at_call 69; refine HFD.out.mono ?_; rintro e w1 ⟨rfl, hx1⟩; have c0 := hx1.cell c0; have c3 := hx1.cell c3; have HX1 := Lib.hid hx1; clear hx1)
  | (go_at_call 70; refine (HDR.out _ HX1.out).mono ?_; rintro e w2 ⟨rfl, hx2⟩; have c3 := hx2.cell c3; have HX2 := Lib.hid hx2; have HV2 := Lib.hid (HV.out.ext (HX1.out.trans hx2)); clear hx2)
  | (at_lookup; refine wpList_look_F rfl _ _ 122 rfl 3 int_keyedA Tryz.underlying122 _ (Tryz.zeroValue3 _) hb N (heldV V.hd) rfl HV2.out.held _ i rfl (key_int HB.out.1 HB.out.2) ?_; rw [HKN.out])
  | (at_mapUpdate; refine wpList_store_F rfl _ _ _ 122 rfl 3 int_keyedA Tryz.underlying122 hb N _ rfl HV2.out.held (by unfold maxLen; omega) keyI_inj _ (.int .i64 ((k + 1 : Nat) : Int)) i rfl rfl (key_int HB.out.1 HB.out.2) ?_; intro w3 hm3 hk3))
 rw [HQ.out]
 refine ⟨rfl, ⟨tb, lb, hb, mb, A, ?_⟩, ?_⟩
 · have := HV2.out.set_held (f := fun z => if z = i then some (k + 1) else V.hd z) (M := N + 1) hk3 (by omega) (by rw [← heldV_set]; exact hm3)
   unfold holdV
   rw [HKK.out]
   exact this
 · obtain ⟨es, cl, hg⟩ := HV2.out.held.block
   exact (KeepY.of_ext (HX1.out.trans HX2.out)).trans (KeepY.of_map hk3 HV2.out.lows.2 HV2.out.out.1 hg)
end
end Go.Proofs.YtefpllpichhojaaGreatDoor
