/- graph.put: a unit stands behind some others. -/
import Derived.Test.YtefpllpichhojaaGreatDoorM11
import Derived.Test.YtefpllpichhojaaGreatDoorM14
namespace Go.Proofs.YtefpllpichhojaaGreatDoor
open Go.RowKit
def PutR (U : List UnitD) (base hb N : Nat) (b : Bs → List Bs) (A : BehA) (n : Bs) (os : List Bs) (w : World) (e : Ending) (w' : World) : Prop :=
 e = .returned (.tuple #[]) ∧ ∃ A', BehM w' base hb (N + os.length) (putU U b n os) A' ∧ Keep (fun g => g ≠ hb ∧ ¬ RowsB b A g) w w' ∧ ∀ g, RowsB (putU U b n os) A' g → RowsB b A g ∨ w.heap.size ≤ g
theorem unitF_val (U : List UnitD) (A : GraphA) (n : Bs) : ∃ V AV CV, (unitF U A n).getD (.agg (unitC uzD (fun _ => none) (fun _ => 0))) = .agg (unitC V AV CV) := by
 unfold unitF
 cases getU U n with
 | none => exact ⟨uzD, fun _ => none, fun _ => 0, rfl⟩
 | some u => exact ⟨u, A.ua n, A.uc n, rfl⟩
set_option maxRecDepth 100000 in
set_option maxHeartbeats 6400000 in
theorem graph_put {w : World} {gb ub hb N M base : Nat} {ov : Value} {U : List UnitD} {A0 : GraphA} {b : Bs → List Bs} {A : BehA} (ht : w.heap[gb]? = some (.cells #[.map (some ub), .map (some hb), ov] 164 (0, 0))) (hu : MapF keyS w 9 ub M (unitF U A0)) (hB : BehM w base hb N b A) (hne : ub ≠ hb)
 (n : Bs) (os : List Bs) (a : Option Addr) (c : Nat) (hS : Strs w a os) (hap : ∀ x, a = some x → x.block ≠ hb ∧ ¬ RowsB b A x.block) (hn : n.length ≤ 100000) (hos : ∀ x ∈ os, x.length ≤ 100000) (hl : os.length ≤ 100000) (hN : N + os.length ≤ 100000) (hbase : base ≤ w.heap.size) (hbl : ∀ z, (b z).length ≤ 1000000) :
 Calls Tryz.prog 92 #[.pointer (some ⟨gb, 0, none⟩), .string (bs n), .slice a os.length c] w (PutR U base hb N b A n os w) := by
 obtain ⟨R, hR⟩ : ∃ R, R = PutR U base hb N b A n os w := ⟨_, rfl⟩
 rw [← hR]
 have HR := Lib.hid hR; clear hR
 obtain ⟨es, cl, hmb⟩ := hB.map.block
 have hgne : gb ≠ hb := fun e => by rw [e, hmb] at ht; cases ht
 have hgr : ¬ RowsB b A gb := fun h => by
  obtain ⟨_, _, cs, hc⟩ := hB.lt h
  rw [hc] at ht
  injection (Option.some.inj ht) with _ h3
  exact absurd h3 (by decide)
 have hur : ¬ RowsB b A ub := fun h => by
  obtain ⟨_, _, cs, hc⟩ := hB.lt h
  obtain ⟨es', cl', hm'⟩ := hu.block
  rw [hc] at hm'; cases hm'
 have c0 := blk_cell ht 0 (.map (some ub)) rfl
 have hlk := hu.look_ok str_keyed Tryz.underlying161 (Tryz.zeroValue84 w) (key_by hn)
 obtain ⟨V, AV, CV, hV⟩ := unitF_val U A0 n
 have hz : (.agg #[.string ⟨#[]⟩, .slice none 0 0, .slice none 0 0, .slice none 0 0, .slice none 0 0, .slice none 0 0, .slice none 0 0, .int .i64 0] : Value) = .agg (unitC uzD (fun _ => none) (fun _ => 0)) := rfl
 rw [hz, hV, unitF_some] at hlk
 unfold unitC at hlk
 cases hh : hasU U n with
 | false =>
   rw [hh] at hlk
   have HB := Lib.hid hB; have HH := Lib.hid hh
   clear hB hh hu hS hap ht hmb hV hz hos hbl hgr hur hgne
   go_enter Tryz.func92, Tryz.ntmps92
   go_wp2_with fail
   go_end0
   rw [HR.out]
   refine ⟨rfl, A, ?_, Keep.of_ext (Ext.alloc _ _), fun g hg => Or.inl ?_⟩
   · rw [putU_no HH.out]; exact (HB.out.ext (Ext.alloc _ _)).mono (by omega)
   · rw [putU_no HH.out] at hg; exact hg
 | true =>
   rw [hh] at hlk
   have hx1 : Ext w (w.alloc (.cells (unitC V AV CV) 84)) := Ext.alloc _ _
   unfold unitC at hx1
   have HB := Lib.hid hB; have HH := Lib.hid hh; have HU := Lib.hid hu; have HS := Lib.hid hS; have HAP := Lib.hid hap; have HT := Lib.hid ht; have HOS := Lib.hid hos; have HBL := Lib.hid hbl; have HGR := Lib.hid hgr; have HUR := Lib.hid hur; have HGN := Lib.hid hgne; have HNE := Lib.hid hne; have HNL := Lib.hid hn; have HBS := Lib.hid hbase; have HX1 := Lib.hid hx1
   clear hB hh hu hS hap ht hmb hV hz hos hbl hgr hur hgne hne hn hbase hx1
   go_enter Tryz.func92, Tryz.ntmps92
   go_wp2_with fail
   clear hlk c0
   go_loopw [25] (fun i wr => ∃ (k : Nat) (Ak : BehA), i = .int .i64 k ∧ k ≤ os.length ∧ Hid (BehM wr base hb (N + k) (putU U b n (os.take k)) Ak) ∧ Hid (Keep (fun g => g ≠ hb ∧ ¬ RowsB b A g) w wr) ∧ Hid (∀ g, RowsB (putU U b n (os.take k)) Ak g → RowsB b A g ∨ w.heap.size ≤ g)) (fun i _ => os.length - (intOf i).toNat)
   case atStart => exact ⟨0, A, rfl, Nat.zero_le _, Lib.hid (by rw [List.take_zero, putU_nil]; exact HB.out.ext HX1.out), Lib.hid (Keep.of_ext HX1.out), Lib.hid fun g hg => Or.inl (by rw [List.take_zero, putU_nil] at hg; exact hg)⟩
   case round =>
    obtain ⟨k, Ak, rfl, hk, hBk, hkp, hrw⟩ := hrel
    by_cases hlt : k < os.length
    · obtain ⟨g, off, ha, hcs⟩ : ∃ g off, a = some ⟨g, off, none⟩ ∧ ∀ i, i < os.length → w.cell? ⟨g, off + i, none⟩ = some (.string (bs (os.getD i []))) := by
       rcases HS.out with h | ⟨g, off, ha, _, hc⟩
       · rw [h] at hlt; simp at hlt
       · exact ⟨g, off, ha, hc⟩
      have h1 := hkp.out.cell (HAP.out _ ha) (hcs k hlt)
      subst ha
      clear hcs
      obtain ⟨x, hxx⟩ : ∃ x, x = os.getD k [] := ⟨_, rfl⟩
      rw [← hxx] at h1
      have hxm : x ∈ os := by
       rw [hxx, List.getD_eq_getElem?_getD, List.getElem?_eq_getElem hlt]; exact List.getElem_mem hlt
      have hxl := HOS.out x hxm
      have htk : os.take (k + 1) = os.take k ++ [x] := by
       rw [hxx, List.getD_eq_getElem?_getD, List.getElem?_eq_getElem hlt, Option.getD_some, List.take_succ_eq_append_getElem hlt]
      have ht2 := hkp.out.heap ⟨HGN.out, HGR.out⟩ HT.out
      have c0 := blk_cell ht2 0 (.map (some ub)) rfl
      have hu2 := HU.out.keep hkp.out ⟨HNE.out, HUR.out⟩
      have hlk := hu2.look_ok str_keyed Tryz.underlying161 (Tryz.zeroValue84 wr) (key_by hxl)
      obtain ⟨V2, AV2, CV2, hV2⟩ := unitF_val U A0 x
      have hz : (.agg #[.string ⟨#[]⟩, .slice none 0 0, .slice none 0 0, .slice none 0 0, .slice none 0 0, .slice none 0 0, .slice none 0 0, .int .i64 0] : Value) = .agg (unitC uzD (fun _ => none) (fun _ => 0)) := rfl
      rw [hz, hV2, unitF_some] at hlk
      have hxa : Ext wr (wr.alloc (.cells (unitC V2 AV2 CV2) 84)) := Ext.alloc _ _
      unfold unitC at hlk hxa
      have HTK := Lib.hid htk; have HT2 := Lib.hid ht2; have HXA := Lib.hid hxa
      clear htk ht2 hxa hu2 hV2 hz hxx hxm
      cases hhx : hasU U x with
      | false =>
        rw [hhx] at hlk
        have HHX := Lib.hid hhx; clear hhx
        go_wp2_with fail
        go_roundw
        case rel =>
         have e : putU U b n (os.take (k + 1)) = putU U b n (os.take k) := by rw [HTK.out, putU_snoc HH.out, if_neg (by rw [HHX.out]; simp)]
         exact ⟨k + 1, Ak, by go_num, by omega, Lib.hid (by rw [e]; exact (hBk.out.ext HXA.out).mono (by omega)), Lib.hid (hkp.out.trans (Keep.of_ext HXA.out)), Lib.hid (by rw [e]; exact hrw.out)⟩
        case measure => simp [intOf]; omega
      | true =>
        rw [hhx] at hlk
        have e : putU U b n (os.take (k + 1)) = fun z => if z = n then putU U b n (os.take k) n ++ [x] else putU U b n (os.take k) z := by rw [HTK.out, putU_snoc HH.out, if_pos hhx]
        have hlb : (putU U b n (os.take k) n).length ≤ 1100000 := by
         unfold putU
         rw [if_pos ⟨rfl, HH.out⟩, List.length_append]
         have h1 := HBL.out n
         have h2 := List.length_filter_le (hasU U) (os.take k)
         rw [List.length_take] at h2
         omega
        obtain ⟨bk, hbk⟩ : ∃ bk, bk = putU U b n (os.take k) := ⟨_, rfl⟩
        rw [← hbk] at e hlb hrw hBk
        have HEQ := Lib.hid e; have HLN := Lib.hid hlb; have HBK := hBk
        clear e hlb hhx hbk
        go_upto_region 7 with (fail)
        have hx5 := HXA.out
        generalize wr.alloc (.cells #[.string (bs V2.name), .slice (AV2 1) V2.files.length (CV2 1), .slice (AV2 2) V2.after.length (CV2 2), .slice (AV2 3) V2.before.length (CV2 3), .slice (AV2 4) V2.reqs.length (CV2 4), .slice (AV2 5) V2.wants.length (CV2 5), .slice (AV2 6) V2.partof.length (CV2 6), .int .i64 V2.retry] 84) = wr2 at hx5 ⊢
        obtain ⟨mes, mcl, hmb⟩ := hBk.out.map.block
        have hgr : ¬ RowsB bk Ak gb := fun h => by
         obtain ⟨_, _, cs, hc⟩ := hBk.out.lt h
         rw [HT2.out] at hc
         injection (Option.some.inj hc) with _ h3
         exact absurd h3 (by decide)
        have hhr : ¬ RowsB bk Ak hb := fun h => by
         obtain ⟨_, _, cs, hc⟩ := hBk.out.lt h
         rw [hmb] at hc; cases hc
        have HHR := Lib.hid hhr
        have hcs : ∀ W, Keep (fun g => g ≠ hb ∧ ¬ RowsB bk Ak g) wr W → W.cell? ⟨gb, 1, none⟩ = some (.map (some hb)) := fun W kk => blk_cell (kk.heap ⟨HGN.out, hgr⟩ HT2.out) 1 _ rfl
        have HCS := Lib.hid hcs
        have HMB := Lib.hid hmb
        have HX := Lib.hid hx5.drew
        have HK := Lib.hid (Keep.of_ext (S := fun g => g ≠ hb ∧ ¬ RowsB bk Ak g) hx5.drew)
        have HNK : Hid (N + k < 200000) := Lib.hid (by omega)
        clear hx5 hgr hhr hcs hmb c0 hlk h1
        refine wp_region_noPanic ?_
        refine wp_region_held_drew (S := (fun W => W.cell? ⟨gb, 1, none⟩ = some (.map (some hb)))) (by kernel_rfl) (HCS.out _ HK.out) (fun hHeld => ?_)
        clear hHeld
        generalize wr2.drew = wc at HK HX ⊢
        refine wpAnyH_take (i := 0) (v := ?_) rfl (by kernel_rfl) (by kernel_rfl) (by kernel_rfl) (fun _ _ _ h => h) (Or.inl ⟨by kernel_rfl, ?_⟩) (HCS.out _ HK.out) ?_
        rotate_left
        · (intro wq _; first | (go_simp; done) | (go_simp; with_reducible rfl))
        try simp only [List.getElem_toArray, List.getElem_cons_zero, Act.put, List.setIfInBounds_toArray, List.set_cons_zero, List.set_cons_succ]
        refine wpAnyH_take (i := 1) (v := ?_) rfl (by kernel_rfl) (by kernel_rfl) (by kernel_rfl) (fun _ _ _ h => h) (Or.inl ⟨by kernel_rfl, ?_⟩) (HCS.out _ HK.out) ?_
        rotate_left
        · (intro wq _; first | (go_simp; done) | (go_simp; with_reducible rfl))
        try simp only [List.getElem_toArray, List.getElem_cons_zero, List.getElem_cons_succ, Act.put, List.setIfInBounds_toArray, List.set_cons_zero, List.set_cons_succ]
        refine wpAnyH_take (i := 2) (v := ?_) rfl (by kernel_rfl) (by kernel_rfl) (by kernel_rfl) (fun _ _ _ h => h) (Or.inl ⟨by kernel_rfl, ?_⟩) (HCS.out _ HK.out) ?_
        rotate_left
        · (intro wq _; first | (go_simp; done) | (go_simp; with_reducible rfl))
        try simp only [List.getElem_toArray, List.getElem_cons_zero, List.getElem_cons_succ, Act.put, List.setIfInBounds_toArray, List.set_cons_zero, List.set_cons_succ]
        refine wpAnyH_take (i := 3) (v := ?_) rfl (by kernel_rfl) (by kernel_rfl) (by kernel_rfl) (fun _ _ _ h => h) (Or.inl ⟨by kernel_rfl, ?_⟩) (HCS.out _ HK.out) ?_
        rotate_left
        · (intro wq hSw; (try dsimp only at hSw); first | (go_simp; done) | (go_simp; with_reducible rfl))
        try simp only [List.getElem_toArray, List.getElem_cons_zero, List.getElem_cons_succ, Act.put, List.setIfInBounds_toArray, List.set_cons_zero, List.set_cons_succ]
        refine wpAnyH_take (i := 4) (v := ?_) rfl (by kernel_rfl) (by kernel_rfl) (by kernel_rfl) (fun _ _ _ h => h) (Or.inl ⟨by kernel_rfl, ?_⟩) (HCS.out _ HK.out) ?_
        rotate_left
        · (intro wq _; first | (go_simp; done) | (go_simp; with_reducible rfl))
        try simp only [List.getElem_toArray, List.getElem_cons_zero, List.getElem_cons_succ, Act.put, List.setIfInBounds_toArray, List.set_cons_zero, List.set_cons_succ]
        refine wpAnyH_take (i := 5) (v := ?_) rfl (by kernel_rfl) (by kernel_rfl) (by kernel_rfl) (fun _ _ _ h => h) (Or.inl ⟨by kernel_rfl, ?_⟩) (HCS.out _ HK.out) ?_
        rotate_left
        · (intro wq _; first | (go_simp; done) | (go_simp; with_reducible rfl))
        try simp only [List.getElem_toArray, List.getElem_cons_zero, List.getElem_cons_succ, Act.put, List.setIfInBounds_toArray, List.set_cons_zero, List.set_cons_succ]
        refine wpAnyH_take (i := 6) (v := ?_) rfl (by kernel_rfl) (by kernel_rfl) (by kernel_rfl) (fun _ _ _ h => h) (Or.inl ⟨by kernel_rfl, ?_⟩) (HCS.out _ HK.out) ?_
        rotate_left
        · (intro wq _; first | (go_simp; done) | (go_simp; with_reducible rfl))
        try simp only [List.getElem_toArray, List.getElem_cons_zero, List.getElem_cons_succ, Act.put, List.setIfInBounds_toArray, List.set_cons_zero, List.set_cons_succ]
        refine wpAnyH_take (i := 7) (v := ?_) rfl (by kernel_rfl) (by kernel_rfl) (by kernel_rfl) (fun _ _ _ h => h) (Or.inl ⟨by kernel_rfl, ?_⟩) (HCS.out _ HK.out) ?_
        rotate_left
        · (intro wq _; first | (go_simp; done) | (go_simp; with_reducible rfl))
        try simp only [List.getElem_toArray, List.getElem_cons_zero, List.getElem_cons_succ, Act.put, List.setIfInBounds_toArray, List.set_cons_zero, List.set_cons_succ]
        refine wpAnyH_take (i := 8) (v := ?_) rfl (by kernel_rfl) (by kernel_rfl) (by kernel_rfl) (fun _ _ _ h => h) (Or.inl ⟨by kernel_rfl, ?_⟩) (HCS.out _ HK.out) ?_
        rotate_left
        · (intro wq hSw; (try dsimp only at hSw); first | (go_simp; done) | (go_simp; with_reducible rfl))
        try simp only [List.getElem_toArray, List.getElem_cons_zero, List.getElem_cons_succ, Act.put, List.setIfInBounds_toArray, List.set_cons_zero, List.set_cons_succ]
        refine wpAnyH_take (i := 9) (v := ?_) rfl (by kernel_rfl) (by kernel_rfl) (by kernel_rfl) (fun _ _ _ h => h) (Or.inl ⟨by kernel_rfl, ?_⟩) (HCS.out _ HK.out) ?_
        rotate_left
        · (intro wq _; first | (go_simp; done) | (go_simp; with_reducible rfl))
        try simp only [List.getElem_toArray, List.getElem_cons_zero, List.getElem_cons_succ, Act.put, List.setIfInBounds_toArray, List.set_cons_zero, List.set_cons_succ]
        refine wpAnyH_take (i := 11) (v := ?_) rfl (by kernel_rfl) (by kernel_rfl) (by kernel_rfl) (fun _ _ _ h => h) (Or.inl ⟨by kernel_rfl, ?_⟩) (HCS.out _ HK.out) ?_
        rotate_left
        · (intro wq _; first | (go_simp; done) | (go_simp; with_reducible rfl))
        try simp only [List.getElem_toArray, List.getElem_cons_zero, List.getElem_cons_succ, Act.put, List.setIfInBounds_toArray, List.set_cons_zero, List.set_cons_succ]
        all_goals (
         first
          | refine wpAnyH_ready (rs := [10, 12]) (by decide +kernel) (by simp) ?_
         repeat' (first | exact AllReadyH.nil | (refine AllReadyH.cons rfl (fun K hK => ?_) ?_)))
        all_goals (
         first
          | (go_simp
             first
              | (have hlv := (HBK.out.map.ext HX.out).lookup str_keyed Tryz.underlying162 (Tryz.zeroValue29 wc) (key_by HNL.out)
                 rw [BehM.lookV] at hlv
                 go_simp
                 refine hK.out _ _ (HCS.out _ HK.out) (fun _ => ?_)
                 clear hK K hlv
                 try simp only [List.getElem_toArray, List.getElem_cons_zero, List.getElem_cons_succ, Act.put, List.setIfInBounds_toArray, List.set_cons_zero, List.set_cons_succ])
              | (have hx := Ext.alloc wc (.cells #[.string (bs x)] 9)
                 have hbn := heap_alloc_new wc (.cells #[.string (bs x)] 9)
                 refine hK.out _ (wc.alloc (.cells #[.string (bs x)] 9)) (HCS.out _ (HK.out.trans (Keep.of_ext hx))) (fun _ => ?_)
                 clear hK K
                 replace HK := Lib.hid (HK.out.trans (Keep.of_ext hx))
                 replace HX := Lib.hid (Ext.trans HX.out hx)
                 obtain ⟨G, hG⟩ : ∃ x, x = wc.heap.size := ⟨_, rfl⟩
                 rw [← hG] at hbn ⊢
                 have HG := Lib.hid hbn
                 clear hbn hG hx
                 generalize wc.alloc (.cells #[.string (bs x)] 9) = wc at *
                 try simp only [List.getElem_toArray, List.getElem_cons_zero, List.getElem_cons_succ, Act.put, List.setIfInBounds_toArray, List.set_cons_zero, List.set_cons_succ])))
        all_goals (
         first
          | refine wpAnyH_ready (rs := [12]) (by decide +kernel) (by simp) ?_
          | refine wpAnyH_ready (rs := [10]) (by decide +kernel) (by simp) ?_
         repeat' (first | exact AllReadyH.nil | (refine AllReadyH.cons rfl (fun K hK => ?_) ?_)))
        all_goals (
         first
          | (go_simp
             first
              | (have hlv := (HBK.out.map.ext HX.out).lookup str_keyed Tryz.underlying162 (Tryz.zeroValue29 wc) (key_by HNL.out)
                 rw [BehM.lookV] at hlv
                 go_simp
                 refine hK.out _ _ (HCS.out _ HK.out) (fun _ => ?_)
                 clear hK K hlv
                 try simp only [List.getElem_toArray, List.getElem_cons_zero, List.getElem_cons_succ, Act.put, List.setIfInBounds_toArray, List.set_cons_zero, List.set_cons_succ])
              | (have hx := Ext.alloc wc (.cells #[.string (bs x)] 9)
                 have hbn := heap_alloc_new wc (.cells #[.string (bs x)] 9)
                 refine hK.out _ (wc.alloc (.cells #[.string (bs x)] 9)) (HCS.out _ (HK.out.trans (Keep.of_ext hx))) (fun _ => ?_)
                 clear hK K
                 replace HK := Lib.hid (HK.out.trans (Keep.of_ext hx))
                 replace HX := Lib.hid (Ext.trans HX.out hx)
                 obtain ⟨G, hG⟩ : ∃ x, x = wc.heap.size := ⟨_, rfl⟩
                 rw [← hG] at hbn ⊢
                 have HG := Lib.hid hbn
                 clear hbn hG hx
                 generalize wc.alloc (.cells #[.string (bs x)] 9) = wc at *
                 try simp only [List.getElem_toArray, List.getElem_cons_zero, List.getElem_cons_succ, Act.put, List.setIfInBounds_toArray, List.set_cons_zero, List.set_cons_succ])))
        all_goals (
         first
          | refine wpAnyH_ready (rs := [13]) (by decide +kernel) (by simp) ?_
         repeat' (first | exact AllReadyH.nil | (refine AllReadyH.cons rfl (fun K hK => ?_) ?_)))
        all_goals (
         first
          | (refine step_append_at (by rfl) _ _ 29 9 (.string ⟨#[]⟩) 1 16 (by rfl) Tryz.underlying29 info_string rfl (by decide) base (behRow bk Ak n) (bk n).length (behCap bk Ak n) (textV (bk n)) (by simp [Act.eval]) ((HBK.out.row n).ext HX.out) ⟨G, 0, none⟩ 1 1 (textV [x]) (by simp [Act.eval]) (by rfl) (run_blk HG.out) (textV_one [x]) (by have := HLN.out; omega) (by decide) (by have h1 := HBS.out; have h2 := hkp.out.size; have h3 := HX.out.size; omega) ((bk n).length + 1) rfl ?_
             intro ad cap wn hown hk3 hat
             have hkq : Keep (fun g => g ≠ hb ∧ ¬ RowsB bk Ak g) wc wn := hk3.mono fun g _ hg e => by
              obtain ⟨z, hz, e3⟩ := ownBlock_some e.symm
              exact hg.2 ⟨n, z, hz, e3.symm⟩
             have HAT := Lib.hid hat
             have HOWN := Lib.hid hown
             have HKP := Lib.hid hk3
             refine hK.out _ _ (HCS.out _ (HK.out.trans hkq)) (fun _ => ?_)
             clear hK K hown hat hk3 HG
             replace HK := Lib.hid (HK.out.trans hkq)
             clear hkq
             obtain ⟨wd, hwd⟩ : ∃ x : World, x = wc := ⟨_, rfl⟩
             rw [← hwd] at HX HAT HKP
             clear hwd
             rename_i wo
             try clear wo
             obtain ⟨wc, rfl⟩ : ∃ x : World, x = wn := ⟨_, rfl⟩
             try simp only [List.getElem_toArray, List.getElem_cons_zero, List.getElem_cons_succ, Act.put, List.setIfInBounds_toArray, List.set_cons_zero, List.set_cons_succ]))
        all_goals (
         refine wpAnyH_ready (rs := [14]) (by kernel_rfl) (by simp) ?_
         refine AllReadyH.cons rfl (fun K hK => ?_) AllReadyH.nil
         have hmw := (HBK.out.map.ext HX.out).keep HKP.out (fun e => by
          obtain ⟨z, hz, e3⟩ := ownBlock_some e.symm
          exact HHR.out ⟨n, z, hz, e3.symm⟩)
         have hmb3 := hmw.block
         obtain ⟨wn, hrun, hmn, hkn⟩ := hmw.store (t := 162) str_keyed Tryz.underlying162 (by have := HNK.out; unfold maxLen; omega) keyS_inj (.slice ad ((bk n).length + 1) cap) (key_by HNL.out)
         have HMB3 := Lib.hid hmb3
         have HKN := Lib.hid hkn
         have HMN := Lib.hid hmn
         clear hmw hmb3 hmn
         go_simp
         refine hK.out _ _ (HCS.out _ (HK.out.trans (hkn.mono fun g _ hg => hg.1))) (fun _ => ?_)
         clear hK K hrun hkn
         try simp only [List.getElem_toArray, List.getElem_cons_zero, List.getElem_cons_succ, Act.put, List.setIfInBounds_toArray, List.set_cons_zero, List.set_cons_succ])
        all_goals (
         refine wpAnyH_done (by kernel_rfl) ?_ _
         refine NoPanic.normal ?_
         go_wp2_with fail
         have hown2 : OwnS wc base ad cap (bk n ++ [x]) := by
          have h := HOWN.out
          unfold OwnS
          simpa [textV] using h
         obtain ⟨A2, hb2, hk2, hr2⟩ := HBK.out.put HX.out n x hown2 HKP.out HAT.out (by rw [List.length_append]; exact HMN.out) HKN.out HMB3.out
         have HB2 := Lib.hid hb2
         have HK2 := Lib.hid hk2
         have HR2 := Lib.hid hr2
         clear hb2 hk2 hr2 hown2
         go_roundw
         case rel =>
          refine ⟨k + 1, A2, by go_num, by omega, Lib.hid (by rw [HEQ.out]; exact HB2.out), Lib.hid (hkp.out.andThen HK2.out fun j hj hS => ⟨hS.1, fun hr => ?_⟩), Lib.hid (by rw [HEQ.out]; exact fun g hg => (HR2.out g hg).elim (hrw.out g) fun h => Or.inr (Nat.le_trans hkp.out.size h))⟩
          · rcases hrw.out j hr with h | h
            · exact hS.2 h
            · omega
         case measure => simp [intOf]; omega)
    · have hkk : k = os.length := by omega
      have hb2 := hBk.out
      have hr2 := hrw.out
      rw [hkk, List.take_length] at hb2 hr2
      have HB2 := Lib.hid hb2; have HR2 := Lib.hid hr2
      clear hb2 hr2 hkk
      go_wp2_with fail
      go_end0
      rw [HR.out]
      exact ⟨rfl, Ak, HB2.out, hkp.out, HR2.out⟩
end Go.Proofs.YtefpllpichhojaaGreatDoor
