/- farrierlaw11.alive: the document's example. -/
import Derived.Test.YtnclibfhbngkjaaGreatDoorBaseUnpack
import Derived.Test.YtnclibfhbngkjaaGreatDoorM4
import Derived.Test.YtnclibfhbngkjaaGreatDoorBaseFiles
import Derived.Test.YtnclibfhbngkjaaGreatDoorBaseGet
import Derived.Test.YtnclibfhbngkjaaGreatDoorBaseLess
import Derived.Test.YtnclibfhbngkjaaGreatDoorDepLaws
import Derived.Lib.SlBytesConst
namespace Go.Proofs.YtnclibfhbngkjaaGreatDoor
open Go.RowKit
attribute [local go_sem ↓] Go.wp_at_zero Go.wp_at_succ
def nineB : By := [49, 50, 51, 52, 53, 54, 55, 56, 57]
def xE : PkgD := ⟨[97], [49], [], [], [⟨[47, 102], false, nineB⟩], []⟩
def f1 : BaseF := withF noneF (ofP xE)
theorem xE_right : rightP xE = true := by decide +kernel
theorem f1_at (x : By) : f1 x = if x = [97] then some (ofP xE) else none := rfl
theorem n1 : NamesF f1 [[97]] := ⟨by decide, by decide, fun x => by
  rw [f1_at]
  by_cases h : x = [97] <;> simp [h]⟩
theorem g1 : GoodF f1 := GoodF.none.with (ofP_right xE_right) (ofP_sums xE)
theorem sum1 : (crcL nineB).toNat = 3421780262 := by decide +kernel
theorem own1 : ownerG f1 [47, 102] [[97]] = some ([97], ofF ⟨[47, 102], false, nineB⟩) := by kernel_rfl
theorem own2 : ownerG f1 [47, 103] [[97]] = none := by kernel_rfl
theorem less1 : [[97]].foldl lessF f1 = noneF := by
  funext x
  simp only [List.foldl_cons, List.foldl_nil]
  unfold lessF
  rw [f1_at]
  by_cases h : x = [97] <;> simp [h, noneF]
theorem files1 {ss : List By} (hn : ss.Nodup) (h : ∀ x, x ∈ ss ↔ (f1 x).isSome = true) : (allPaths f1 ss).length = 1 := by
  have h1 : ss = [[97]] := by
    have hm : ∀ x, x ∈ ss ↔ x = [97] := fun x => by
      rw [h x, f1_at]
      by_cases hx : x = [97] <;> simp [hx]
    match ss, hn, hm with
    | [], _, hm => exact absurd ((hm [97]).2 rfl) (by simp)
    | [y], _, hm => rw [(hm y).1 (by simp)]
    | y :: z :: r, hn, hm =>
      have e1 := (hm y).1 (by simp)
      have e2 := (hm z).1 (by simp)
      simp [e1, e2] at hn
  rw [h1]
  show (allPaths f1 [[97]]).length = 1
  decide +kernel
theorem own1V : ownV (ownerG f1 [47, 102] [[97]]) = .tuple #[.string ⟨#[97]⟩, .agg #[.string ⟨#[47, 102]⟩, .bool false, .int .u32 3421780262], .bool true] := by
  rw [own1]
  unfold ownV fileVE ofF
  simp only [Option.map_some, Option.getD_some, Option.isSome_some]
  rw [le32_sumB, sum1]
  rfl
theorem own2V : ownV (ownerG f1 [47, 103] [[97]]) = .tuple #[.string ⟨#[]⟩, .agg #[.string ⟨#[]⟩, .bool false, .int .u32 0], .bool false] := by
  rw [own2]
  rfl
theorem str_one (w : World) (s : By) : Strs (w.alloc (.cells #[.string (bs s)] 9)) (some ⟨w.heap.size, 0, none⟩) [s] := by
  refine Or.inr ⟨w.heap.size, 0, rfl, by simp, fun i hi => ?_⟩
  have : i = 0 := by simpa using hi
  subst this
  exact cell_new w _ _ 0 _ rfl
theorem new1 (w2 : World) (an ac af au : Option Addr) (cn cq cf cu : Nat) (hent : EntM w2 (ofP xE) ⟨an, ac, af, au, cn, cq, cf, cu⟩) (hpc : PkgC (ofP xE) ⟨an, ac, af, au, cn, cq, cf, cu⟩) :
    ∀ W, W = w2.alloc (.cells #[.string ⟨#[97]⟩, .string ⟨#[49]⟩, .slice an 0 cn, .slice ac 0 cq, .slice af 1 cf, .slice au 0 cu] 37) → Calls Tryz.prog 13 #[.slice (some ⟨w2.heap.size, 0, none⟩) 1 1] W (WithR 1 f1 W) := by
  intro W h
  refine base_new (some ⟨w2.heap.size, 0, none⟩) 1 [(ofP xE, ⟨an, ac, af, au, cn, cq, cf, cu⟩)] W ?_ (by intro x hx; simp only [List.mem_singleton] at hx; rw [hx]; exact ofP_right xE_right) (by simp)
  rw [h]
  have hh := heap_alloc_new w2 (.cells #[.string ⟨#[97]⟩, .string ⟨#[49]⟩, .slice an 0 cn, .slice ac 0 cq, .slice af 1 cf, .slice au 0 cu] 37)
  exact ent_one (V := w2.heap.size) (p := ofP xE) (A := ⟨an, ac, af, au, cn, cq, cf, cu⟩) hh (hent.ext (Ext.alloc _ _)) hpc
set_option maxRecDepth 100000 in
set_option maxHeartbeats 12800000 in
theorem alive11 (w : World) (hE : EnvN w) : Calls Tryz.prog 8 #[] w fun e w' => e = .returned (.bool true) ∧ Ext w w' := by
  obtain ⟨R, hR⟩ : ∃ R : Ending → World → Prop, R = fun e w' => e = .returned (.bool true) ∧ Ext w w' := ⟨_, rfl⟩
  rw [← hR]
  have HR := Lib.hid hR; clear hR
  obtain ⟨D, hD⟩ : ∃ x, x = w.heap.size := ⟨_, rfl⟩
  obtain ⟨F, hF⟩ : ∃ x, x = w.heap.size + 1 := ⟨_, rfl⟩
  obtain ⟨PK, hPK⟩ : ∃ x, x = w.heap.size + 1 + 1 := ⟨_, rfl⟩
  have hcv := Lib.run_convert_bytes_const (P := Tryz.prog) w 74 5 #[.int .u8 49, .int .u8 50, .int .u8 51, .int .u8 52, .int .u8 53, .int .u8 54, .int .u8 55, .int .u8 56, .int .u8 57] 9 9 Tryz.underlying74 Tryz.underlying5
  go_enter Tryz.func8, Tryz.ntmps8
  go_upto_region 2 with (fail)
  clear hcv
  have hx1 : Ext w (((w.alloc (.cells #[.int .u8 49, .int .u8 50, .int .u8 51, .int .u8 52, .int .u8 53, .int .u8 54, .int .u8 55, .int .u8 56, .int .u8 57] 5 (9, 10))).alloc (.cells #[.string ⟨#[47, 102]⟩, .bool false, .slice (some ⟨D, 0, none⟩) 9 9] 76)).alloc (.cells #[.string ⟨#[97]⟩, .string ⟨#[49]⟩, .slice none 0 0, .slice none 0 0, .slice (some ⟨F, 0, none⟩) 1 1, .slice none 0 0] 31)) := ((Ext.alloc _ _).trans (Ext.alloc _ _)).trans (Ext.alloc _ _)
  have hb1 := ((Ext.alloc (w.alloc (.cells #[.int .u8 49, .int .u8 50, .int .u8 51, .int .u8 52, .int .u8 53, .int .u8 54, .int .u8 55, .int .u8 56, .int .u8 57] 5 (9, 10))) (.cells #[.string ⟨#[47, 102]⟩, .bool false, .slice (some ⟨D, 0, none⟩) 9 9] 76)).trans (Ext.alloc _ (.cells #[.string ⟨#[97]⟩, .string ⟨#[49]⟩, .slice none 0 0, .slice none 0 0, .slice (some ⟨F, 0, none⟩) 1 1, .slice none 0 0] 31))).heap (heap_alloc_new w (.cells #[.int .u8 49, .int .u8 50, .int .u8 51, .int .u8 52, .int .u8 53, .int .u8 54, .int .u8 55, .int .u8 56, .int .u8 57] 5 (9, 10)))
  have hf1 := (Ext.alloc _ (.cells #[.string ⟨#[97]⟩, .string ⟨#[49]⟩, .slice none 0 0, .slice none 0 0, .slice (some ⟨F, 0, none⟩) 1 1, .slice none 0 0] 31)).heap (heap_alloc_new (w.alloc (.cells #[.int .u8 49, .int .u8 50, .int .u8 51, .int .u8 52, .int .u8 53, .int .u8 54, .int .u8 55, .int .u8 56, .int .u8 57] 5 (9, 10))) (.cells #[.string ⟨#[47, 102]⟩, .bool false, .slice (some ⟨D, 0, none⟩) 9 9] 76))
  have hp1 := heap_alloc_new ((w.alloc (.cells #[.int .u8 49, .int .u8 50, .int .u8 51, .int .u8 52, .int .u8 53, .int .u8 54, .int .u8 55, .int .u8 56, .int .u8 57] 5 (9, 10))).alloc (.cells #[.string ⟨#[47, 102]⟩, .bool false, .slice (some ⟨D, 0, none⟩) 9 9] 76)) (.cells #[.string ⟨#[97]⟩, .string ⟨#[49]⟩, .slice none 0 0, .slice none 0 0, .slice (some ⟨F, 0, none⟩) 1 1, .slice none 0 0] 31)
  simp only [World.size_alloc] at hf1 hp1
  rw [← hPK] at hp1
  rw [← hF] at hf1
  rw [← hD] at hb1
  try simp only [World.size_alloc]
  try rw [← hPK]
  try rw [← hF]
  try rw [← hD]
  generalize ((w.alloc (.cells #[.int .u8 49, .int .u8 50, .int .u8 51, .int .u8 52, .int .u8 53, .int .u8 54, .int .u8 55, .int .u8 56, .int .u8 57] 5 (9, 10))).alloc (.cells #[.string ⟨#[47, 102]⟩, .bool false, .slice (some ⟨D, 0, none⟩) 9 9] 76)).alloc (.cells #[.string ⟨#[97]⟩, .string ⟨#[49]⟩, .slice none 0 0, .slice none 0 0, .slice (some ⟨F, 0, none⟩) 1 1, .slice none 0 0] 31) = w1 at hx1 hb1 hf1 hp1 ⊢
  clear hD hF hPK
  have hby : Bytes w1 (some ⟨D, 0, none⟩) nineB := by
    refine Or.inr ⟨D, 0, rfl, (Array.getElem?_eq_some_iff.1 hb1).1, fun i hi => ?_⟩
    have hi9 : i < 9 := hi
    have h9 : i = 0 ∨ i = 1 ∨ i = 2 ∨ i = 3 ∨ i = 4 ∨ i = 5 ∨ i = 6 ∨ i = 7 ∨ i = 8 := by omega
    rcases h9 with rfl | rfl | rfl | rfl | rfl | rfl | rfl | rfl | rfl <;> simp [World.cell?, hb1, byteAt, nineB]
  have hM : PkgM w1 xE ⟨none, none, some ⟨F, 0, none⟩, none, 0, 0, 1, 0⟩ := by
    refine ⟨Or.inl rfl, Or.inl rfl, Or.inr ⟨F, 0, rfl, (Array.getElem?_eq_some_iff.1 hf1).1, fun i hi => ?_⟩, Or.inl rfl⟩
    have : i = 0 := by have : i < 1 := hi; omega
    subst this
    exact ⟨blk_cell hf1 0 _ rfl, blk_cell hf1 1 _ rfl, some ⟨D, 0, none⟩, 9, blk_cell hf1 2 _ rfl, Nat.le_refl _, hby⟩
  have hof : Calls Tryz.prog 11 #[.agg #[.string ⟨#[97]⟩, .string ⟨#[49]⟩, .slice none 0 0, .slice none 0 0, .slice (some ⟨F, 0, none⟩) 1 1, .slice none 0 0]] w1 (OfR xE w1) := base_of xE none none (some ⟨F, 0, none⟩) none 0 0 1 0 w1 hM (by decide) (by decide) (by decide) (by decide) (by intro x hx; simp only [xE, List.mem_singleton] at hx; rw [hx]; decide)
  have HOF := Lib.hid hof; clear hof hM hby hb1 hf1
  have k0 := blk_cell hp1 0 (Value.string ⟨#[97]⟩) rfl
  have k1 := blk_cell hp1 1 (Value.string ⟨#[49]⟩) rfl
  have k2 := blk_cell hp1 2 (Value.slice none 0 0) rfl
  have k3 := blk_cell hp1 3 (Value.slice none 0 0) rfl
  have k4 := blk_cell hp1 4 (Value.slice (some ⟨F, 0, none⟩) 1 1) rfl
  have k5 := blk_cell hp1 5 (Value.slice none 0 0) rfl
  have HX1 := Lib.hid hx1; clear hx1 hp1
  go_upto_region 3 with (first
    | (go_at_call 11; refine HOF.out.mono ?_; rintro E w2 ⟨A, hE2, hent, hpc, hx2⟩; obtain ⟨an, ac, af, au, cn, cq, cf, cu⟩ := A; obtain rfl : E = .returned (.agg #[.string ⟨#[97]⟩, .string ⟨#[49]⟩, .slice an 0 cn, .slice ac 0 cq, .slice af 1 cf, .slice au 0 cu]) := hE2; have HENT := Lib.hid hent; have HPC := Lib.hid hpc; have HX2 := Lib.hid hx2; have hnw := new1 w2 an ac af au cn cq cf cu HENT.out HPC.out; have HNW := Lib.hid hnw; clear hent hpc hx2 hnw)
    | (go_at_call 13; refine (HNW.out _ rfl).mono ?_; rintro E w3 ⟨b, A1, rfl, _, hm3, hx3⟩; have HM3 := Lib.hid hm3; have HX3 := Lib.hid ((Ext.alloc w2 _).trans hx3); clear hm3 hx3))
  clear k0 k1 k2 k3 k4 k5 HOF HNW
  have hx_w4 : Ext w3 (w3.alloc (.cells #[.map (some b)] 42)) := (Ext.alloc _ _)
  have hf_B := heap_alloc_new w3 (.cells #[.map (some b)] 42)
  generalize w3.alloc (.cells #[.map (some b)] 42) = w4 at hx_w4 hf_B ⊢
  obtain ⟨B, h_B⟩ : ∃ x, x = w3.heap.size := ⟨_, rfl⟩
  rw [← h_B] at hf_B
  try rw [← h_B]
  have hs_B : w3.heap.size ≤ B := by omega
  clear h_B
  have HB := Lib.hid hf_B; clear hf_B
  have hbm : ∀ W, Ext w4 W → BaseM W (.agg #[.map (some b)]) 1 f1 := fun W k => Or.inr ⟨b, A1, rfl, HM3.out.ext (hx_w4.trans k)⟩
  have HBM := Lib.hid hbm; clear hbm
  have HX4 := Lib.hid (HX1.out.trans (HX2.out.trans (HX3.out.trans hx_w4)))
  clear hx_w4 hs_B HENT HPC HX2 HX3
  have ho1 : Calls Tryz.prog 25 #[.agg #[.map (some b)], .string ⟨#[47, 102]⟩] w4 (fun e w' => e = .returned (.tuple #[.string ⟨#[97]⟩, .agg #[.string ⟨#[47, 102]⟩, .bool false, .int .u32 3421780262], .bool true]) ∧ Ext w4 w') := by
    refine (base_owner (.agg #[.map (some b)]) 1 f1 [47, 102] w4 (HBM.out _ (Ext.refl _)) g1 (by decide) (by decide)).mono ?_
    rintro E w' ⟨ss, hs, he, hx⟩
    rw [hs.eq n1, own1V] at he
    exact ⟨he, hx⟩
  have HO1 := Lib.hid ho1; clear ho1
  have b0 := blk_cell HB.out 0 (Value.map (some b)) rfl
  go_upto_region 4 with (go_at_call 25; refine HO1.out.mono ?_; rintro E w5 ⟨rfl, hx5⟩; have HX5 := Lib.hid hx5; clear hx5)
  clear b0 HO1
  have hx_w6 : Ext w5 (w5.alloc (.cells #[.string ⟨#[47, 102]⟩, .bool false, .int .u32 3421780262] 71)) := (Ext.alloc _ _)
  have hf_G1 := heap_alloc_new w5 (.cells #[.string ⟨#[47, 102]⟩, .bool false, .int .u32 3421780262] 71)
  generalize w5.alloc (.cells #[.string ⟨#[47, 102]⟩, .bool false, .int .u32 3421780262] 71) = w6 at hx_w6 hf_G1 ⊢
  obtain ⟨G1, h_G1⟩ : ∃ x, x = w5.heap.size := ⟨_, rfl⟩
  rw [← h_G1] at hf_G1
  try rw [← h_G1]
  have hs_G1 : w5.heap.size ≤ G1 := by omega
  clear h_G1
  have HG1 := Lib.hid hf_G1; clear hf_G1
  have HX46 := Lib.hid (HX5.out.trans hx_w6); clear hx_w6 hs_G1 HX5
  have ho2 : Calls Tryz.prog 25 #[.agg #[.map (some b)], .string ⟨#[47, 103]⟩] w6 (fun e w' => e = .returned (.tuple #[.string ⟨#[]⟩, .agg #[.string ⟨#[]⟩, .bool false, .int .u32 0], .bool false]) ∧ Ext w6 w') := by
    refine (base_owner (.agg #[.map (some b)]) 1 f1 [47, 103] w6 (HBM.out _ HX46.out) g1 (by decide) (by decide)).mono ?_
    rintro E w' ⟨ss, hs, he, hx⟩
    rw [hs.eq n1, own2V] at he
    exact ⟨he, hx⟩
  have HO2 := Lib.hid ho2; clear ho2
  have b0 := blk_cell (HX46.out.heap HB.out) 0 (Value.map (some b)) rfl
  go_upto_region 5 with (go_at_call 25; refine HO2.out.mono ?_; rintro E w7 ⟨rfl, hx7⟩; have HX7 := Lib.hid hx7; clear hx7)
  clear b0 HO2
  have hx_w8 : Ext w7 (w7.alloc (.cells #[.string ⟨#[]⟩, .bool false, .int .u32 0] 71)) := (Ext.alloc _ _)
  have hf_G2 := heap_alloc_new w7 (.cells #[.string ⟨#[]⟩, .bool false, .int .u32 0] 71)
  generalize w7.alloc (.cells #[.string ⟨#[]⟩, .bool false, .int .u32 0] 71) = w8 at hx_w8 hf_G2 ⊢
  obtain ⟨G2, h_G2⟩ : ∃ x, x = w7.heap.size := ⟨_, rfl⟩
  rw [← h_G2] at hf_G2
  try rw [← h_G2]
  have hs_G2 : w7.heap.size ≤ G2 := by omega
  clear h_G2
  have HX68 := Lib.hid (HX7.out.trans hx_w8); clear hx_w8 hs_G2 HX7 hf_G2
  have HX48 := Lib.hid (HX46.out.trans HX68.out)
  have hgt : Calls Tryz.prog 19 #[.agg #[.map (some b)], .string ⟨#[97]⟩] w8 (GetR (ofP xE) true w8) := base_get (.agg #[.map (some b)]) 1 f1 [97] w8 (HBM.out _ HX48.out) g1 (by decide)
  have HGT := Lib.hid hgt; clear hgt
  have b0 := blk_cell (HX48.out.heap HB.out) 0 (Value.map (some b)) rfl
  go_upto_region 6 with (go_at_call 19; refine HGT.out.mono ?_; rintro E w9 ⟨A2, hE9, _, _, hx9⟩; obtain ⟨gn, gc, gf, gu, hn, hc, hf, hu⟩ := A2; obtain rfl : E = .returned (.tuple #[.agg #[.string ⟨#[97]⟩, .string ⟨#[49]⟩, .slice gn 0 hn, .slice gc 0 hc, .slice gf 1 hf, .slice gu 0 hu], .bool true]) := hE9; have HX9 := Lib.hid hx9; clear hx9)
  clear b0 HGT
  have hx_wA : Ext w9 (w9.alloc (.cells #[.string ⟨#[97]⟩, .string ⟨#[49]⟩, .slice gn 0 hn, .slice gc 0 hc, .slice gf 1 hf, .slice gu 0 hu] 37)) := (Ext.alloc _ _)
  have hf_G3 := heap_alloc_new w9 (.cells #[.string ⟨#[97]⟩, .string ⟨#[49]⟩, .slice gn 0 hn, .slice gc 0 hc, .slice gf 1 hf, .slice gu 0 hu] 37)
  generalize w9.alloc (.cells #[.string ⟨#[97]⟩, .string ⟨#[49]⟩, .slice gn 0 hn, .slice gc 0 hc, .slice gf 1 hf, .slice gu 0 hu] 37) = wA at hx_wA hf_G3 ⊢
  obtain ⟨G3, h_G3⟩ : ∃ x, x = w9.heap.size := ⟨_, rfl⟩
  rw [← h_G3] at hf_G3
  try rw [← h_G3]
  have hs_G3 : w9.heap.size ≤ G3 := by omega
  clear h_G3
  have HG3 := Lib.hid hf_G3; clear hf_G3
  have HX8A := Lib.hid (HX9.out.trans hx_wA); clear hx_wA hs_G3 HX9
  have HX4A := Lib.hid (HX48.out.trans HX8A.out)
  have hpk := base_pack (.agg #[.map (some b)]) 1 f1 wA (HBM.out _ HX4A.out) g1 (by decide)
  have HPK := Lib.hid hpk; clear hpk
  have b0 := blk_cell (HX4A.out.heap HB.out) 0 (Value.map (some b)) rfl
  go_upto_region 7 with (first
    | (go_at_call 15; refine HPK.out.mono ?_; rintro E wB ⟨pa, pc, ss, rfl, hss, hps, _, hxB⟩; obtain rfl : ss = [[97]] := hss.eq n1; have HX10 := Lib.hid hxB; have hup : Calls Tryz.prog 14 #[.slice pa 1 pc] wB (UnpackR 1 f1 wB) := base_unpack pa pc f1 [[97]] wB hps n1 g1 (by decide); have HUP := Lib.hid hup; clear hxB hup hps hss)
    | (go_at_call 14; refine HUP.out.mono ?_; rintro E wC ⟨⟨b2, A3, rfl, hm2⟩, hxC⟩; have HM2 := Lib.hid hm2; have HX11 := Lib.hid hxC; clear hm2 hxC))
  clear b0 HPK HUP
  have hx_wD : Ext wC (wC.alloc (.cells #[.map (some b2)] 42)) := (Ext.alloc _ _)
  have hf_G4 := heap_alloc_new wC (.cells #[.map (some b2)] 42)
  generalize wC.alloc (.cells #[.map (some b2)] 42) = wD at hx_wD hf_G4 ⊢
  obtain ⟨G4, h_G4⟩ : ∃ x, x = wC.heap.size := ⟨_, rfl⟩
  rw [← h_G4] at hf_G4
  try rw [← h_G4]
  have hs_G4 : wC.heap.size ≤ G4 := by omega
  clear h_G4
  have HG4 := Lib.hid hf_G4; clear hf_G4
  have HM2' := Lib.hid (HM2.out.ext hx_wD)
  have HXAD := Lib.hid (HX10.out.trans (HX11.out.trans hx_wD)); clear hx_wD hs_G4 HX10 HX11 HM2
  have HX4D := Lib.hid (HX4A.out.trans HXAD.out)
  have hnm := base_names (.agg #[.map (some b)]) 1 f1 wD (HBM.out _ HX4D.out) (by decide)
  have HNM := Lib.hid hnm; clear hnm
  have g12 := blk_cell ((HX68.out.trans (HX8A.out.trans HXAD.out)).heap HG1.out) 2 (Value.int .u32 3421780262) rfl
  have g31 := blk_cell (HXAD.out.heap HG3.out) 1 (Value.string ⟨#[49]⟩) rfl
  have b0 := blk_cell (HX4D.out.heap HB.out) 0 (Value.map (some b)) rfl
  go_wp2_with (first
    | (go_at_call 20; (with_reducible refine HNM.out.mono ?_); rintro E wE ⟨na, nc, ss, rfl, hss, _, _, hxE⟩; obtain rfl : ss = [[97]] := hss.eq n1; have HXE := Lib.hid hxE; have bE := blk_cell ((HX4D.out.trans hxE).heap HB.out) 0 (Value.map (some b)) rfl; have gE := blk_cell (hxE.heap HG4.out) 0 (Value.map (some b2)) rfl; have hsm := base_same (.agg #[.map (some b)]) (.agg #[.map (some b2)]) 1 1 f1 f1 wE (HBM.out _ (HX4D.out.trans hxE)) (Or.inr ⟨b2, A3, rfl, HM2'.out.ext hxE⟩) g1 g1 (by decide) (by decide); have HSM := Lib.hid hsm; clear hxE hss hsm)
    | (go_at_call 16; refine HSM.out.mono ?_; rintro E wF ⟨⟨q, rfl, hq⟩, hxF⟩; have hqt : q = true := hq.2 trivial; subst hqt; have HXF := Lib.hid hxF; have bF := blk_cell ((HX4D.out.trans (HXE.out.trans hxF)).heap HB.out) 0 (Value.map (some b)) rfl; have hwo : ∀ W, W = wF.alloc (.cells #[.string ⟨#[97]⟩] 9) → Calls Tryz.prog 18 #[.agg #[.map (some b)], .slice (some ⟨wF.heap.size, 0, none⟩) 1 1] W (WithR 1 noneF W) := fun W h => less1 ▸ base_without (.agg #[.map (some b)]) 1 f1 (some ⟨wF.heap.size, 0, none⟩) 1 [[97]] W (HBM.out _ (by rw [h]; exact HX4D.out.trans (HXE.out.trans (hxF.trans (Ext.alloc _ _))))) (by rw [h]; exact str_one wF [97]) (by intro x hx; simp only [List.mem_singleton] at hx; rw [hx]; decide) (by decide) (by decide); have HWO := Lib.hid hwo; clear hxF hwo)
    | (go_at_call 18; refine (HWO.out _ rfl).mono ?_; rintro E wG ⟨b5, A5, rfl, _, hm5, hxG⟩; have HXG := Lib.hid ((Ext.alloc wF _).trans hxG); have hnn := base_names (.agg #[.map (some b5)]) 1 noneF wG (Or.inr ⟨b5, A5, rfl, hm5⟩) (by decide); have HNN := Lib.hid hnn; clear hm5 hxG hnn)
    | (go_at_call 20; (with_reducible refine HNN.out.mono ?_); rintro E wH ⟨na2, nc2, ss, rfl, hss, _, _, hxH⟩; obtain rfl : ss = [] := hss.eq none_names; have HXH := Lib.hid hxH; have bH := blk_cell ((HX4D.out.trans (HXE.out.trans (HXF.out.trans (HXG.out.trans hxH)))).heap HB.out) 0 (Value.map (some b)) rfl; have hfi := base_files (.agg #[.map (some b)]) 1 f1 wH (HBM.out _ (HX4D.out.trans (HXE.out.trans (HXF.out.trans (HXG.out.trans hxH))))) g1 (by decide); have HFI := Lib.hid hfi; clear hxH hss hfi)
    | (go_at_call 26; refine HFI.out.mono ?_; rintro E wI ⟨fa, fc, ss, rfl, _, hnd, hmem, _, hxI⟩; rw [files1 hnd hmem]; have HXI := Lib.hid hxI; clear hxI hnd hmem))
  rw [HR.out]
  exact ⟨rfl, HX4.out.trans (HX4D.out.trans (HXE.out.trans (HXF.out.trans (HXG.out.trans (HXH.out.trans HXI.out)))))⟩
end Go.Proofs.YtnclibfhbngkjaaGreatDoor
