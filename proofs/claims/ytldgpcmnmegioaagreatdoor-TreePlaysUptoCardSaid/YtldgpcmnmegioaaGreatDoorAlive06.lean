/- farrierlaw06.alive: the document's example. -/
import Derived.Test.YtldgpcmnmegioaaGreatDoorM5
import Derived.Test.YtldgpcmnmegioaaGreatDoorM6
import Derived.Test.YtldgpcmnmegioaaGreatDoorM1
import Derived.Lib.SmallJoins
namespace Go.Proofs.YtldgpcmnmegioaaGreatDoor
open Go.RowKit
theorem read_file {w : World} {base tb N : Nat} {T : TreeD} (p : By) (hE : Env w) (h : TreeAt w base tb N T) (hN : N ≤ 1000000000) {i : Int} {l : By} (hi : findT T p = i) (h0 : i ≠ 0) (hd : (T.node i).dir = false) (hl : (T.node i).data = l) :
    Calls Tryz.prog 21 #[.pointer (some ⟨tb, 0, none⟩), .string (bs p)] w fun e w' => ∃ a c, e = .returned (.tuple #[.slice a l.length c, .int .i64 0]) ∧ DataM w' a l ∧ Ext w w' := by
  have h1 := at_Read p hE h hN
  rw [hi] at h1
  refine h1.mono ?_
  rintro e w' ⟨h2, hx⟩
  rw [if_neg h0, if_neg (by rw [hd]; simp)] at h2
  obtain ⟨a, c, he, _, hm⟩ := h2
  rw [hl] at he hm
  exact ⟨a, c, he, hm, hx⟩
theorem TreeAt.datas {w : World} {base tb N : Nat} {T : TreeD} (h : TreeAt w base tb N T) : Datas (· ≠ tb) w := by
  obtain ⟨_, _, mb, A, h3⟩ := h
  exact datas_cells h3.top (by decide)
theorem names_one {k : By → Option Int} {ss : List By} {x : By} (h : NamesK k ss) (hk : ∀ z, (k z).isSome = true ↔ z = x) : ss = [x] := by
  have hm : ∀ z, z ∈ ss ↔ z = x := fun z => by rw [h.2.2 z, hk]
  have hp : ss.Perm [x] := (List.perm_ext_iff_of_nodup h.2.1 (by simp)).2 fun z => by rw [hm, List.mem_singleton]
  exact List.perm_singleton.1 hp
theorem alive_names (z : By) : ((aT3.node 1).kids z).isSome = true ↔ z = [97] := by
  rw [alive_k]
  unfold lessK withK noK
  by_cases h1 : z = [103]
  · subst h1; simp
  · by_cases h2 : z = [104]
    · subst h2; simp
    · by_cases h3 : z = [97]
      · subst h3; simp
      · simp [h1, h2, h3]
set_option maxRecDepth 100000 in
set_option maxHeartbeats 12800000 in
theorem alive06 (w : World) (hE : Env w) : Calls Tryz.prog 5 #[] w fun e w' => e = .returned (.bool true) ∧ Ext w w' := by
  obtain ⟨R, hR⟩ : ∃ R : Ending → World → Prop, R = fun e w' => e = .returned (.bool true) ∧ Ext w w' := ⟨_, rfl⟩
  rw [← hR]
  have HR := Lib.hid hR; clear hR
  have HE := Lib.hid hE; clear hE
  obtain ⟨S, hS⟩ : ∃ S, S = w.heap.size := ⟨_, rfl⟩
  have hnew := at_New 10 w
  rw [← hS] at hnew
  have HNEW := Lib.hid hnew; clear hnew
  have HS := Lib.hid hS; clear hS
  have kc := fun (w : World) (C : Array Value) (n c : Nat) => Lib.run_convert_bytes_const (P := Tryz.prog) w 36 5 C n c Tryz.underlying36 Tryz.underlying5
  go_enter Tryz.func5, Tryz.ntmps5
  go_upto_region 5 with (first
    | (go_at_call 7; refine HNEW.out.mono ?_; rintro E w1 ⟨tb, rfl, hT, hx⟩; have HT := Lib.hid hT; have HX := Lib.hid hx; clear hT hx)
    | (go_at_call 12; refine Hid.out ?_))
  refine Lib.hid ?_
  have hx_w2 : Ext w1 ((w1.alloc (.cells #[.int .u8 111, .int .u8 110, .int .u8 101] 5 (3, 4))).alloc (.cells #[.int .i64 0, .string ⟨#[47, 97]⟩, .string ⟨#[]⟩, .slice none 0 0, .int .i64 2, .string ⟨#[47, 97, 47, 102]⟩, .string ⟨#[]⟩, .slice (some ⟨w1.heap.size, 0, none⟩) 3 3, .int .i64 4, .string ⟨#[47, 97, 47, 102]⟩, .string ⟨#[47, 103]⟩, .slice none 0 0] 38)) := ((Ext.alloc w1 (.cells #[.int .u8 111, .int .u8 110, .int .u8 101] 5 (3, 4))).trans (Ext.alloc (w1.alloc (.cells #[.int .u8 111, .int .u8 110, .int .u8 101] 5 (3, 4))) (.cells #[.int .i64 0, .string ⟨#[47, 97]⟩, .string ⟨#[]⟩, .slice none 0 0, .int .i64 2, .string ⟨#[47, 97, 47, 102]⟩, .string ⟨#[]⟩, .slice (some ⟨w1.heap.size, 0, none⟩) 3 3, .int .i64 4, .string ⟨#[47, 97, 47, 102]⟩, .string ⟨#[47, 103]⟩, .slice none 0 0] 38)))
  have ho := heap_alloc_new (w1.alloc (.cells #[.int .u8 111, .int .u8 110, .int .u8 101] 5 (3, 4))) (.cells #[.int .i64 0, .string ⟨#[47, 97]⟩, .string ⟨#[]⟩, .slice none 0 0, .int .i64 2, .string ⟨#[47, 97, 47, 102]⟩, .string ⟨#[]⟩, .slice (some ⟨w1.heap.size, 0, none⟩) 3 3, .int .i64 4, .string ⟨#[47, 97, 47, 102]⟩, .string ⟨#[47, 103]⟩, .slice none 0 0] 38)
  simp only [World.size_alloc] at ho
  have hd_0 := (Ext.alloc (w1.alloc (.cells #[.int .u8 111, .int .u8 110, .int .u8 101] 5 (3, 4))) (.cells #[.int .i64 0, .string ⟨#[47, 97]⟩, .string ⟨#[]⟩, .slice none 0 0, .int .i64 2, .string ⟨#[47, 97, 47, 102]⟩, .string ⟨#[]⟩, .slice (some ⟨w1.heap.size, 0, none⟩) 3 3, .int .i64 4, .string ⟨#[47, 97, 47, 102]⟩, .string ⟨#[47, 103]⟩, .slice none 0 0] 38)).heap (heap_alloc_new w1 (.cells #[.int .u8 111, .int .u8 110, .int .u8 101] 5 (3, 4)))
  generalize ((w1.alloc (.cells #[.int .u8 111, .int .u8 110, .int .u8 101] 5 (3, 4))).alloc (.cells #[.int .i64 0, .string ⟨#[47, 97]⟩, .string ⟨#[]⟩, .slice none 0 0, .int .i64 2, .string ⟨#[47, 97, 47, 102]⟩, .string ⟨#[]⟩, .slice (some ⟨w1.heap.size, 0, none⟩) 3 3, .int .i64 4, .string ⟨#[47, 97, 47, 102]⟩, .string ⟨#[47, 103]⟩, .slice none 0 0] 38)) = w2 at ho hx_w2 hd_0 ⊢
  have hops : OpsL w2 (some ⟨w1.heap.size + 1, 0, none⟩) ([(⟨0, [47, 97], [], []⟩, ⟨none, 0⟩), (⟨2, [47, 97, 47, 102], [], [111, 110, 101]⟩, ⟨some ⟨w1.heap.size, 0, none⟩, 3⟩), (⟨4, [47, 97, 47, 102], [47, 103], []⟩, ⟨none, 0⟩)] : List (OpD × OpA)) := ops_blk ho (by
    intro z hz
    simp only [List.mem_cons, List.not_mem_nil, or_false] at hz
    rcases hz with rfl | rfl | rfl
    · exact Or.inl rfl
    · exact bytes_blk (l := [111, 110, 101]) hd_0
    · exact Or.inl rfl)
  refine (at_Do _ _ ([(⟨0, [47, 97], [], []⟩, ⟨none, 0⟩), (⟨2, [47, 97, 47, 102], [], [111, 110, 101]⟩, ⟨some ⟨w1.heap.size, 0, none⟩, 3⟩), (⟨4, [47, 97, 47, 102], [47, 103], []⟩, ⟨none, 0⟩)] : List (OpD × OpA)) (HE.out.ext (HX.out.trans hx_w2)) (HT.out.ext hx_w2) hops (by simp only [List.length_cons, List.length_nil]; omega)).mono ?_
  have hz : (doT _ (List.map Prod.fst ([(⟨0, [47, 97], [], []⟩, ⟨none, 0⟩), (⟨2, [47, 97, 47, 102], [], [111, 110, 101]⟩, ⟨some ⟨w1.heap.size, 0, none⟩, 3⟩), (⟨4, [47, 97, 47, 102], [47, 103], []⟩, ⟨none, 0⟩)] : List (OpD × OpA)))).2 = 0 := alive_e1
  rintro E w3 ⟨rfl, hT, hk⟩
  rw [hz]
  have htb := HT.out.low.1
  have hx := ext_do (HX.out.trans hx_w2) (by rw [← HS.out]; exact htb) hk
  have hT' : TreeAt w3 S tb 8 aT1 := hT
  replace HT := Lib.hid hT'
  replace HX := Lib.hid hx
  clear hT hT' hk hx hx_w2 ho hops hz htb hd_0
  go_upto_region 6 with (go_at_call 12; refine Hid.out ?_)
  refine Lib.hid ?_
  have hx_w4 : Ext w3 ((w3.alloc (.cells #[.int .u8 116, .int .u8 119, .int .u8 111] 5 (3, 4))).alloc (.cells #[.int .i64 2, .string ⟨#[47, 104]⟩, .string ⟨#[]⟩, .slice (some ⟨w3.heap.size, 0, none⟩) 3 3, .int .i64 5, .string ⟨#[47, 104]⟩, .string ⟨#[47, 97, 47, 102]⟩, .slice none 0 0] 38)) := ((Ext.alloc w3 (.cells #[.int .u8 116, .int .u8 119, .int .u8 111] 5 (3, 4))).trans (Ext.alloc (w3.alloc (.cells #[.int .u8 116, .int .u8 119, .int .u8 111] 5 (3, 4))) (.cells #[.int .i64 2, .string ⟨#[47, 104]⟩, .string ⟨#[]⟩, .slice (some ⟨w3.heap.size, 0, none⟩) 3 3, .int .i64 5, .string ⟨#[47, 104]⟩, .string ⟨#[47, 97, 47, 102]⟩, .slice none 0 0] 38)))
  have ho := heap_alloc_new (w3.alloc (.cells #[.int .u8 116, .int .u8 119, .int .u8 111] 5 (3, 4))) (.cells #[.int .i64 2, .string ⟨#[47, 104]⟩, .string ⟨#[]⟩, .slice (some ⟨w3.heap.size, 0, none⟩) 3 3, .int .i64 5, .string ⟨#[47, 104]⟩, .string ⟨#[47, 97, 47, 102]⟩, .slice none 0 0] 38)
  simp only [World.size_alloc] at ho
  have hd_0 := (Ext.alloc (w3.alloc (.cells #[.int .u8 116, .int .u8 119, .int .u8 111] 5 (3, 4))) (.cells #[.int .i64 2, .string ⟨#[47, 104]⟩, .string ⟨#[]⟩, .slice (some ⟨w3.heap.size, 0, none⟩) 3 3, .int .i64 5, .string ⟨#[47, 104]⟩, .string ⟨#[47, 97, 47, 102]⟩, .slice none 0 0] 38)).heap (heap_alloc_new w3 (.cells #[.int .u8 116, .int .u8 119, .int .u8 111] 5 (3, 4)))
  generalize ((w3.alloc (.cells #[.int .u8 116, .int .u8 119, .int .u8 111] 5 (3, 4))).alloc (.cells #[.int .i64 2, .string ⟨#[47, 104]⟩, .string ⟨#[]⟩, .slice (some ⟨w3.heap.size, 0, none⟩) 3 3, .int .i64 5, .string ⟨#[47, 104]⟩, .string ⟨#[47, 97, 47, 102]⟩, .slice none 0 0] 38)) = w4 at ho hx_w4 hd_0 ⊢
  have hops : OpsL w4 (some ⟨w3.heap.size + 1, 0, none⟩) ([(⟨2, [47, 104], [], [116, 119, 111]⟩, ⟨some ⟨w3.heap.size, 0, none⟩, 3⟩), (⟨5, [47, 104], [47, 97, 47, 102], []⟩, ⟨none, 0⟩)] : List (OpD × OpA)) := ops_blk ho (by
    intro z hz
    simp only [List.mem_cons, List.not_mem_nil, or_false] at hz
    rcases hz with rfl | rfl
    · exact bytes_blk (l := [116, 119, 111]) hd_0
    · exact Or.inl rfl)
  refine (at_Do _ _ ([(⟨2, [47, 104], [], [116, 119, 111]⟩, ⟨some ⟨w3.heap.size, 0, none⟩, 3⟩), (⟨5, [47, 104], [47, 97, 47, 102], []⟩, ⟨none, 0⟩)] : List (OpD × OpA)) (HE.out.ext (HX.out.trans hx_w4)) (HT.out.ext hx_w4) hops (by simp only [List.length_cons, List.length_nil]; omega)).mono ?_
  have hz : (doT _ (List.map Prod.fst ([(⟨2, [47, 104], [], [116, 119, 111]⟩, ⟨some ⟨w3.heap.size, 0, none⟩, 3⟩), (⟨5, [47, 104], [47, 97, 47, 102], []⟩, ⟨none, 0⟩)] : List (OpD × OpA)))).2 = 0 := alive_e2
  rintro E w5 ⟨rfl, hT, hk⟩
  rw [hz]
  have htb := HT.out.low.1
  have hx := ext_do (HX.out.trans hx_w4) (by rw [← HS.out]; exact htb) hk
  have hT' : TreeAt w5 S tb 12 aT2 := hT
  replace HT := Lib.hid hT'
  replace HX := Lib.hid hx
  clear hT hT' hk hx hx_w4 ho hops hz htb hd_0
  have hr1 := read_file [47, 97, 47, 102] (HE.out.ext HX.out) HT.out (by decide) alive_r1.1 (by decide) alive_r1.2.1 alive_r1.2.2
  have HR1 := Lib.hid hr1; clear hr1
  go_upto_region 7 with (go_at_call 21; refine HR1.out.mono ?_; rintro E w6 ⟨a1, c1, rfl, hb1, hx1⟩; have HB1 := Lib.hid hb1; have HX1 := Lib.hid hx1; clear hb1 hx1)
  have hr2 := read_file [47, 103] (HE.out.ext (HX.out.trans HX1.out)) (HT.out.ext HX1.out) (by decide) alive_r2.1 (by decide) alive_r2.2.1 alive_r2.2.2
  have HR2 := Lib.hid hr2; clear hr2
  go_upto_region 8 with (go_at_call 21; refine HR2.out.mono ?_; rintro E w7 ⟨a2, c2, rfl, hb2, hx2⟩; have HB2 := Lib.hid hb2; have HX2 := Lib.hid hx2; clear hb2 hx2)
  replace HB1 := Lib.hid (HB1.out.keep (Keep.of_ext (S := fun _ => True) HX2.out) (datas_all _))
  replace HT := Lib.hid (HT.out.ext (HX1.out.trans HX2.out))
  replace HX := Lib.hid (HX.out.trans (HX1.out.trans HX2.out))
  clear HR1 HR2 HX1 HX2
  go_upto_region 9 with (go_at_call 12; refine Hid.out ?_)
  refine Lib.hid ?_
  have hx_w8 : Ext w7 (w7.alloc (.cells #[.int .i64 6, .string ⟨#[47, 103]⟩, .string ⟨#[]⟩, .slice none 0 0] 38)) := (Ext.alloc w7 (.cells #[.int .i64 6, .string ⟨#[47, 103]⟩, .string ⟨#[]⟩, .slice none 0 0] 38))
  have ho := heap_alloc_new w7 (.cells #[.int .i64 6, .string ⟨#[47, 103]⟩, .string ⟨#[]⟩, .slice none 0 0] 38)
  generalize (w7.alloc (.cells #[.int .i64 6, .string ⟨#[47, 103]⟩, .string ⟨#[]⟩, .slice none 0 0] 38)) = w8 at ho hx_w8  ⊢
  have hops : OpsL w8 (some ⟨w7.heap.size, 0, none⟩) ([(⟨6, [47, 103], [], []⟩, ⟨none, 0⟩)] : List (OpD × OpA)) := ops_blk ho (by
    intro z hz
    simp only [List.mem_cons, List.not_mem_nil, or_false] at hz
    rcases hz with rfl
    · exact Or.inl rfl)
  refine (at_Do _ _ ([(⟨6, [47, 103], [], []⟩, ⟨none, 0⟩)] : List (OpD × OpA)) (HE.out.ext (HX.out.trans hx_w8)) (HT.out.ext hx_w8) hops (by simp only [List.length_cons, List.length_nil]; omega)).mono ?_
  have hz : (doT _ (List.map Prod.fst ([(⟨6, [47, 103], [], []⟩, ⟨none, 0⟩)] : List (OpD × OpA)))).2 = 0 := alive_e3
  rintro E w9 ⟨rfl, hT, hk⟩
  rw [hz]
  have htb := HT.out.low.1
  have hx := ext_do (HX.out.trans hx_w8) (by rw [← HS.out]; exact htb) hk
  have hT' : TreeAt w9 S tb 14 aT3 := hT
  replace HB1 := Lib.hid ((HB1.out.keep (Keep.of_ext (S := fun _ => True) hx_w8) (datas_all _)).keep hk ((HT.out.ext hx_w8).datas))
  replace HB2 := Lib.hid ((HB2.out.keep (Keep.of_ext (S := fun _ => True) hx_w8) (datas_all _)).keep hk ((HT.out.ext hx_w8).datas))
  replace HT := Lib.hid hT'
  replace HX := Lib.hid hx
  clear hT hT' hk hx hx_w8 ho hops hz htb
  have hl := at_List [47] (HE.out.ext HX.out) HT.out (by decide)
  have HLS := Lib.hid hl; clear hl
  go_upto_region 10 with (go_at_call 22; refine HLS.out.mono ?_; rintro E w10 ⟨hls, hx⟩; rw [findR, if_neg (by decide), if_pos alive_r3.2.2.1] at hls; obtain ⟨a3, c3, ss, rfl, hc3, hns, hst⟩ := hls; obtain rfl := names_one hns alive_names; have HST := Lib.hid hst; have HX1 := Lib.hid hx; clear hns hst hx)
  replace HB1 := Lib.hid (HB1.out.keep (Keep.of_ext (S := fun _ => True) HX1.out) (datas_all _))
  replace HB2 := Lib.hid (HB2.out.keep (Keep.of_ext (S := fun _ => True) HX1.out) (datas_all _))
  replace HT := Lib.hid (HT.out.ext HX1.out)
  replace HX := Lib.hid (HX.out.trans HX1.out)
  clear HX1 HLS
  have u1 : (convert 36 9 (.slice a1 3 c1)).run Tryz.prog w10 = .ok (.string ⟨#[116, 119, 111]⟩) w10 := conv_text (c := c1) HB1.out.bytes
  have u2 : (convert 36 9 (.slice a2 3 c2)).run Tryz.prog w10 = .ok (.string ⟨#[111, 110, 101]⟩) w10 := conv_text (c := c2) HB2.out.bytes
  simp only [List.length_cons, List.length_nil, Nat.zero_add] at hc3
  have hlo := at_Loose HT.out (by decide)
  rw [alive_r3.2.2.2.2.2] at hlo
  have HLO := Lib.hid hlo; clear hlo
  have hus := fun W (k : Ext w10 W) => at_Used (HT.out.ext k) (by decide)
  rw [alive_r3.2.1] at hus
  have HUS := Lib.hid hus; clear hus
  have hno := fun W (k : Ext w10 W) => at_Nodes (HT.out.ext k)
  rw [alive_r3.1] at hno
  have HNO := Lib.hid hno; clear hno
  have hdi := fun W (k : Ext w10 W) => at_Dir [47, 97] (HE.out.ext (HX.out.trans k)) (HT.out.ext k) (by decide)
  rw [alive_r3.2.2.2.1, alive_r3.2.2.2.2.1] at hdi
  have HDI := Lib.hid hdi; clear hdi
  obtain ⟨g3, o3, rfl, _, hcell⟩ := HST.out.at (by simp)
  have hcc : w10.cell? ⟨g3, o3, none⟩ = some (.string ⟨#[97]⟩) := hcell 0 (by simp)
  have HCC := Lib.hid hcc; clear hcell hcc
  go_wp2_with (first
    | (go_at_call 23; refine HLO.out.mono ?_; rintro E w11 ⟨a4, c4, rfl, _, hx⟩; have HX11 := Lib.hid hx; clear hx)
    | (go_at_call 24; refine (HUS.out _ HX11.out).mono ?_; rintro E w12 ⟨rfl, hx⟩; have HX12 := Lib.hid (HX11.out.trans hx); clear hx)
    | (go_at_call 25; refine (HNO.out _ HX12.out).mono ?_; rintro E w13 ⟨rfl, hx⟩; have HX13 := Lib.hid (HX12.out.trans hx); have q3 := HX13.out.cell HCC.out; clear hx)
    | (go_at_call 26; refine (HDI.out _ HX13.out).mono ?_; rintro E w14 ⟨rfl, hx⟩; have HX14 := Lib.hid (HX13.out.trans hx); clear hx))
  rw [HR.out]
  exact ⟨rfl, HX.out.trans HX14.out⟩
end Go.Proofs.YtldgpcmnmegioaaGreatDoor
