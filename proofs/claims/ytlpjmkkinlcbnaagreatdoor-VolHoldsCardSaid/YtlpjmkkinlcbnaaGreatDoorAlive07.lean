/- farrierlaw07.alive: the document's example. -/
import Derived.Test.YtlpjmkkinlcbnaaGreatDoorVolAt
import Derived.Test.YtlpjmkkinlcbnaaGreatDoorRefLaw
import Derived.Test.YtlpjmkkinlcbnaaGreatDoorM4
import Derived.Lib.SmallJoins
namespace Go.Proofs.YtlpjmkkinlcbnaaGreatDoor
open Go.RowKit
variable [Low]
omit [Low] in
theorem bare_again (m : RefD) : bareM (bareM m) = bareM m := by
  unfold bareM
  simp only [List.filter_filter]
  congr 1
  apply List.filter_congr
  intro f _
  unfold countM
  simp
section
variable {X : Nat → Prop}
set_option maxRecDepth 100000 in
set_option maxHeartbeats 12800000 in
theorem alive07 (w : World) (hE : Env w) (hlw : Low.low ≤ w.heap.size) (hX : ∀ g, X g → g < w.heap.size) : Calls Tryz.prog 5 #[] w fun e w' => e = .returned (.bool true) ∧ KeepY X w w' := by
  obtain ⟨R, hR⟩ : ∃ R : Ending → World → Prop, R = fun e w' => e = .returned (.bool true) ∧ KeepY X w w' := ⟨_, rfl⟩
  rw [← hR]
  have HR := Lib.hid hR; clear hR
  have HE := Lib.hid hE; have HXS := Lib.hid hX; have HLW := Lib.hid hlw; clear hE hX hlw
  have kc := fun (w : World) (C : Array Value) (n c : Nat) => Lib.run_convert_bytes_const (P := Tryz.prog) w 22 5 C n c Tryz.underlying22 Tryz.underlying5
  go_enter Tryz.func5, Tryz.ntmps5
  go_upto_region 2 with (go_at_call 6; refine (disk_New 100 (by decide) (by decide) w HLW.out).mono ?_; rintro E w1 ⟨db, kb, rfl, hd, hx⟩; have HD := Lib.hid hd; have HX := Lib.hid hx; clear hd hx)
  have hopn := at_vNew (X := X) (HE.out.ext HX.out) (fun g hg => Nat.lt_of_lt_of_le (HXS.out g hg) HX.out.size) HD.out (by decide) 1000
  have HOPN := Lib.hid hopn; clear hopn
  go_upto_region 3 with (go_at_call 7; refine HOPN.out.mono ?_; rintro E w2 ⟨vb, rfl, hv, hk⟩; have HV := Lib.hid hv; have HY := Lib.hid ((KeepY.of_ext (X := X) HX.out).trans hk); clear hv hk)
  clear HOPN HX HD
  obtain ⟨tb, T0, c0, _, _⟩ := HV.out.tree
  go_upto_region 5 with fail
  clear c0
  go_upto_region 6 with (go_at_call 8; refine Hid.out ?_)
  refine Lib.hid ?_
  have hx_w3 : Ext w2 ((w2.alloc (.cells #[.int .u8 111, .int .u8 110, .int .u8 101] 5 (3, 4))).alloc (.cells #[.int .i64 2, .string ⟨#[47, 102]⟩, .string ⟨#[]⟩, .slice (some ⟨w2.heap.size, 0, none⟩) 3 3] 32)) := ((Ext.alloc w2 (.cells #[.int .u8 111, .int .u8 110, .int .u8 101] 5 (3, 4))).trans (Ext.alloc (w2.alloc (.cells #[.int .u8 111, .int .u8 110, .int .u8 101] 5 (3, 4))) (.cells #[.int .i64 2, .string ⟨#[47, 102]⟩, .string ⟨#[]⟩, .slice (some ⟨w2.heap.size, 0, none⟩) 3 3] 32)))
  have ho := heap_alloc_new (w2.alloc (.cells #[.int .u8 111, .int .u8 110, .int .u8 101] 5 (3, 4))) (.cells #[.int .i64 2, .string ⟨#[47, 102]⟩, .string ⟨#[]⟩, .slice (some ⟨w2.heap.size, 0, none⟩) 3 3] 32)
  simp only [World.size_alloc] at ho
  have hd_0 := (Ext.alloc (w2.alloc (.cells #[.int .u8 111, .int .u8 110, .int .u8 101] 5 (3, 4))) (.cells #[.int .i64 2, .string ⟨#[47, 102]⟩, .string ⟨#[]⟩, .slice (some ⟨w2.heap.size, 0, none⟩) 3 3] 32)).heap (heap_alloc_new w2 (.cells #[.int .u8 111, .int .u8 110, .int .u8 101] 5 (3, 4)))
  generalize ((w2.alloc (.cells #[.int .u8 111, .int .u8 110, .int .u8 101] 5 (3, 4))).alloc (.cells #[.int .i64 2, .string ⟨#[47, 102]⟩, .string ⟨#[]⟩, .slice (some ⟨w2.heap.size, 0, none⟩) 3 3] 32)) = w3 at ho hx_w3 hd_0 ⊢
  have hops : OpsL w3 (some ⟨w2.heap.size + 1, 0, none⟩) ([(⟨2, [47, 102], [], [111, 110, 101]⟩, ⟨some ⟨w2.heap.size, 0, none⟩, 3⟩)] : List (OpD × OpA)) := ops_blk ho (by
    intro z hz
    simp only [List.mem_cons, List.not_mem_nil, or_false] at hz
    rcases hz with rfl
    · exact bytes_blk (l := [111, 110, 101]) hd_0)
  have hvd := at_vDoL (HE.out.keepY (HY.out.trans (KeepY.of_ext hx_w3))) (HV.out.ext hx_w3) (c := 1) hops (ops := [⟨2, [47, 102], [], [111, 110, 101]⟩]) rfl (k := 1) rfl (made_f 1000 (a := [111, 110, 101]) (by decide) (by decide)) (m2 := ⟨listF 2, [⟨2, [111, 110, 101]⟩], 3, 1000⟩) ((sweepM_eq _ _).trans rfl) (fit_all (by decide)) (by decide) (off' := 1) (by decide) (by decide) (by decide) (N' := 200002) (by decide) (by decide)
  refine hvd.mono ?_
  rintro E w4 ⟨rfl, hV, hk⟩
  have hy := (HY.out.trans (KeepY.of_ext hx_w3)).trans hk
  replace HV := Lib.hid hV
  replace HY := Lib.hid hy
  clear hV hk hy hx_w3 ho hops hvd hd_0
  have hvh := at_vHoldL (HE.out.keepY HY.out) HV.out [47, 102] (i := 2) rfl (by decide) (by decide) (hd' := fun z => if z = 2 then 1 else 0) (fun _ => rfl)
  have HVH := Lib.hid hvh; clear hvh
  go_upto_region 7 with (go_at_call 9; refine HVH.out.mono ?_; rintro E w5 ⟨rfl, hv, hk⟩; replace HV := Lib.hid hv; replace HY := Lib.hid (HY.out.trans hk); clear hv hk)
  clear HVH
  go_upto_region 8 with (go_at_call 8; refine Hid.out ?_)
  refine Lib.hid ?_
  have hx_w6 : Ext w5 (w5.alloc (.cells #[.int .i64 6, .string ⟨#[47, 102]⟩, .string ⟨#[]⟩, .slice none 0 0] 32)) := (Ext.alloc w5 (.cells #[.int .i64 6, .string ⟨#[47, 102]⟩, .string ⟨#[]⟩, .slice none 0 0] 32))
  have ho := heap_alloc_new w5 (.cells #[.int .i64 6, .string ⟨#[47, 102]⟩, .string ⟨#[]⟩, .slice none 0 0] 32)
  generalize (w5.alloc (.cells #[.int .i64 6, .string ⟨#[47, 102]⟩, .string ⟨#[]⟩, .slice none 0 0] 32)) = w6 at ho hx_w6  ⊢
  have hops : OpsL w6 (some ⟨w5.heap.size, 0, none⟩) ([(⟨6, [47, 102], [], []⟩, ⟨none, 0⟩)] : List (OpD × OpA)) := ops_blk ho (by
    intro z hz
    simp only [List.mem_cons, List.not_mem_nil, or_false] at hz
    rcases hz with rfl
    · exact Or.inl rfl)
  have hvd := at_vDoL (HE.out.keepY (HY.out.trans (KeepY.of_ext hx_w6))) (HV.out.ext hx_w6) (c := 1) hops (ops := [⟨6, [47, 102], [], []⟩]) rfl (k := 1) rfl (gone_f 1000 (a := [111, 110, 101]) (by decide)) (m2 := ⟨[rootE], [⟨2, [111, 110, 101]⟩], 3, 1000⟩) ((sweepM_eq _ _).trans rfl) (fit_all (by decide)) (by decide) (off' := 2) (by decide) (by decide) (by decide) (N' := 200005) (by decide) (by decide)
  refine hvd.mono ?_
  rintro E w7 ⟨rfl, hV, hk⟩
  have hy := (HY.out.trans (KeepY.of_ext hx_w6)).trans hk
  replace HV := Lib.hid hV
  replace HY := Lib.hid hy
  clear hV hk hy hx_w6 ho hops hvd
  obtain ⟨tb1, T1, c0, hT1, hlk1⟩ := HV.out.tree
  have hlo := at_Loose hT1 (by decide)
  have hl1 : looseM ⟨[rootE], [⟨2, [111, 110, 101]⟩], 3, 1000⟩ = [2] := List.mergeSort_singleton _
  rw [hlk1.loose, hl1] at hlo
  have HLO := Lib.hid hlo; clear hlo hT1 hlk1 hl1
  go_upto_region 9 with (go_at_call 12; refine HLO.out.mono ?_; rintro E w8 ⟨a8, c8, rfl, _, hx⟩; replace HV := Lib.hid (HV.out.ext hx); replace HY := Lib.hid (HY.out.trans (KeepY.of_ext hx)); clear hx)
  clear HLO c0
  have hvl := at_vLetL HV.out 2 (by decide) (by decide) (by decide) (by decide) (by decide) (hd' := fun _ => 0) (by intro z; by_cases h : z = 2 <;> simp [h]) (m' := ⟨[rootE], [], 3, 1000⟩) ((sweepM_eq _ _).trans rfl)
  have HVL := Lib.hid hvl; clear hvl
  go_upto_region 10 with (go_at_call 13; refine HVL.out.mono ?_; rintro E w9 ⟨rfl, hV, hk⟩; replace HY := Lib.hid (HY.out.trans hk); replace HV := Lib.hid hV; clear hV hk)
  clear HVL
  obtain ⟨tb1, T1, c0, hT1, hlk1⟩ := HV.out.tree
  have hlo := at_Loose hT1 (by decide)
  have hl1 : looseM ⟨[rootE], [], 3, 1000⟩ = [] := List.mergeSort_nil
  rw [hlk1.loose, hl1] at hlo
  have HLO := Lib.hid hlo; clear hlo hT1 hlk1 hl1
  go_wp2_with (first
    | (go_at_call 12; refine HLO.out.mono ?_; rintro E w10 ⟨a10, c10, rfl, _, hx⟩; have HX10 := Lib.hid hx; clear hx)
    | (go_at_call 11; refine (at_vHeld (HV.out.ext HX10.out) 2 (by decide) (by decide)).mono ?_; rintro E w11 ⟨rfl, rfl⟩)
    | (go_at_call 16; refine (at_vDead (HV.out.ext HX10.out)).mono ?_; rintro E w12 ⟨rfl, rfl⟩))
  rw [HR.out]
  exact ⟨rfl, HY.out.trans (KeepY.of_ext HX10.out)⟩
end
end Go.Proofs.YtlpjmkkinlcbnaaGreatDoor
