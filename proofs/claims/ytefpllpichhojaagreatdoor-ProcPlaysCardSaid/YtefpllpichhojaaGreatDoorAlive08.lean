/- farrierlaw08.alive: the document's example. -/
import Derived.Test.YtefpllpichhojaaGreatDoorM11
import Derived.Test.YtefpllpichhojaaGreatDoorProcSpawn
import Derived.Lib.SmallJoins
namespace Go.Proofs.YtefpllpichhojaaGreatDoor
open Go.RowKit
variable [Low]
def fs08a : FileS := incF (incF file08 2) 5
def ps08a : TabD := ⟨[⟨1, [117], [2, 5], false⟩], 2⟩
def fs08b : FileS := letsF (incF fs08a 2) [2]
def ps08b : TabD := ⟨[⟨1, [117], [2, 5], true⟩], 2⟩
omit [Low] in
theorem spawn08a : spawnF file08 noneP [117] [[47, 97], [47, 100, 47, 99]] = ((fs08a, ps08a), (1, 0)) := by rfl
omit [Low] in
theorem spawn08b : spawnF fs08a ps08a [117] [[47, 97], [47, 120]] = ((fs08b, ps08a), (0, 8)) := by rfl
def fs08c : FileS := letsF fs08b [2, 5]
def ps08c : TabD := ⟨[], 2⟩
omit [Low] in
theorem kill08 : killF ps08a 1 = (ps08b, 0) := by rfl
omit [Low] in
theorem pick08 : pickF fs08b ps08b 1 = ((fs08c, ps08c), (true, 0)) := by rfl
omit [Low] in
theorem held08c : fs08c.hd 2 = 0 := by unfold fs08c fs08b; rw [letsF_hd, letsF_hd]; rfl
omit [Low] in
theorem held08b : fs08b.hd 2 = 1 := by unfold fs08b; rw [letsF_hd]; rfl
theorem KeepP.of_Y {X : Nat → Prop} {a b : World} (h : KeepY X a b) : KeepP X a b := KeepP.of_keepY h fun _ hg => hg
section
variable {X : Nat → Prop}
theorem sys_held {w : World} {tb vb db kb n N off top : Nat} {q : Int} {F : FileS} {P : TabD} (h : SysP X w tb vb db kb n N off top q F P) (i : Int) (h1 : -9223372036854775808 ≤ i) (h2 : i ≤ 9223372036854775807) :
 Calls Tryz.prog 67 #[.pointer (some ⟨vb, 0, none⟩), .int .i64 i] w fun e w' => e = .returned (.int .i64 (F.hd i : Nat)) ∧ w = w' := by
 obtain ⟨pm, A, _, hv, _⟩ := h
 exact at_vHeld hv i h1 h2
theorem strs_new {w : World} {L : List By} (W : World) (h : KeepY X (w.alloc (.cells ((L.map bs).map Value.string).toArray 9)) W) : Strs W (some ⟨w.heap.size, 0, none⟩) L := by
 refine Or.inr ⟨w.heap.size, 0, rfl, ?_, fun i hi => ?_⟩
 · have := h.size
   simp at this
   omega
 · have hb := KeepX.heap h (heap_alloc_new w (.cells ((L.map bs).map Value.string).toArray 9)) (by decide)
   rw [Nat.zero_add]
   refine blk_cell hb i _ ?_
   simp [hi]
set_option maxRecDepth 100000 in
set_option maxHeartbeats 12800000 in
theorem alive08 (w : World) (hE : EnvL w) (hlw : Low.low ≤ w.heap.size) (hX : ∀ g, X g → g < w.heap.size) : Calls Tryz.prog 10 #[] w fun e w' => e = .returned (.bool true) ∧ KeepP X w w' := by
 obtain ⟨R, hR⟩ : ∃ R : Ending → World → Prop, R = fun e w' => e = .returned (.bool true) ∧ KeepP X w w' := ⟨_, rfl⟩
 rw [← hR]
 have HR := Lib.hid hR; clear hR
 have HE := Lib.hid hE; have HXS := Lib.hid hX; have HLW := Lib.hid hlw; clear hE hX hlw
 go_enter Tryz.func10, Tryz.ntmps10
 go_upto_region 4 with (go_at_call 11; refine (open08 (X := X) w HE.out HLW.out HXS.out).mono ?_; rintro E w1 ⟨vb, db, kb, rfl, hv, hy⟩; have HV := Lib.hid hv; have HY := Lib.hid (KeepP.of_Y hy); have HXS1 := Lib.hid (fun g hg => Nat.lt_of_lt_of_le (HXS.out g hg) hy.size); have HLW1 := Lib.hid (Nat.le_trans HLW.out hy.size); clear hv hy)
 go_upto_region 7 with (go_at_call 12; refine (proc_New HV.out (fun _ => rfl) HXS1.out HLW1.out (by decide)).mono ?_; rintro E w2 ⟨tb, rfl, hs, hx⟩; have HS := Lib.hid hs; replace HY := Lib.hid (HY.out.trans (KeepP.of_ext hx)); have HLW2 := Lib.hid (Nat.le_trans HLW1.out hx.size); clear hs hx)
 have HYS : Hid (w2.heap.size ≤ w2.heap.size) := Lib.hid (Nat.le_refl _)
 go_upto_region 8 with (go_at_call 15; refine Hid.out ?_)
 refine Lib.hid ?_
 have hx := Ext.alloc w2 (.cells #[.string ⟨#[47, 97]⟩, .string ⟨#[47, 100, 47, 99]⟩] 9)
 have hsp := proc_Spawn (X := X) (w := w2.alloc (.cells #[.string ⟨#[47, 97]⟩, .string ⟨#[47, 100, 47, 99]⟩] 9)) ((HE.out.keepP HY.out).ext hx) (HS.out.ext hx) (Nat.le_trans HLW2.out (Nat.le_trans HYS.out hx.size)) [117] [[47, 97], [47, 100, 47, 99]] (some ⟨w2.heap.size, 0, none⟩) 2 (fun W h => strs_new (L := [[47, 97], [47, 100, 47, 99]]) W h) (by decide) (by decide)
 rw [spawn08a] at hsp
 have HSP := Lib.hid hsp; have HX := Lib.hid hx; clear hsp hx
 refine HSP.out.mono ?_
 rintro E w3 ⟨rfl, hs, hk⟩
 replace HS := Lib.hid hs; replace HY := Lib.hid ((HY.out.trans (KeepP.of_ext HX.out)).trans hk); replace HYS := Lib.hid (Nat.le_trans HYS.out (Nat.le_trans HX.out.size hk.size))
 clear hs hk HSP HX
 go_upto_region 9 with (go_at_call 15; refine Hid.out ?_)
 refine Lib.hid ?_
 have hx := Ext.alloc w3 (.cells #[.string ⟨#[47, 97]⟩, .string ⟨#[47, 120]⟩] 9)
 have hsp := proc_Spawn (X := X) (w := w3.alloc (.cells #[.string ⟨#[47, 97]⟩, .string ⟨#[47, 120]⟩] 9)) ((HE.out.keepP HY.out).ext hx) (HS.out.ext hx) (Nat.le_trans HLW2.out (Nat.le_trans HYS.out hx.size)) [117] [[47, 97], [47, 120]] (some ⟨w3.heap.size, 0, none⟩) 2 (fun W h => strs_new (L := [[47, 97], [47, 120]]) W h) (by decide) (by decide)
 rw [spawn08b] at hsp
 have HSP := Lib.hid hsp; have HX := Lib.hid hx; clear hsp hx
 refine HSP.out.mono ?_
 rintro E w4 ⟨rfl, hs, hk⟩
 replace HS := Lib.hid hs; replace HY := Lib.hid ((HY.out.trans (KeepP.of_ext HX.out)).trans hk); replace HYS := Lib.hid (Nat.le_trans HYS.out (Nat.le_trans HX.out.size hk.size))
 clear hs hk HSP HX
 go_upto_region 10 with (go_at_call 67; refine (sys_held HS.out 2 (by decide) (by decide)).mono ?_; rintro E w5 ⟨rfl, rfl⟩)
 rw [held08b]
 have hki := proc_Kill HS.out 1 (by decide) (by decide)
 rw [kill08] at hki
 have HKI := Lib.hid hki; clear hki
 go_upto_region 11 with (go_at_call 20; refine HKI.out.mono ?_; rintro E w6 ⟨rfl, hs, hk⟩; replace HS := Lib.hid hs; replace HY := Lib.hid (HY.out.trans hk); clear hs hk)
 clear HKI
 have hge := proc_Get HS.out 1 (by decide) (by decide)
 have HGE := Lib.hid hge; clear hge
 go_upto_region 12 with (go_at_call 68; refine HGE.out.mono ?_; rintro E w7 ⟨⟨a7, c7, rfl, hO⟩, hx⟩; have HO := Lib.hid hO; have HX7 := Lib.hid hx; clear hx hO)
 clear HGE
 have hx8 := Ext.alloc w7 (.cells #[.int .i64 1, .string (bs [117]), .slice a7 2 c7, .bool true] 128)
 have hb8 := heap_alloc_new w7 (.cells #[.int .i64 1, .string (bs [117]), .slice a7 2 c7, .bool true] 128)
 have HXA := Lib.hid (HX7.out.trans hx8)
 have HB8 := Lib.hid hb8
 have hO8 := HO.out.keep (Keep.of_ext (S := fun _ => True) hx8) (fun _ _ _ _ => trivial)
 obtain ⟨g7, rfl, hg7, _⟩ := OwnIs.at (k := 0) hO8 (by decide)
 obtain ⟨_, _, cs7, hc7⟩ := hO8.block rfl
 have hl7 : g7 < _ := (Array.getElem?_eq_some_iff.1 hc7).1
 have hl8 := (Array.getElem?_eq_some_iff.1 hb8).1
 have hl9 := HX7.out.size
 have HSM := Lib.hid (HS.out.more (Y := fun g => X g ∨ g = w7.heap.size ∨ g = g7) HXA.out (fun g hg => by
  rcases hg with h | h | h
  · exact Or.inl h
  · exact Or.inr ⟨by omega, by omega⟩
  · exact Or.inr ⟨by omega, by omega⟩))
 have HO8 := Lib.hid hO8
 have HC7 := Lib.hid hc7
 clear hO8 hc7 hl7 hl8 hl9 hx8 hb8 HX7 HO HS hg7
 generalize w7.heap.size = s7 at HB8 HSM ⊢
 generalize (w7.alloc (.cells #[.int .i64 1, .string (bs [117]), .slice (some ⟨g7, 0, none⟩) 2 c7, .bool true] 128)) = w8 at HB8 HSM HO8 HC7 HXA ⊢
 have hpi := proc_Pick HSM.out 1 (by decide) (by decide) (by decide)
 rw [pick08] at hpi
 have HPI := Lib.hid hpi; clear hpi
 go_upto_region 13 with (go_at_call 21; refine HPI.out.mono ?_; rintro E w9 ⟨rfl, hs, hk⟩; have HS9 := Lib.hid hs; have HK9 := Lib.hid hk; clear hs hk)
 clear HPI HSM
 have hb9 := HK9.out.cells HB8.out (Or.inr (Or.inl rfl)) (by decide)
 have hc9 := HK9.out.cells HC7.out (Or.inr (Or.inr rfl)) (by decide)
 have hO9 : OwnIs w9 w6.heap.size (some ⟨g7, 0, none⟩) c7 [2, 5] := HO8.out.keep HK9.out fun x cs hx hc => Or.inr (Or.inl ⟨by cases hx; exact Or.inr (Or.inr rfl), Or.inr ⟨_, _, _, hc, by decide⟩⟩)
 obtain ⟨g7', he, _, c70⟩ := OwnIs.at (k := 0) hO9 (by decide)
 cases he
 have c0 := blk_cell hb9 0 (.int .i64 1) rfl
 have c1 : w9.cell? ⟨s7, 1, none⟩ = some (.string ⟨#[117]⟩) := blk_cell hb9 1 (.string (bs [117])) rfl
 have c2 := blk_cell hb9 2 (.slice (some ⟨g7, 0, none⟩) 2 c7) rfl
 have c3 := blk_cell hb9 3 (.bool true) rfl
 have c71 : w9.cell? ⟨g7, 0, none⟩ = some (.int .i64 2) := c70
 have hli := proc_List HS9.out (by decide)
 rw [show pidsP ps08c = [] from rfl] at hli
 have hhe := fun W (k : Ext w9 W) => sys_held (HS9.out.ext k) 2 (by decide) (by decide)
 rw [held08c] at hhe
 have HHE := Lib.hid hhe; clear hhe
 have HLI := Lib.hid hli
 have HB9 := Lib.hid hb9
 clear hli hb9 hc9 hO9 c70
 go_wp2_with (first
  | (go_at_call 55; refine HLI.out.mono ?_; rintro E w10 ⟨a10, c10, rfl, _, hx⟩; have HX10 := Lib.hid hx; clear hx)
  | (go_at_call 67; refine (HHE.out _ HX10.out).mono ?_; rintro E w11 ⟨rfl, rfl⟩))
 rw [HR.out]
 exact ⟨rfl, (HY.out.trans (KeepP.of_ext HXA.out)).trans ((HK9.out.mono fun g hg => Or.inl hg).trans (KeepP.of_ext HX10.out))⟩
end
end Go.Proofs.YtefpllpichhojaaGreatDoor
