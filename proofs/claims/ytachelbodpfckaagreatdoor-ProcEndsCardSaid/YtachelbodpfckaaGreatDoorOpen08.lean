/- farrierlaw08.open: a volume with some files. -/
import Derived.Test.YtachelbodpfckaaGreatDoorProcMem
import Derived.Test.YtachelbodpfckaaGreatDoorM11
import Derived.Test.YtachelbodpfckaaGreatDoorM4
import Derived.Lib.SmallJoins
namespace Go.Proofs.YtachelbodpfckaaGreatDoor
open Go.RowKit
variable [Low]
def tree08 : RefD := ⟨[rootE, ⟨[47, 97], 2, false⟩, ⟨[47, 98], 3, false⟩, ⟨[47, 100], 4, true⟩, ⟨[47, 100, 47, 99], 5, false⟩], [⟨2, [97]⟩, ⟨3, []⟩, ⟨5, []⟩], 6, 2000⟩
def file08 : FileS := ⟨tree08, fun _ => 0⟩
omit [Low] in
theorem do08 : doM (newM 2000) [⟨2, [47, 97], [], [97]⟩, ⟨2, [47, 98], [], []⟩, ⟨0, [47, 100], [], []⟩, ⟨2, [47, 100, 47, 99], [], []⟩] = (tree08, 0) := by
 rfl
omit [Low] in
theorem sweep08 : sweepM tree08 (fun _ => 0) = tree08 := (sweepM_eq _ _).trans rfl
section
variable {X : Nat → Prop}
set_option maxRecDepth 100000 in
set_option maxHeartbeats 12800000 in
theorem open08 (w : World) (hE : EnvL w) (hlw : Low.low ≤ w.heap.size) (hX : ∀ g, X g → g < w.heap.size) : Calls Tryz.prog 7 #[] w fun e w' => ∃ vb db kb, e = .returned (.pointer (some ⟨vb, 0, none⟩)) ∧ VolK X w' vb db kb 500 200010 2 1 2000 file08.m file08.hd ∧ KeepY X w w' := by
 obtain ⟨R, hR⟩ : ∃ R : Ending → World → Prop, R = fun e w' => ∃ vb db kb, e = .returned (.pointer (some ⟨vb, 0, none⟩)) ∧ VolK X w' vb db kb 500 200010 2 1 2000 file08.m file08.hd ∧ KeepY X w w' := ⟨_, rfl⟩
 rw [← hR]
 have HR := Lib.hid hR; clear hR
 have HE := Lib.hid hE.env; have HXS := Lib.hid hX; have HLW := Lib.hid hlw; clear hE hX hlw
 have kc := fun (w : World) (C : Array Value) (n c : Nat) => Lib.run_convert_bytes_const (P := Tryz.prog) w 64 5 C n c Tryz.underlying64 Tryz.underlying5
 go_enter Tryz.func7, Tryz.ntmps7
 go_upto_region 1 with (go_at_call 28; refine (disk_New 500 (by decide) (by decide) w HLW.out).mono ?_; rintro E w1 ⟨db, kb, rfl, hd, hx⟩; have HD := Lib.hid hd; have HX := Lib.hid hx; clear hd hx)
 go_upto_region 2 with (first
  | (go_at_call 28; refine (disk_New 500 (by decide) (by decide) w HLW.out).mono ?_; rintro E w1 ⟨db, kb, rfl, hd, hx⟩; have HD := Lib.hid hd; have HX := Lib.hid hx; clear hd hx)
  | (go_at_call 27; refine (at_vNew (X := X) (fun g hg => Nat.lt_of_lt_of_le (HXS.out g hg) HX.out.size) HD.out (by decide) 2000).mono ?_; rintro E w2 ⟨vb, rfl, hv, hk⟩; have HV := Lib.hid hv; have HY := Lib.hid ((KeepY.of_ext (X := X) HX.out).trans hk); clear hv hk))
 clear HX HD
 obtain ⟨tb, T0, c0, _, _⟩ := HV.out.tree
 go_upto_region 4 with fail
 clear c0
 go_upto_region 5 with (go_at_call 24; refine Hid.out ?_)
 refine Lib.hid ?_
 have hx_w3 : Ext w2 ((w2.alloc (.cells #[.int .u8 97] 5 (1, 2))).alloc (.cells #[.int .i64 2, .string ⟨#[47, 97]⟩, .string ⟨#[]⟩, .slice (some ⟨w2.heap.size, 0, none⟩) 1 1, .int .i64 2, .string ⟨#[47, 98]⟩, .string ⟨#[]⟩, .slice none 0 0, .int .i64 0, .string ⟨#[47, 100]⟩, .string ⟨#[]⟩, .slice none 0 0, .int .i64 2, .string ⟨#[47, 100, 47, 99]⟩, .string ⟨#[]⟩, .slice none 0 0] 66)) := ((Ext.alloc w2 (.cells #[.int .u8 97] 5 (1, 2))).trans (Ext.alloc (w2.alloc (.cells #[.int .u8 97] 5 (1, 2))) (.cells #[.int .i64 2, .string ⟨#[47, 97]⟩, .string ⟨#[]⟩, .slice (some ⟨w2.heap.size, 0, none⟩) 1 1, .int .i64 2, .string ⟨#[47, 98]⟩, .string ⟨#[]⟩, .slice none 0 0, .int .i64 0, .string ⟨#[47, 100]⟩, .string ⟨#[]⟩, .slice none 0 0, .int .i64 2, .string ⟨#[47, 100, 47, 99]⟩, .string ⟨#[]⟩, .slice none 0 0] 66)))
 have ho := heap_alloc_new (w2.alloc (.cells #[.int .u8 97] 5 (1, 2))) (.cells #[.int .i64 2, .string ⟨#[47, 97]⟩, .string ⟨#[]⟩, .slice (some ⟨w2.heap.size, 0, none⟩) 1 1, .int .i64 2, .string ⟨#[47, 98]⟩, .string ⟨#[]⟩, .slice none 0 0, .int .i64 0, .string ⟨#[47, 100]⟩, .string ⟨#[]⟩, .slice none 0 0, .int .i64 2, .string ⟨#[47, 100, 47, 99]⟩, .string ⟨#[]⟩, .slice none 0 0] 66)
 simp only [World.size_alloc] at ho
 have hd_0 := (Ext.alloc (w2.alloc (.cells #[.int .u8 97] 5 (1, 2))) (.cells #[.int .i64 2, .string ⟨#[47, 97]⟩, .string ⟨#[]⟩, .slice (some ⟨w2.heap.size, 0, none⟩) 1 1, .int .i64 2, .string ⟨#[47, 98]⟩, .string ⟨#[]⟩, .slice none 0 0, .int .i64 0, .string ⟨#[47, 100]⟩, .string ⟨#[]⟩, .slice none 0 0, .int .i64 2, .string ⟨#[47, 100, 47, 99]⟩, .string ⟨#[]⟩, .slice none 0 0] 66)).heap (heap_alloc_new w2 (.cells #[.int .u8 97] 5 (1, 2)))
 generalize ((w2.alloc (.cells #[.int .u8 97] 5 (1, 2))).alloc (.cells #[.int .i64 2, .string ⟨#[47, 97]⟩, .string ⟨#[]⟩, .slice (some ⟨w2.heap.size, 0, none⟩) 1 1, .int .i64 2, .string ⟨#[47, 98]⟩, .string ⟨#[]⟩, .slice none 0 0, .int .i64 0, .string ⟨#[47, 100]⟩, .string ⟨#[]⟩, .slice none 0 0, .int .i64 2, .string ⟨#[47, 100, 47, 99]⟩, .string ⟨#[]⟩, .slice none 0 0] 66)) = w3 at ho hx_w3 hd_0 ⊢
 have hops : OpsL w3 (some ⟨w2.heap.size + 1, 0, none⟩) ([(⟨2, [47, 97], [], [97]⟩, ⟨some ⟨w2.heap.size, 0, none⟩, 1⟩), (⟨2, [47, 98], [], []⟩, ⟨none, 0⟩), (⟨0, [47, 100], [], []⟩, ⟨none, 0⟩), (⟨2, [47, 100, 47, 99], [], []⟩, ⟨none, 0⟩)] : List (OpD × OpA)) := ops_blk ho (by
  intro z hz
  simp only [List.mem_cons, List.not_mem_nil, or_false] at hz
  rcases hz with rfl | rfl | rfl | rfl
  · exact bytes_blk (l := [97]) hd_0
  · exact Or.inl rfl
  · exact Or.inl rfl
  · exact Or.inl rfl)
 have hvd := at_vDoL (HE.out.keepY (HY.out.trans (KeepY.of_ext hx_w3))) (HV.out.ext hx_w3) (c := 4) hops (ops := [⟨2, [47, 97], [], [97]⟩, ⟨2, [47, 98], [], []⟩, ⟨0, [47, 100], [], []⟩, ⟨2, [47, 100, 47, 99], [], []⟩]) rfl (k := 4) rfl do08 (m2 := tree08) sweep08 (fit_all (by decide)) (by decide) (off' := 2) (by decide) (by decide) (by decide) (N' := 200010) (by decide) (by decide)
 refine hvd.mono ?_
 rintro E w4 ⟨rfl, hV, hk⟩
 have hy := (HY.out.trans (KeepY.of_ext hx_w3)).trans hk
 replace HV := Lib.hid hV
 replace HY := Lib.hid hy
 clear hV hk hy hx_w3 ho hops hvd hd_0
 go_wp2_with fail
 rw [HR.out]
 exact ⟨vb, db, kb, rfl, HV.out, HY.out⟩
end
end Go.Proofs.YtachelbodpfckaaGreatDoor
