/- arc.Read of whatever bytes; arc.Write in two forms. -/
import Derived.Test.YtpfcofjianmeaaaGreatDoorArcRead
import Derived.Test.YtpfcofjianmeaaaGreatDoorArcWrite
import Derived.Lib.SlBytesConst
namespace Go.Proofs.YtpfcofjianmeaaaGreatDoor
open Go.RowKit
theorem arc_read (a : Option Addr) (c : Nat) (b : By) (w : World) (hE : EnvN w) (hb : Bytes w a b) (hc : b.length ≤ c) (hm : b.length ≤ 100000) :
    Calls Tryz.prog 11 #[.slice a b.length c] w (ReadR b w) := by
  by_cases hl : b.length < 4
  · exact arc_read_short a c b w hl
  · obtain ⟨g, off, rfl, _, _⟩ := hb.at (by intro e; rw [e] at hl; simp at hl)
    by_cases hs : le32 (b.drop (b.length - 4)) = (crcL (b.take (b.length - 4))).toNat
    · exact arc_read_good g off c b w hb hc (by omega) hm hE hs
    · exact arc_read_sum g off c b w hb hc (by omega) hm hs
theorem arc_write_yes (p : PkgD) (A : PkgA) (w : World) (hE : EnvN w) (hM : PkgM w p A) (hS : FitP p) (hC : p.files.length ≤ A.cf) (hr : rightP p = true) :
    Calls Tryz.prog 8 #[pkgV p A] w fun e w' => ∃ a c, e = .returned (.tuple #[.slice a (writeP p).length c, .int .i64 0]) ∧ OwnB w' w.heap.size a c (writeP p) ∧ Ext w w' :=
  (arc_write p A w hE hM hS hC).mono fun _ _ h => by
    obtain ⟨h1, h2⟩ := h
    rw [if_pos hr] at h2
    obtain ⟨a, c, h3, h4⟩ := h2
    exact ⟨a, c, h3, h4, h1⟩
theorem arc_write_no (p : PkgD) (A : PkgA) (w : World) (hE : EnvN w) (hM : PkgM w p A) (hS : FitP p) (hC : p.files.length ≤ A.cf) (hr : rightP p = false) :
    Calls Tryz.prog 8 #[pkgV p A] w fun e w' => e = .returned (.tuple #[.slice none 0 0, .int .i64 1]) ∧ Ext w w' :=
  (arc_write p A w hE hM hS hC).mono fun _ _ h => by
    obtain ⟨h1, h2⟩ := h
    rw [if_neg (by rw [hr]; simp)] at h2
    exact ⟨h2, h1⟩
attribute [local go_sem ↓] Go.wp_at_zero Go.wp_at_succ
def exP : PkgD := ⟨[97], [49], [], [], [⟨[47, 102], false, [120]⟩], []⟩
theorem exP_right : rightP exP = true := by decide +kernel
theorem pz_right : rightP pz = false := by decide +kernel
theorem exP_len : (writeP exP).length = 45 := by decide +kernel
theorem exP_back : readP (writeP exP) = (exP, 0) := readP_back exP_right
theorem four_bad : readP [102, 111, 117, 114] = (pz, 5) := by unfold readP; rw [if_neg (by decide), if_pos (by decide +kernel)]
theorem nil_bad : readP [] = (pz, 5) := by unfold readP; rw [if_pos (by decide)]
theorem exP_small : FitP exP := SmallP.fit (by constructor <;> simp [exP])
theorem pz_small : FitP pz := SmallP.fit (by constructor <;> simp [pz])

theorem cell_new_fr (w : World) (cs : Array Value) (t : TypeId) (fr : Nat × Nat) (i : Nat) (v : Value) (h : cs[i]? = some v) : (w.alloc (.cells cs t fr)).cell? ⟨w.heap.size, i, none⟩ = some v := by
  simp only [World.cell?, World.alloc, Array.getElem?_push, if_true]
  simpa using h
theorem bytes_one (w : World) (x : UInt8) (fr : Nat × Nat) : Bytes (w.alloc (.cells #[.int .u8 (x.toNat : Nat)] 5 fr)) (some ⟨w.heap.size, 0, none⟩) [x] := by
  refine Or.inr ⟨w.heap.size, 0, rfl, by simp, fun i hi => ?_⟩
  have hi0 : i = 0 := by have : i < 1 := hi; omega
  subst hi0
  exact cell_new_fr w _ _ _ 0 _ rfl
theorem bytes_four (w : World) (fr : Nat × Nat) : Bytes (w.alloc (.cells #[.int .u8 102, .int .u8 111, .int .u8 117, .int .u8 114] 5 fr)) (some ⟨w.heap.size, 0, none⟩) [102, 111, 117, 114] := by
  refine Or.inr ⟨w.heap.size, 0, rfl, by simp, fun i hi => ?_⟩
  have : i < 4 := hi
  have hi0 : i = 0 ∨ i = 1 ∨ i = 2 ∨ i = 3 := by omega
  rcases hi0 with rfl | rfl | rfl | rfl <;> exact cell_new_fr w _ _ _ _ _ rfl
theorem read_exP (a : Option Addr) (c : Nat) (w : World) (hE : EnvN w) (hb : Bytes w a (writeP exP)) (hc : 45 ≤ c) :
    Calls Tryz.prog 11 #[.slice a 45 c] w fun e w' => ∃ an ac af au cn cc cf cu, e = .returned (.tuple #[.agg #[.string ⟨#[97]⟩, .string ⟨#[49]⟩, .slice an 0 cn, .slice ac 0 cc, .slice af 1 cf, .slice au 0 cu], .int .i64 0]) ∧ FilesM w' af exP.files ∧ Ext w w' := by
  have h := arc_read a c (writeP exP) w hE hb (by rw [exP_len]; exact hc) (by rw [exP_len]; omega)
  rw [exP_len] at h
  refine h.mono ?_
  rintro e w' ⟨⟨an, ac, af, au, cn, cc, cf, cu⟩, rfl, hM, _, hx⟩
  rw [exP_back] at hM ⊢
  exact ⟨an, ac, af, au, cn, cc, cf, cu, rfl, hM.files, hx⟩
theorem read_pz (a : Option Addr) (c n : Nat) (b : By) (w : World) (hE : EnvN w) (hb : Bytes w a b) (hc : b.length ≤ c) (hl : b.length = n) (hn : n ≤ 100000) (hr : readP b = (pz, 5)) :
    Calls Tryz.prog 11 #[.slice a n c] w fun e w' => ∃ an ac af au cn cc cf cu, e = .returned (.tuple #[.agg #[.string ⟨#[]⟩, .string ⟨#[]⟩, .slice an 0 cn, .slice ac 0 cc, .slice af 0 cf, .slice au 0 cu], .int .i64 5]) ∧ Ext w w' := by
  subst hl
  refine (arc_read a c b w hE hb hc hn).mono ?_
  rintro e w' ⟨⟨an, ac, af, au, cn, cc, cf, cu⟩, rfl, hM, _, hx⟩
  rw [hr]
  exact ⟨an, ac, af, au, cn, cc, cf, cu, rfl, hx⟩
theorem write_exP (af : Option Addr) (w : World) (hE : EnvN w) (hM : FilesM w af exP.files) :
    Calls Tryz.prog 8 #[.agg #[.string ⟨#[97]⟩, .string ⟨#[49]⟩, .slice none 0 0, .slice none 0 0, .slice af 1 1, .slice none 0 0]] w fun e w' => ∃ a c, e = .returned (.tuple #[.slice a 45 c, .int .i64 0]) ∧ 45 ≤ c ∧ Bytes w' a (writeP exP) ∧ Ext w w' := by
  have h := arc_write_yes exP ⟨none, none, af, none, 0, 0, 1, 0⟩ w hE ⟨NeedsM.nil _ _, Strs.nil _ _, hM, Strs.nil _ _⟩ exP_small (Nat.le_refl _) exP_right
  refine h.mono ?_
  rintro e w' ⟨a, c, rfl, ho, hx⟩
  have hb := ho.bytes
  rw [exP_len] at hb ⊢
  exact ⟨a, c, rfl, hb.2, hb.1, hx⟩
theorem right_exP (af : Option Addr) (w : World) (hE : EnvN w) (hM : FilesM w af exP.files) :
    Calls Tryz.prog 9 #[.agg #[.string ⟨#[97]⟩, .string ⟨#[49]⟩, .slice none 0 0, .slice none 0 0, .slice af 1 1, .slice none 0 0]] w fun e w' => e = .returned (.bool true) ∧ Ext w w' := by
  have h := arc_right exP ⟨none, none, af, none, 0, 0, 1, 0⟩ w hE ⟨NeedsM.nil _ _, Strs.nil _ _, hM, Strs.nil _ _⟩ exP_small (Nat.le_refl _)
  rw [exP_right] at h
  exact h
theorem right_pz (w : World) (hE : EnvN w) :
    Calls Tryz.prog 9 #[.agg #[.string ⟨#[]⟩, .string ⟨#[]⟩, .slice none 0 0, .slice none 0 0, .slice none 0 0, .slice none 0 0]] w fun e w' => e = .returned (.bool false) ∧ Ext w w' := by
  have h := arc_right pz ⟨none, none, none, none, 0, 0, 0, 0⟩ w hE ⟨NeedsM.nil _ _, Strs.nil _ _, FilesM.nil _ _, Strs.nil _ _⟩ pz_small (Nat.le_refl _)
  rw [pz_right] at h
  exact h
set_option maxRecDepth 100000 in
set_option maxHeartbeats 6400000 in
theorem alive10 (w : World) (hE : EnvN w) :
    Calls Tryz.prog 5 #[] w fun e w' => e = .returned (.bool true) ∧ Ext w w' := by
  obtain ⟨Q, hQ⟩ : ∃ Q : Ending → World → Prop, Q = fun e w' => e = .returned (.bool true) ∧ Ext w w' := ⟨_, rfl⟩
  rw [← hQ]
  have HQ := Lib.hid hQ; clear hQ
  have kc := fun (w : World) (C : Array Value) (n c : Nat) => Lib.run_convert_bytes_const (P := Tryz.prog) w 34 5 C n c Tryz.underlying34 Tryz.underlying5
  have hF : FilesM (((w.alloc (.cells #[.int .u8 120] 5 (1, 2))).alloc (.cells #[.string ⟨#[47, 102]⟩, .bool false, .slice (some ⟨w.heap.size, 0, none⟩) 1 1] 49)).alloc (.cells #[.string ⟨#[97]⟩, .string ⟨#[49]⟩, .slice none 0 0, .slice none 0 0, .slice (some ⟨w.heap.size + 1, 0, none⟩) 1 1, .slice none 0 0] 26)) (some ⟨w.heap.size + 1, 0, none⟩) exP.files := by
    refine FilesM.ext (Or.inr ⟨w.heap.size + 1, 0, rfl, by simp, fun i hi => ?_⟩) (Ext.alloc _ _)
    have hi0 : i = 0 := by have : i < 1 := hi; omega
    subst hi0
    have hn := fun i v h => cell_new (w.alloc (.cells #[.int .u8 120] 5 (1, 2))) #[.string ⟨#[47, 102]⟩, .bool false, .slice (some ⟨w.heap.size, 0, none⟩) 1 1] 49 i v h
    rw [World.size_alloc] at hn
    exact ⟨hn 0 _ rfl, hn 1 _ rfl, some ⟨w.heap.size, 0, none⟩, 1, hn 2 _ rfl, Nat.le_refl _, (bytes_one w 120 (1, 2)).ext (Ext.alloc _ _)⟩
  have hx0 : Ext w (((w.alloc (.cells #[.int .u8 120] 5 (1, 2))).alloc (.cells #[.string ⟨#[47, 102]⟩, .bool false, .slice (some ⟨w.heap.size, 0, none⟩) 1 1] 49)).alloc (.cells #[.string ⟨#[97]⟩, .string ⟨#[49]⟩, .slice none 0 0, .slice none 0 0, .slice (some ⟨w.heap.size + 1, 0, none⟩) 1 1, .slice none 0 0] 26)) := ((Ext.alloc _ _).trans (Ext.alloc _ _)).trans (Ext.alloc _ _)
  have hp0 : (((w.alloc (.cells #[.int .u8 120] 5 (1, 2))).alloc (.cells #[.string ⟨#[47, 102]⟩, .bool false, .slice (some ⟨w.heap.size, 0, none⟩) 1 1] 49)).alloc (.cells #[.string ⟨#[97]⟩, .string ⟨#[49]⟩, .slice none 0 0, .slice none 0 0, .slice (some ⟨w.heap.size + 1, 0, none⟩) 1 1, .slice none 0 0] 26)).heap[w.heap.size + 1 + 1]? = some (.cells #[.string ⟨#[97]⟩, .string ⟨#[49]⟩, .slice none 0 0, .slice none 0 0, .slice (some ⟨w.heap.size + 1, 0, none⟩) 1 1, .slice none 0 0] 26 (0, 0)) := by
    have := heap_alloc_new ((w.alloc (.cells #[.int .u8 120] 5 (1, 2))).alloc (.cells #[.string ⟨#[47, 102]⟩, .bool false, .slice (some ⟨w.heap.size, 0, none⟩) 1 1] 49)) (.cells #[.string ⟨#[97]⟩, .string ⟨#[49]⟩, .slice none 0 0, .slice none 0 0, .slice (some ⟨w.heap.size + 1, 0, none⟩) 1 1, .slice none 0 0] 26)
    rw [World.size_alloc, World.size_alloc] at this
    exact this
  have HF := Lib.hid hF; clear hF
  have HX0 := Lib.hid hx0; clear hx0
  have HP0 := Lib.hid hp0; clear hp0
  have HE := Lib.hid hE; clear hE
  go_enter Tryz.func5, Tryz.ntmps5
  go_wp2_with fail
  generalize ((w.alloc (.cells #[.int .u8 120] 5 (1, 2))).alloc (.cells #[.string ⟨#[47, 102]⟩, .bool false, .slice (some ⟨w.heap.size, 0, none⟩) 1 1] 49)).alloc (.cells #[.string ⟨#[97]⟩, .string ⟨#[49]⟩, .slice none 0 0, .slice none 0 0, .slice (some ⟨w.heap.size + 1, 0, none⟩) 1 1, .slice none 0 0] 26) = w0 at HF HX0 HP0 ⊢
  refine (write_exP (some ⟨w.heap.size + 1, 0, none⟩) w0 (HE.out.ext HX0.out) HF.out).mono ?_
  rintro e w1 ⟨a1, c1, rfl, hc1, hb1, hx1⟩
  have HB1 := Lib.hid hb1; clear hb1
  have X1 := Lib.hid (HX0.out.trans hx1)
  have HP1 := Lib.hid (hx1.heap HP0.out)
  have HF1 := Lib.hid (HF.out.ext hx1); clear HF HP0 HX0 hx1
  go_wp2_with fail
  refine (read_exP a1 c1 w1 (HE.out.ext X1.out) HB1.out hc1).mono ?_
  rintro e w2 ⟨an, ac, af, au, cn, cc, cf, cu, rfl, hF2, hx2⟩
  have X2 := Lib.hid (X1.out.trans hx2)
  have HP2 := Lib.hid (hx2.heap HP1.out)
  have HF2 := Lib.hid (HF1.out.ext hx2); clear HF1 HP1 X1 hx2 HB1
  have HG2 := Lib.hid hF2; clear hF2
  have hz2 : w.heap.size + 1 + 1 < w2.heap.size := (Array.getElem?_eq_some_iff.1 HP2.out).1
  go_upto_region 4 with (fail)
  have hx3 : Ext w2 (w2.alloc (.cells #[.string ⟨#[97]⟩, .string ⟨#[49]⟩, .slice an 0 cn, .slice ac 0 cc, .slice af 1 cf, .slice au 0 cu] 26)) := Ext.alloc _ _
  have hq3 := heap_alloc_new w2 (.cells #[.string ⟨#[97]⟩, .string ⟨#[49]⟩, .slice an 0 cn, .slice ac 0 cc, .slice af 1 cf, .slice au 0 cu] 26)
  generalize w2.alloc (.cells #[.string ⟨#[97]⟩, .string ⟨#[49]⟩, .slice an 0 cn, .slice ac 0 cc, .slice af 1 cf, .slice au 0 cu] 26) = w3 at hx3 hq3 ⊢
  have X3 := Lib.hid (X2.out.trans hx3)
  have HP3 := Lib.hid (hx3.heap HP2.out)
  have HF3 := Lib.hid (HF2.out.ext hx3)
  have HG3 := Lib.hid (HG2.out.ext hx3); clear HF2 HP2 X2 hx3 HG2
  have HQ3 := Lib.hid hq3; clear hq3
  go_wp2_with fail
  refine (read_pz (some ⟨w3.heap.size, 0, none⟩) 4 4 [102, 111, 117, 114] _ ((HE.out.ext X3.out).ext (Ext.alloc _ _)) (bytes_four w3 (4, 5)) (by decide) rfl (by decide) four_bad).mono ?_
  rintro e w4 ⟨bn, bc, bf, bu, kn, kc1, kf, ku, rfl, hx4⟩
  have X34 := Lib.hid ((Ext.alloc w3 _).trans hx4)
  clear hx4
  go_upto_region 5 with (fail)
  have hx5 : Ext w4 (w4.alloc (.cells #[.string ⟨#[]⟩, .string ⟨#[]⟩, .slice bn 0 kn, .slice bc 0 kc1, .slice bf 0 kf, .slice bu 0 ku] 26)) := Ext.alloc _ _
  generalize w4.alloc (.cells #[.string ⟨#[]⟩, .string ⟨#[]⟩, .slice bn 0 kn, .slice bc 0 kc1, .slice bf 0 kf, .slice bu 0 ku] 26) = w5 at hx5 ⊢
  have X35 := Lib.hid (X34.out.trans hx5); clear hx5 X34
  go_wp2_with fail
  refine (read_pz none 0 0 [] _ ((HE.out.ext X3.out).ext X35.out) (Or.inl rfl) (by decide) rfl (by decide) nil_bad).mono ?_
  rintro e w6 ⟨dn, dc, df, du, jn, jc, jf, ju, rfl, hx6⟩
  have hx7 := (X35.out.trans hx6).trans (Ext.alloc w6 (.cells #[.string ⟨#[]⟩, .string ⟨#[]⟩, .slice dn 0 jn, .slice dc 0 jc, .slice df 0 jf, .slice du 0 ju] 26))
  clear hx6
  go_upto_region 6 with (fail)
  generalize w6.alloc (.cells #[.string ⟨#[]⟩, .string ⟨#[]⟩, .slice dn 0 jn, .slice dc 0 jc, .slice df 0 jf, .slice du 0 ju] 26) = w7 at hx7 ⊢
  have X7 := Lib.hid (X3.out.trans hx7)
  have hp7 := hx7.heap HP3.out
  have hq7 := hx7.heap HQ3.out
  have p0 := blk_cell hp7 0 _ rfl
  have p1 := blk_cell hp7 1 _ rfl
  have p2 := blk_cell hp7 2 _ rfl
  have p3 := blk_cell hp7 3 _ rfl
  have p4 := blk_cell hp7 4 _ rfl
  have p5 := blk_cell hp7 5 _ rfl
  have q0 := blk_cell hq7 0 _ rfl
  have q4 := blk_cell hq7 4 _ rfl
  have HF7 := Lib.hid (HF3.out.ext hx7)
  have HG7 := Lib.hid (HG3.out.ext hx7)
  clear hx7 HF3 HG3 hp7 hq7 HP3 HQ3 X3 X35
  obtain ⟨g, off, rfl, hg, hfc⟩ := HG7.out.at (i := 0) (by decide)
  obtain ⟨_, _, dd, dq, r2, _, hbd⟩ := hfc
  rw [Nat.zero_mul, Nat.add_zero] at r2
  have hcv := conv_text (c := dq) hbd
  clear hbd HG7
  replace r2 : w7.cell? ⟨g, off + 2, none⟩ = some (.slice dd 1 dq) := r2
  replace hcv : (convert 34 9 (.slice dd 1 dq)).run Tryz.prog w7 = .ok (.string ⟨#[120]⟩) w7 := hcv
  go_wp2_with fail
  refine (right_exP (some ⟨w.heap.size + 1, 0, none⟩) _ (HE.out.ext X7.out) HF7.out).mono ?_
  rintro e w8 ⟨rfl, hx8⟩
  have X8 := Lib.hid (X7.out.trans hx8); clear hx8
  clear p0 p1 p2 p3 p4 p5 q0 q4 r2 hcv X7 HF7
  go_wp2_with fail
  refine (right_pz _ (HE.out.ext X8.out)).mono ?_
  rintro e w9 ⟨rfl, hx9⟩
  go_wp2_with fail
  rw [HQ.out]
  exact ⟨rfl, X8.out.trans hx9⟩
end Go.Proofs.YtpfcofjianmeaaaGreatDoor
