/- The statement ArcReads: its walk. -/
import Derived.Test.YtpfcofjianmeaaaGreatDoorArcWrites
import Derived.Lib.EndianBits
import Derived.BigQuiet
import Derived.Deep.QuietTactic
namespace Go.Proofs.YtpfcofjianmeaaaGreatDoor
open Go.RowKit
theorem read_none (a : Option Addr) (c : Nat) (b : By) (k : Nat) (w : World) (hE : EnvN w) (hb : Bytes w a b) (hc : b.length ≤ c) (hn : b.length ≤ 100000) (hr : readP b = (pz, k)) :
    Calls Tryz.prog 11 #[.slice a b.length c] w fun e w' => ∃ an ac af au cn cc cf cu, e = .returned (.tuple #[.agg #[.string ⟨#[]⟩, .string ⟨#[]⟩, .slice an 0 cn, .slice ac 0 cc, .slice af 0 cf, .slice au 0 cu], .int .i64 (k : Int)]) ∧ Ext w w' := by
  refine (arc_read a c b w hE hb hc hn).mono ?_
  rintro e w' ⟨⟨an, ac, af, au, cn, cc, cf, cu⟩, rfl, _, _, hx⟩
  rw [hr]
  exact ⟨an, ac, af, au, cn, cc, cf, cu, rfl, hx⟩
theorem read_some (a : Option Addr) (c : Nat) (b : By) (p : PkgD) (w : World) (hE : EnvN w) (hb : Bytes w a b) (hc : b.length ≤ c) (hn : b.length ≤ 100000) (hr : readP b = (p, 0)) :
    Calls Tryz.prog 11 #[.slice a b.length c] w fun e w' => ∃ an ac af au cn cc cf cu, e = .returned (.tuple #[.agg #[.string (bs p.name), .string (bs p.ver), .slice an p.needs.length cn, .slice ac p.conf.length cc, .slice af p.files.length cf, .slice au p.units.length cu], .int .i64 0]) ∧ PkgM w' p ⟨an, ac, af, au, cn, cc, cf, cu⟩ ∧ p.files.length ≤ cf ∧ Ext w w' := by
  refine (arc_read a c b w hE hb hc hn).mono ?_
  rintro e w' ⟨⟨an, ac, af, au, cn, cc, cf, cu⟩, rfl, hM, hC, hx⟩
  rw [hr] at hM hC ⊢
  exact ⟨an, ac, af, au, cn, cc, cf, cu, rfl, hM, hC.2.2.1, hx⟩
theorem readP_three (b : By) : (readP b = (pz, 5) ∧ ¬ sumR b) ∨ (readP b = (pz, 4) ∧ sumR b) ∨ (∃ p, readP b = (p, 0) ∧ sumR b) := by
  have hs := readP_sum (b := b)
  unfold readP at hs ⊢
  by_cases h1 : b.length < 4
  · rw [if_pos h1] at hs ⊢
    exact Or.inl ⟨rfl, hs.1 rfl⟩
  · rw [if_neg h1] at hs ⊢
    by_cases h2 : le32 (b.drop (b.length - 4)) ≠ (crcL (b.take (b.length - 4))).toNat
    · rw [if_pos h2] at hs ⊢
      exact Or.inl ⟨rfl, hs.1 rfl⟩
    · rw [if_neg h2] at hs ⊢
      have hsum : sumR b := ⟨by omega, by simpa using h2⟩
      right
      split
      · exact Or.inr ⟨_, rfl, hsum⟩
      · exact Or.inl ⟨rfl, hsum⟩
theorem right_fit {p : PkgD} (h : rightP p = true) {b : By} (hb : readP b = (p, 0)) (hl : b.length ≤ 100000) : FitP p := by
  unfold readP at hb
  split at hb
  · simp at hb
  · split at hb
    · simp at hb
    · split at hb
      · rename_i hk
        simp only [Prod.mk.injEq, and_true] at hb
        rw [← hb]
        simp only [Bool.and_eq_true] at hk
        exact unP_fit hk.1 (by simp; omega)
      · simp at hb

theorem sumR_sumB (b : By) : sumR (b ++ sumB b) := by
  have hl : (b ++ sumB b).length = b.length + 4 := by simp [sumB, num4_len]
  have hc : (crcL b).toNat < 4294967296 := (crcL b).isLt
  refine ⟨by omega, ?_⟩
  rw [hl, show b.length + 4 - 4 = b.length by omega, List.drop_left, List.take_left]
  have := le32_num4 hc []
  rw [List.append_nil] at this
  exact this
set_option maxRecDepth 100000 in
set_option maxHeartbeats 6400000 in
theorem reads_short (al : Option Addr) (cl : Nat) (l : By) (w : World) (hE : EnvN w) (hb : Bytes w al l) (hc : l.length ≤ cl) (hl : l.length ≤ 2000) (hsh : l.length < 4) (hr : readP l = (pz, 5)) :
    Calls Tryz.prog 4 #[.slice al l.length cl, .bool false] w fun e w' => e = .returned (.bool true) ∧ Ext w w' := by
  obtain ⟨Q, hQ⟩ : ∃ Q : Ending → World → Prop, Q = fun e w' => e = .returned (.bool true) ∧ Ext w w' := ⟨_, rfl⟩
  rw [← hQ]
  have HQ := Lib.hid hQ; clear hQ
  have HE := Lib.hid hE; clear hE
  have HB := Lib.hid hb; clear hb
  go_enter Tryz.func4, Tryz.ntmps4
  go_wp2_with fail
  refine (alive10 w (HE.out.ext (Ext.refl _))).mono ?_
  rintro e w1 ⟨rfl, hx1⟩
  have HX1 := Lib.hid hx1; clear hx1
  have hlb : decide ((2000 : Int) < (l.length : Int)) = false := decide_eq_false (by omega)
  go_upto_region 8 with (fail)
  have HBl := Lib.hid (HB.out.ext HX1.out)
  have HXl := HX1
  have hcl := hc
  have hll : l.length ≤ 2004 := by omega
  clear hc hl hlb HB HX1
  have hrd := fun W hE hB => read_none al cl l 5 W hE hB hcl (by omega) hr
  obtain ⟨n, hn⟩ : ∃ n, n = l.length := ⟨_, rfl⟩
  rw [← hn] at hrd hsh hcl hll ⊢
  clear hn hr
  have hneg : decide ((n : Int) - 4 < 0) = true := decide_eq_true (by omega)
  have HRD := Lib.hid hrd; clear hrd
  go_upto_region 9 with (go_at_call 11; refine (HRD.out _ (HE.out.ext HXl.out) HBl.out).mono ?_; rintro e w9 ⟨an, ac, af, au, cn, cc, cf, cu, rfl, hx⟩; have HX9 := Lib.hid (HXl.out.trans hx); have HB9 := Lib.hid (HBl.out.ext hx); clear hx)
  have hpn := heap_alloc_new w9 (.cells #[.string ⟨#[]⟩, .string ⟨#[]⟩, .slice an 0 cn, .slice ac 0 cc, .slice af 0 cf, .slice au 0 cu] 26)
  have hpx := Ext.alloc w9 (.cells #[.string ⟨#[]⟩, .string ⟨#[]⟩, .slice an 0 cn, .slice ac 0 cc, .slice af 0 cf, .slice au 0 cu] 26)
  generalize w9.alloc (.cells #[.string ⟨#[]⟩, .string ⟨#[]⟩, .slice an 0 cn, .slice ac 0 cc, .slice af 0 cf, .slice au 0 cu] 26) = wa at hpn hpx ⊢
  obtain ⟨B, hB⟩ : ∃ x, x = w9.heap.size := ⟨_, rfl⟩
  rw [← hB] at hpn ⊢
  clear hB
  have HXa := Lib.hid (HX9.out.trans hpx)
  have HBa := Lib.hid (HB9.out.ext hpx)
  have HPa := Lib.hid hpn
  clear HX9 HB9 HXl HBl hpn hpx HRD
  have z0 : wa.cell? ⟨B, 0, none⟩ = some (Value.string ⟨#[]⟩) := blk_cell HPa.out 0 _ rfl
  go_upto_region 10 with fail
  go_quiet (fail)
  all_goals (
    go_wp2_with fail
    rw [HQ.out]
    exact ⟨rfl, HXa.out.drewN _⟩)
set_option maxRecDepth 100000 in
set_option maxHeartbeats 6400000 in
theorem reads_sum (al : Option Addr) (cl : Nat) (l : By) (w : World) (hE : EnvN w) (hb : Bytes w al l) (hc : l.length ≤ cl) (hl : l.length ≤ 2000) (hsh : ¬ l.length < 4) (hns : ¬ sumR l) (hr : readP l = (pz, 5)) :
    Calls Tryz.prog 4 #[.slice al l.length cl, .bool false] w fun e w' => e = .returned (.bool true) ∧ Ext w w' := by
  obtain ⟨Q, hQ⟩ : ∃ Q : Ending → World → Prop, Q = fun e w' => e = .returned (.bool true) ∧ Ext w w' := ⟨_, rfl⟩
  rw [← hQ]
  have HQ := Lib.hid hQ; clear hQ
  have HE := Lib.hid hE; clear hE
  have HB := Lib.hid hb; clear hb
  go_enter Tryz.func4, Tryz.ntmps4
  go_wp2_with fail
  refine (alive10 w (HE.out.ext (Ext.refl _))).mono ?_
  rintro e w1 ⟨rfl, hx1⟩
  have HX1 := Lib.hid hx1; clear hx1
  have hlb : decide ((2000 : Int) < (l.length : Int)) = false := decide_eq_false (by omega)
  go_upto_region 8 with (fail)
  have HBl := Lib.hid (HB.out.ext HX1.out)
  have HXl := HX1
  have hcl := hc
  have hll : l.length ≤ 2004 := by omega
  clear hc hl hlb HB HX1
  have hsv : (crcL (l.take (l.length - 4))).toNat ≠ le32 (l.drop (l.length - 4)) := fun e => hns ⟨by omega, e.symm⟩
  obtain ⟨m, hm⟩ : ∃ m, l.length = m + 4 := ⟨l.length - 4, by omega⟩
  obtain ⟨g, off, rfl, _, _⟩ := HBl.out.at (by intro e; rw [e] at hm; simp at hm)
  have hrd := fun W hE hB => read_none (some ⟨g, off, none⟩) cl l 5 W hE hB hcl (by omega) hr
  rw [show l.length - 4 = m by omega] at hsv
  rw [hm] at hrd hcl hll ⊢
  clear hns hr hsh
  have HRD := Lib.hid hrd; clear hrd
  go_upto_region 9 with (go_at_call 11; refine (HRD.out _ (HE.out.ext HXl.out) HBl.out).mono ?_; rintro e w9 ⟨an, ac, af, au, cn, cc, cf, cu, rfl, hx⟩; have HX9 := Lib.hid (HXl.out.trans hx); have HB9 := Lib.hid (HBl.out.ext hx); clear hx)
  have hpn := heap_alloc_new w9 (.cells #[.string ⟨#[]⟩, .string ⟨#[]⟩, .slice an 0 cn, .slice ac 0 cc, .slice af 0 cf, .slice au 0 cu] 26)
  have hpx := Ext.alloc w9 (.cells #[.string ⟨#[]⟩, .string ⟨#[]⟩, .slice an 0 cn, .slice ac 0 cc, .slice af 0 cf, .slice au 0 cu] 26)
  generalize w9.alloc (.cells #[.string ⟨#[]⟩, .string ⟨#[]⟩, .slice an 0 cn, .slice ac 0 cc, .slice af 0 cf, .slice au 0 cu] 26) = wa at hpn hpx ⊢
  obtain ⟨B, hB⟩ : ∃ x, x = w9.heap.size := ⟨_, rfl⟩
  rw [← hB] at hpn ⊢
  clear hB
  have HXa := Lib.hid (HX9.out.trans hpx)
  have HBa := Lib.hid (HB9.out.ext hpx)
  have HPa := Lib.hid hpn
  clear HX9 HB9 HXl HBl hpn hpx HRD
  have h0 : ((m : Int) + 4 - 4 = m) := by omega
  have h0b : decide (((m + 4 : Nat) : Int) - 4 < 0) = false := decide_eq_false (by omega)
  have h0d : decide ((m : Int) < 0) = false := decide_eq_false (by omega)
  obtain ⟨_, _, he, _, hcell⟩ := HBa.out.at (by intro e; rw [e] at hm; simp at hm)
  obtain ⟨rfl, rfl⟩ : g = _ ∧ off = _ := by simpa using he
  have hq : ∀ W, Ext wa W → W.cell? ⟨g, off + m, none⟩ = some (.int .u8 (byteAt l m : Nat)) ∧ W.cell? ⟨g, off + (m + 1), none⟩ = some (.int .u8 (byteAt l (m + 1) : Nat)) ∧ W.cell? ⟨g, off + (m + 2), none⟩ = some (.int .u8 (byteAt l (m + 2) : Nat)) ∧ W.cell? ⟨g, off + (m + 3), none⟩ = some (.int .u8 (byteAt l (m + 3) : Nat)) := fun W hW => ⟨hW.cell (hcell m (by omega)), hW.cell (hcell (m + 1) (by omega)), hW.cell (hcell (m + 2) (by omega)), hW.cell (hcell (m + 3) (by omega))⟩
  have hv : le32 (l.drop m) = byteAt l m + 256 * byteAt l (m + 1) + 65536 * byteAt l (m + 2) + 16777216 * byteAt l (m + 3) := by simp [le32, byteAt]
  have hl0 := byteAt_lt l m
  have hl1 := byteAt_lt l (m + 1)
  have hl2 := byteAt_lt l (m + 2)
  have hl3 := byteAt_lt l (m + 3)
  generalize byteAt l m = b0 at hq hv hl0
  generalize byteAt l (m + 1) = b1 at hq hv hl1
  generalize byteAt l (m + 2) = b2 at hq hv hl2
  generalize byteAt l (m + 3) = b3 at hq hv hl3
  have ht4 : (l.take m).length = m := by simp; omega
  have hsum := fun W hB => ref_sum (some ⟨g, off, none⟩) cl (l.take m) W hB (by omega)
  rw [ht4] at hsum
  have hs32 : (crcL (l.take m)).toNat < 4294967296 := (crcL (l.take m)).isLt
  generalize (crcL (l.take m)).toNat = s at hsum hs32 hsv
  rw [hv] at hsv
  have HSUM := Lib.hid hsum; clear hsum
  have HQ4 := Lib.hid hq; clear hq hcell he ht4
  have w1' : IntKind.i64.wrap ((m : Int) + 1) = (m : Int) + 1 := IntWalk.i64_in _ (by omega)
  have w2' : IntKind.i64.wrap ((m : Int) + 2) = (m : Int) + 2 := IntWalk.i64_in _ (by omega)
  have w3' : IntKind.i64.wrap ((m : Int) + 3) = (m : Int) + 3 := IntWalk.i64_in _ (by omega)
  have t1 : ((m : Int) + 1).toNat = m + 1 := by omega
  have t2 : ((m : Int) + 2).toNat = m + 2 := by omega
  have t3 : ((m : Int) + 3).toNat = m + 3 := by omega
  have i0 : (m : Int) < (m : Int) + 4 := by omega
  have i1 : (m : Int) + 1 < (m : Int) + 4 := by omega
  have i2 : (m : Int) + 2 < (m : Int) + 4 := by omega
  have i3 : (m : Int) + 3 < (m : Int) + 4 := by omega
  have j0 : (0 : Int) ≤ (m : Int) := by omega
  have j1 : (0 : Int) ≤ (m : Int) + 1 := by omega
  have j2 : (0 : Int) ≤ (m : Int) + 2 := by omega
  have j3 : (0 : Int) ≤ (m : Int) + 3 := by omega
  have j4 : (m : Int) ≤ (cl : Int) := by omega
  have x0 : IntKind.u32.wrap (b0 : Int) = (b0 : Int) := IntWalk.u32_in _ (by omega)
  have x1 : IntKind.u32.wrap (b1 : Int) = (b1 : Int) := IntWalk.u32_in _ (by omega)
  have x2 : IntKind.u32.wrap (b2 : Int) = (b2 : Int) := IntWalk.u32_in _ (by omega)
  have x3 : IntKind.u32.wrap (b3 : Int) = (b3 : Int) := IntWalk.u32_in _ (by omega)
  have y1 : IntKind.u32.wrap ((b1 : Int) * 256) = (b1 : Int) * 256 := IntWalk.u32_in _ (by omega)
  have y2 : IntKind.u32.wrap ((b2 : Int) * 65536) = (b2 : Int) * 65536 := IntWalk.u32_in _ (by omega)
  have y3 : IntKind.u32.wrap ((b3 : Int) * 16777216) = (b3 : Int) * 16777216 := IntWalk.u32_in _ (by omega)
  have o1 : bits BinOp.or IntKind.u32 (b0 : Int) ((b1 : Int) * 256) = (b0 : Int) + (b1 : Int) * 256 := by simp (disch := omega) only [u32_or8]
  have o2 : bits BinOp.or IntKind.u32 ((b0 : Int) + (b1 : Int) * 256) ((b2 : Int) * 65536) = (b0 : Int) + (b1 : Int) * 256 + (b2 : Int) * 65536 := by simp (disch := omega) only [u32_or16]
  have o3 : bits BinOp.or IntKind.u32 ((b0 : Int) + (b1 : Int) * 256 + (b2 : Int) * 65536) ((b3 : Int) * 16777216) = ((b0 + 256 * b1 + 65536 * b2 + 16777216 * b3 : Nat) : Int) := by
    simp (disch := omega) only [u32_or24]; omega
  generalize b0 + 256 * b1 + 65536 * b2 + 16777216 * b3 = v at hsv o3
  have n1 : ((s : Int) == (v : Int)) = false := by rw [beq_eq_false_iff_ne]; omega
  have n2 : ((s : Int) != (v : Int)) = true := by rw [bne_iff_ne]; omega
  have n3 : decide ((s : Int) = (v : Int)) = false := decide_eq_false (by omega)
  clear hsv hv
  go_upto_region 10 with fail
  have HK := Lib.hid ((Ext.refl wa).drew)
  go_region_held3 (fun W => W.cell? ⟨g, off + m, none⟩ = some (.int .u8 (b0 : Int)) ∧ W.cell? ⟨g, off + (m + 1), none⟩ = some (.int .u8 (b1 : Int)) ∧ W.cell? ⟨g, off + (m + 2), none⟩ = some (.int .u8 (b2 : Int)) ∧ W.cell? ⟨g, off + (m + 3), none⟩ = some (.int .u8 (b3 : Int)))
    (first | exact HQ4.out _ HK.out)
    (first
      | (go_at_call 14; refine (HSUM.out _ ((HBa.out.ext HK.out).take m)).mono ?_; rintro e wb ⟨rfl, hx⟩; replace HK := Lib.hid (HK.out.trans hx); clear hx)
      | fail)
  clear x0 x1 x2 x3 y1 y2 y3 t1 t2 t3 HQ4 HSUM i0 i1 i2 i3 j1 j2 j3 w1' w2' w3' o1 o2 o3 h0 h0b h0d hl0 hl1 hl2 hl3
  all_goals (
    have z0 := blk_cell (HK.out.heap HPa.out) 0 (Value.string ⟨#[]⟩) rfl
    go_wp2_with fail
    rw [HQ.out]
    exact ⟨rfl, HXa.out.trans HK.out⟩)
set_option maxRecDepth 100000 in
set_option maxHeartbeats 6400000 in
theorem reads_form (al : Option Addr) (cl : Nat) (l : By) (w : World) (hE : EnvN w) (hb : Bytes w al l) (hc : l.length ≤ cl) (hl : l.length ≤ 2000) (hs : sumR l) (hr : readP l = (pz, 4)) :
    Calls Tryz.prog 4 #[.slice al l.length cl, .bool false] w fun e w' => e = .returned (.bool true) ∧ Ext w w' := by
  obtain ⟨Q, hQ⟩ : ∃ Q : Ending → World → Prop, Q = fun e w' => e = .returned (.bool true) ∧ Ext w w' := ⟨_, rfl⟩
  rw [← hQ]
  have HQ := Lib.hid hQ; clear hQ
  have HE := Lib.hid hE; clear hE
  have HB := Lib.hid hb; clear hb
  go_enter Tryz.func4, Tryz.ntmps4
  go_wp2_with fail
  refine (alive10 w (HE.out.ext (Ext.refl _))).mono ?_
  rintro e w1 ⟨rfl, hx1⟩
  have HX1 := Lib.hid hx1; clear hx1
  have hlb : decide ((2000 : Int) < (l.length : Int)) = false := decide_eq_false (by omega)
  go_upto_region 8 with (fail)
  have HBl := Lib.hid (HB.out.ext HX1.out)
  have HXl := HX1
  have hcl := hc
  have hll : l.length ≤ 2004 := by omega
  clear hc hl hlb HB HX1
  have hsv : (crcL (l.take (l.length - 4))).toNat = le32 (l.drop (l.length - 4)) := hs.2.symm
  have hs4 := hs.1
  obtain ⟨m, hm⟩ : ∃ m, l.length = m + 4 := ⟨l.length - 4, by omega⟩
  obtain ⟨g, off, rfl, _, _⟩ := HBl.out.at (by intro e; rw [e] at hm; simp at hm)
  have hrd := fun W hE hB => read_none (some ⟨g, off, none⟩) cl l 4 W hE hB hcl (by omega) hr
  rw [show l.length - 4 = m by omega] at hsv
  rw [hm] at hrd hcl hll ⊢
  clear hs hr hs4
  have HRD := Lib.hid hrd; clear hrd
  go_upto_region 9 with (go_at_call 11; refine (HRD.out _ (HE.out.ext HXl.out) HBl.out).mono ?_; rintro e w9 ⟨an, ac, af, au, cn, cc, cf, cu, rfl, hx⟩; have HX9 := Lib.hid (HXl.out.trans hx); have HB9 := Lib.hid (HBl.out.ext hx); clear hx)
  have hpn := heap_alloc_new w9 (.cells #[.string ⟨#[]⟩, .string ⟨#[]⟩, .slice an 0 cn, .slice ac 0 cc, .slice af 0 cf, .slice au 0 cu] 26)
  have hpx := Ext.alloc w9 (.cells #[.string ⟨#[]⟩, .string ⟨#[]⟩, .slice an 0 cn, .slice ac 0 cc, .slice af 0 cf, .slice au 0 cu] 26)
  generalize w9.alloc (.cells #[.string ⟨#[]⟩, .string ⟨#[]⟩, .slice an 0 cn, .slice ac 0 cc, .slice af 0 cf, .slice au 0 cu] 26) = wa at hpn hpx ⊢
  obtain ⟨B, hB⟩ : ∃ x, x = w9.heap.size := ⟨_, rfl⟩
  rw [← hB] at hpn ⊢
  clear hB
  have HXa := Lib.hid (HX9.out.trans hpx)
  have HBa := Lib.hid (HB9.out.ext hpx)
  have HPa := Lib.hid hpn
  clear HX9 HB9 HXl HBl hpn hpx HRD
  have h0 : ((m : Int) + 4 - 4 = m) := by omega
  have h0b : decide (((m + 4 : Nat) : Int) - 4 < 0) = false := decide_eq_false (by omega)
  have h0d : decide ((m : Int) < 0) = false := decide_eq_false (by omega)
  obtain ⟨_, _, he, _, hcell⟩ := HBa.out.at (by intro e; rw [e] at hm; simp at hm)
  obtain ⟨rfl, rfl⟩ : g = _ ∧ off = _ := by simpa using he
  have hq : ∀ W, Ext wa W → W.cell? ⟨g, off + m, none⟩ = some (.int .u8 (byteAt l m : Nat)) ∧ W.cell? ⟨g, off + (m + 1), none⟩ = some (.int .u8 (byteAt l (m + 1) : Nat)) ∧ W.cell? ⟨g, off + (m + 2), none⟩ = some (.int .u8 (byteAt l (m + 2) : Nat)) ∧ W.cell? ⟨g, off + (m + 3), none⟩ = some (.int .u8 (byteAt l (m + 3) : Nat)) := fun W hW => ⟨hW.cell (hcell m (by omega)), hW.cell (hcell (m + 1) (by omega)), hW.cell (hcell (m + 2) (by omega)), hW.cell (hcell (m + 3) (by omega))⟩
  have hv : le32 (l.drop m) = byteAt l m + 256 * byteAt l (m + 1) + 65536 * byteAt l (m + 2) + 16777216 * byteAt l (m + 3) := by simp [le32, byteAt]
  have hl0 := byteAt_lt l m
  have hl1 := byteAt_lt l (m + 1)
  have hl2 := byteAt_lt l (m + 2)
  have hl3 := byteAt_lt l (m + 3)
  generalize byteAt l m = b0 at hq hv hl0
  generalize byteAt l (m + 1) = b1 at hq hv hl1
  generalize byteAt l (m + 2) = b2 at hq hv hl2
  generalize byteAt l (m + 3) = b3 at hq hv hl3
  have ht4 : (l.take m).length = m := by simp; omega
  have hsum := fun W hB => ref_sum (some ⟨g, off, none⟩) cl (l.take m) W hB (by omega)
  rw [ht4] at hsum
  have hs32 : (crcL (l.take m)).toNat < 4294967296 := (crcL (l.take m)).isLt
  generalize (crcL (l.take m)).toNat = s at hsum hs32 hsv
  rw [hv] at hsv
  have HSUM := Lib.hid hsum; clear hsum
  have HQ4 := Lib.hid hq; clear hq hcell he ht4
  have w1' : IntKind.i64.wrap ((m : Int) + 1) = (m : Int) + 1 := IntWalk.i64_in _ (by omega)
  have w2' : IntKind.i64.wrap ((m : Int) + 2) = (m : Int) + 2 := IntWalk.i64_in _ (by omega)
  have w3' : IntKind.i64.wrap ((m : Int) + 3) = (m : Int) + 3 := IntWalk.i64_in _ (by omega)
  have t1 : ((m : Int) + 1).toNat = m + 1 := by omega
  have t2 : ((m : Int) + 2).toNat = m + 2 := by omega
  have t3 : ((m : Int) + 3).toNat = m + 3 := by omega
  have i0 : (m : Int) < (m : Int) + 4 := by omega
  have i1 : (m : Int) + 1 < (m : Int) + 4 := by omega
  have i2 : (m : Int) + 2 < (m : Int) + 4 := by omega
  have i3 : (m : Int) + 3 < (m : Int) + 4 := by omega
  have j0 : (0 : Int) ≤ (m : Int) := by omega
  have j1 : (0 : Int) ≤ (m : Int) + 1 := by omega
  have j2 : (0 : Int) ≤ (m : Int) + 2 := by omega
  have j3 : (0 : Int) ≤ (m : Int) + 3 := by omega
  have j4 : (m : Int) ≤ (cl : Int) := by omega
  have x0 : IntKind.u32.wrap (b0 : Int) = (b0 : Int) := IntWalk.u32_in _ (by omega)
  have x1 : IntKind.u32.wrap (b1 : Int) = (b1 : Int) := IntWalk.u32_in _ (by omega)
  have x2 : IntKind.u32.wrap (b2 : Int) = (b2 : Int) := IntWalk.u32_in _ (by omega)
  have x3 : IntKind.u32.wrap (b3 : Int) = (b3 : Int) := IntWalk.u32_in _ (by omega)
  have y1 : IntKind.u32.wrap ((b1 : Int) * 256) = (b1 : Int) * 256 := IntWalk.u32_in _ (by omega)
  have y2 : IntKind.u32.wrap ((b2 : Int) * 65536) = (b2 : Int) * 65536 := IntWalk.u32_in _ (by omega)
  have y3 : IntKind.u32.wrap ((b3 : Int) * 16777216) = (b3 : Int) * 16777216 := IntWalk.u32_in _ (by omega)
  have o1 : bits BinOp.or IntKind.u32 (b0 : Int) ((b1 : Int) * 256) = (b0 : Int) + (b1 : Int) * 256 := by simp (disch := omega) only [u32_or8]
  have o2 : bits BinOp.or IntKind.u32 ((b0 : Int) + (b1 : Int) * 256) ((b2 : Int) * 65536) = (b0 : Int) + (b1 : Int) * 256 + (b2 : Int) * 65536 := by simp (disch := omega) only [u32_or16]
  have o3 : bits BinOp.or IntKind.u32 ((b0 : Int) + (b1 : Int) * 256 + (b2 : Int) * 65536) ((b3 : Int) * 16777216) = (s : Int) := by
    simp (disch := omega) only [u32_or24]; omega
  clear hsv hv
  go_upto_region 10 with fail
  have HK := Lib.hid ((Ext.refl wa).drew)
  go_region_held3 (fun W => W.cell? ⟨g, off + m, none⟩ = some (.int .u8 (b0 : Int)) ∧ W.cell? ⟨g, off + (m + 1), none⟩ = some (.int .u8 (b1 : Int)) ∧ W.cell? ⟨g, off + (m + 2), none⟩ = some (.int .u8 (b2 : Int)) ∧ W.cell? ⟨g, off + (m + 3), none⟩ = some (.int .u8 (b3 : Int)))
    (first | exact HQ4.out _ HK.out)
    (first
      | (go_at_call 14; refine (HSUM.out _ ((HBa.out.ext HK.out).take m)).mono ?_; rintro e wb ⟨rfl, hx⟩; replace HK := Lib.hid (HK.out.trans hx); clear hx)
      | fail)
  clear x0 x1 x2 x3 y1 y2 y3 t1 t2 t3 HQ4 HSUM i0 i1 i2 i3 j1 j2 j3 w1' w2' w3' o1 o2 o3 h0 h0b h0d hl0 hl1 hl2 hl3
  all_goals (
    have z0 := blk_cell (HK.out.heap HPa.out) 0 (Value.string ⟨#[]⟩) rfl
    have z4 := blk_cell (HK.out.heap HPa.out) 4 (Value.slice af 0 cf) rfl
    go_wp2_with fail
    rw [HQ.out]
    exact ⟨rfl, HXa.out.trans HK.out⟩)
set_option maxRecDepth 100000 in
set_option maxHeartbeats 6400000 in
theorem reads_good (al : Option Addr) (cl : Nat) (l : By) (w : World) (hE : EnvN w) (hb : Bytes w al l) (hc : l.length ≤ cl) (hl : l.length ≤ 2000) (p : PkgD) (hs : sumR l) (hr : readP l = (p, 0)) :
    Calls Tryz.prog 4 #[.slice al l.length cl, .bool false] w fun e w' => e = .returned (.bool true) ∧ Ext w w' := by
  obtain ⟨Q, hQ⟩ : ∃ Q : Ending → World → Prop, Q = fun e w' => e = .returned (.bool true) ∧ Ext w w' := ⟨_, rfl⟩
  rw [← hQ]
  have HQ := Lib.hid hQ; clear hQ
  have HE := Lib.hid hE; clear hE
  have HB := Lib.hid hb; clear hb
  go_enter Tryz.func4, Tryz.ntmps4
  go_wp2_with fail
  refine (alive10 w (HE.out.ext (Ext.refl _))).mono ?_
  rintro e w1 ⟨rfl, hx1⟩
  have HX1 := Lib.hid hx1; clear hx1
  have hlb : decide ((2000 : Int) < (l.length : Int)) = false := decide_eq_false (by omega)
  go_upto_region 8 with (fail)
  have HBl := Lib.hid (HB.out.ext HX1.out)
  have HXl := HX1
  have hcl := hc
  have hll : l.length ≤ 2004 := by omega
  clear hc hl hlb HB HX1
  have hsv : (crcL (l.take (l.length - 4))).toNat = le32 (l.drop (l.length - 4)) := hs.2.symm
  have hs4 := hs.1
  obtain ⟨hrp, hwp⟩ := readP_good hr
  have hfit : FitP p := right_fit hrp hr (by omega)
  have hwr := fun W hE n1 n2 n3 n4 k1 k2 k3 k4 hM (hC : p.files.length ≤ k3) => arc_write_yes p ⟨n1, n2, n3, n4, k1, k2, k3, k4⟩ W hE hM hfit hC hrp
  have hpl := fun n1 n2 n3 n4 k1 k2 k3 k4 W hM => law_plain p n1 n2 n3 n4 k1 k2 k3 k4 W hM hfit
  have hrq := fun n1 n2 n3 n4 k1 k2 k3 k4 W hM => right10 p n1 n2 n3 n4 k1 k2 k3 k4 W hM hfit
  rw [rightQ_P, hrp] at hrq
  rw [hwp] at hwr
  have HWR := Lib.hid hwr; clear hwr
  have HPL := Lib.hid hpl; clear hpl
  have HRQ := Lib.hid hrq; clear hrq
  clear hrp hwp hfit
  obtain ⟨m, hm⟩ : ∃ m, l.length = m + 4 := ⟨l.length - 4, by omega⟩
  obtain ⟨g, off, rfl, _, _⟩ := HBl.out.at (by intro e; rw [e] at hm; simp at hm)
  have hrd := fun W hE hB => read_some (some ⟨g, off, none⟩) cl l p W hE hB hcl (by omega) hr
  rw [show l.length - 4 = m by omega] at hsv
  rw [hm] at hrd hcl hll ⊢
  rw [hm] at HWR
  clear hs hr hs4
  have HRD := Lib.hid hrd; clear hrd
  go_upto_region 9 with (go_at_call 11; refine (HRD.out _ (HE.out.ext HXl.out) HBl.out).mono ?_; rintro e w9 ⟨an, ac, af, au, cn, cc, cf, cu, rfl, hm, hcf, hx⟩; have HX9 := Lib.hid (HXl.out.trans hx); have HB9 := Lib.hid (HBl.out.ext hx); have HM9 := Lib.hid hm; clear hm; clear hx)
  have hpn := heap_alloc_new w9 (.cells #[.string (bs p.name), .string (bs p.ver), .slice an p.needs.length cn, .slice ac p.conf.length cc, .slice af p.files.length cf, .slice au p.units.length cu] 26)
  have hpx := Ext.alloc w9 (.cells #[.string (bs p.name), .string (bs p.ver), .slice an p.needs.length cn, .slice ac p.conf.length cc, .slice af p.files.length cf, .slice au p.units.length cu] 26)
  generalize w9.alloc (.cells #[.string (bs p.name), .string (bs p.ver), .slice an p.needs.length cn, .slice ac p.conf.length cc, .slice af p.files.length cf, .slice au p.units.length cu] 26) = wa at hpn hpx ⊢
  obtain ⟨B, hB⟩ : ∃ x, x = w9.heap.size := ⟨_, rfl⟩
  rw [← hB] at hpn ⊢
  clear hB
  have HXa := Lib.hid (HX9.out.trans hpx)
  have HBa := Lib.hid (HB9.out.ext hpx)
  have HMa := Lib.hid (HM9.out.ext hpx); clear HM9
  have HPa := Lib.hid hpn
  clear HX9 HB9 HXl HBl hpn hpx HRD
  have HCF := Lib.hid hcf; clear hcf
  have h0 : ((m : Int) + 4 - 4 = m) := by omega
  have h0b : decide (((m + 4 : Nat) : Int) - 4 < 0) = false := decide_eq_false (by omega)
  have h0d : decide ((m : Int) < 0) = false := decide_eq_false (by omega)
  obtain ⟨_, _, he, _, hcell⟩ := HBa.out.at (by intro e; rw [e] at hm; simp at hm)
  obtain ⟨rfl, rfl⟩ : g = _ ∧ off = _ := by simpa using he
  have hq : ∀ W, Ext wa W → W.cell? ⟨g, off + m, none⟩ = some (.int .u8 (byteAt l m : Nat)) ∧ W.cell? ⟨g, off + (m + 1), none⟩ = some (.int .u8 (byteAt l (m + 1) : Nat)) ∧ W.cell? ⟨g, off + (m + 2), none⟩ = some (.int .u8 (byteAt l (m + 2) : Nat)) ∧ W.cell? ⟨g, off + (m + 3), none⟩ = some (.int .u8 (byteAt l (m + 3) : Nat)) := fun W hW => ⟨hW.cell (hcell m (by omega)), hW.cell (hcell (m + 1) (by omega)), hW.cell (hcell (m + 2) (by omega)), hW.cell (hcell (m + 3) (by omega))⟩
  have hv : le32 (l.drop m) = byteAt l m + 256 * byteAt l (m + 1) + 65536 * byteAt l (m + 2) + 16777216 * byteAt l (m + 3) := by simp [le32, byteAt]
  have hl0 := byteAt_lt l m
  have hl1 := byteAt_lt l (m + 1)
  have hl2 := byteAt_lt l (m + 2)
  have hl3 := byteAt_lt l (m + 3)
  generalize byteAt l m = b0 at hq hv hl0
  generalize byteAt l (m + 1) = b1 at hq hv hl1
  generalize byteAt l (m + 2) = b2 at hq hv hl2
  generalize byteAt l (m + 3) = b3 at hq hv hl3
  have ht4 : (l.take m).length = m := by simp; omega
  have hsum := fun W hB => ref_sum (some ⟨g, off, none⟩) cl (l.take m) W hB (by omega)
  rw [ht4] at hsum
  have hs32 : (crcL (l.take m)).toNat < 4294967296 := (crcL (l.take m)).isLt
  generalize (crcL (l.take m)).toNat = s at hsum hs32 hsv
  rw [hv] at hsv
  have HSUM := Lib.hid hsum; clear hsum
  have HQ4 := Lib.hid hq; clear hq hcell he ht4
  have w1' : IntKind.i64.wrap ((m : Int) + 1) = (m : Int) + 1 := IntWalk.i64_in _ (by omega)
  have w2' : IntKind.i64.wrap ((m : Int) + 2) = (m : Int) + 2 := IntWalk.i64_in _ (by omega)
  have w3' : IntKind.i64.wrap ((m : Int) + 3) = (m : Int) + 3 := IntWalk.i64_in _ (by omega)
  have t1 : ((m : Int) + 1).toNat = m + 1 := by omega
  have t2 : ((m : Int) + 2).toNat = m + 2 := by omega
  have t3 : ((m : Int) + 3).toNat = m + 3 := by omega
  have i0 : (m : Int) < (m : Int) + 4 := by omega
  have i1 : (m : Int) + 1 < (m : Int) + 4 := by omega
  have i2 : (m : Int) + 2 < (m : Int) + 4 := by omega
  have i3 : (m : Int) + 3 < (m : Int) + 4 := by omega
  have j0 : (0 : Int) ≤ (m : Int) := by omega
  have j1 : (0 : Int) ≤ (m : Int) + 1 := by omega
  have j2 : (0 : Int) ≤ (m : Int) + 2 := by omega
  have j3 : (0 : Int) ≤ (m : Int) + 3 := by omega
  have j4 : (m : Int) ≤ (cl : Int) := by omega
  have x0 : IntKind.u32.wrap (b0 : Int) = (b0 : Int) := IntWalk.u32_in _ (by omega)
  have x1 : IntKind.u32.wrap (b1 : Int) = (b1 : Int) := IntWalk.u32_in _ (by omega)
  have x2 : IntKind.u32.wrap (b2 : Int) = (b2 : Int) := IntWalk.u32_in _ (by omega)
  have x3 : IntKind.u32.wrap (b3 : Int) = (b3 : Int) := IntWalk.u32_in _ (by omega)
  have y1 : IntKind.u32.wrap ((b1 : Int) * 256) = (b1 : Int) * 256 := IntWalk.u32_in _ (by omega)
  have y2 : IntKind.u32.wrap ((b2 : Int) * 65536) = (b2 : Int) * 65536 := IntWalk.u32_in _ (by omega)
  have y3 : IntKind.u32.wrap ((b3 : Int) * 16777216) = (b3 : Int) * 16777216 := IntWalk.u32_in _ (by omega)
  have o1 : bits BinOp.or IntKind.u32 (b0 : Int) ((b1 : Int) * 256) = (b0 : Int) + (b1 : Int) * 256 := by simp (disch := omega) only [u32_or8]
  have o2 : bits BinOp.or IntKind.u32 ((b0 : Int) + (b1 : Int) * 256) ((b2 : Int) * 65536) = (b0 : Int) + (b1 : Int) * 256 + (b2 : Int) * 65536 := by simp (disch := omega) only [u32_or16]
  have o3 : bits BinOp.or IntKind.u32 ((b0 : Int) + (b1 : Int) * 256 + (b2 : Int) * 65536) ((b3 : Int) * 16777216) = (s : Int) := by
    simp (disch := omega) only [u32_or24]; omega
  clear hsv hv
  go_upto_region 10 with fail
  have HK := Lib.hid ((Ext.refl wa).drew)
  go_region_held3 (fun W => W.cell? ⟨g, off + m, none⟩ = some (.int .u8 (b0 : Int)) ∧ W.cell? ⟨g, off + (m + 1), none⟩ = some (.int .u8 (b1 : Int)) ∧ W.cell? ⟨g, off + (m + 2), none⟩ = some (.int .u8 (b2 : Int)) ∧ W.cell? ⟨g, off + (m + 3), none⟩ = some (.int .u8 (b3 : Int)))
    (first | exact HQ4.out _ HK.out)
    (first
      | (go_at_call 14; refine (HSUM.out _ ((HBa.out.ext HK.out).take m)).mono ?_; rintro e wb ⟨rfl, hx⟩; replace HK := Lib.hid (HK.out.trans hx); clear hx)
      | fail)
  clear x0 x1 x2 x3 y1 y2 y3 t1 t2 t3 HQ4 HSUM i0 i1 i2 i3 j1 j2 j3 w1' w2' w3' o1 o2 o3 h0 h0b h0d hl0 hl1 hl2 hl3
  all_goals (
    have p0 := blk_cell (HK.out.heap HPa.out) 0 (Value.string (bs p.name)) rfl
    have p1 := blk_cell (HK.out.heap HPa.out) 1 (Value.string (bs p.ver)) rfl
    have p2 := blk_cell (HK.out.heap HPa.out) 2 (Value.slice an p.needs.length cn) rfl
    have p3 := blk_cell (HK.out.heap HPa.out) 3 (Value.slice ac p.conf.length cc) rfl
    have p4 := blk_cell (HK.out.heap HPa.out) 4 (Value.slice af p.files.length cf) rfl
    have p5 := blk_cell (HK.out.heap HPa.out) 5 (Value.slice au p.units.length cu) rfl
    have HXb := Lib.hid (HXa.out.trans HK.out)
    go_upto_region 15 with (go_at_call 8; refine (HWR.out _ (HE.out.ext HXb.out) an ac af au cn cc cf cu (HMa.out.ext HK.out) HCF.out).mono ?_; rintro e wc ⟨a5, c5, rfl, hown, hx⟩; have HXc := Lib.hid (HXb.out.trans hx); replace HK := Lib.hid (HK.out.trans hx); have HO5 := Lib.hid hown.bytes.1; clear hx hown HXb p0 p1 p2 p3 p4 p5)
    have p0 := blk_cell (HK.out.heap HPa.out) 0 (Value.string (bs p.name)) rfl
    have p1 := blk_cell (HK.out.heap HPa.out) 1 (Value.string (bs p.ver)) rfl
    have p2 := blk_cell (HK.out.heap HPa.out) 2 (Value.slice an p.needs.length cn) rfl
    have p3 := blk_cell (HK.out.heap HPa.out) 3 (Value.slice ac p.conf.length cc) rfl
    have p4 := blk_cell (HK.out.heap HPa.out) 4 (Value.slice af p.files.length cf) rfl
    have p5 := blk_cell (HK.out.heap HPa.out) 5 (Value.slice au p.units.length cu) rfl
    have u1 := conv_text (c := c5) HO5.out
    have u2 := conv_text (c := cl) (HBa.out.ext HK.out)
    rw [hm] at u1 u2
    go_wp2_with (first
      | (go_at_call 7; refine (HPL.out an ac af au cn cc cf cu _ (HMa.out.ext HK.out)).mono ?_; rintro e wd ⟨yn, gn, yf, gf, rfl, hn, hf, hx⟩; have HXd := Lib.hid (HXc.out.trans hx); have HMY := Lib.hid (PkgM.mk (A := ⟨yn, ac, yf, au, gn, cc, gf, cu⟩) hn ((HMa.out.ext HK.out).conf.ext hx) hf ((HMa.out.ext HK.out).units.ext hx)); clear hx hn hf)
      | (go_at_call 10; refine (HRQ.out yn ac yf au gn cc gf cu _ HMY.out).mono ?_; rintro e we ⟨rfl, hx⟩; have HXe := Lib.hid (HXd.out.trans hx); clear hx))
    rw [HQ.out]
    exact ⟨rfl, HXe.out⟩)
set_option maxRecDepth 100000 in
set_option maxHeartbeats 6400000 in
theorem reads_form_s (ad : Option Addr) (c : Nat) (b : By) (w : World) (hE : EnvN w) (hb : Bytes w ad b) (hc : b.length ≤ c) (hl : b.length ≤ 2000) (hr : readP (b ++ sumB b) = (pz, 4)) :
    Calls Tryz.prog 4 #[.slice ad b.length c, .bool true] w fun e w' => e = .returned (.bool true) ∧ Ext w w' := by
  obtain ⟨Q, hQ⟩ : ∃ Q : Ending → World → Prop, Q = fun e w' => e = .returned (.bool true) ∧ Ext w w' := ⟨_, rfl⟩
  rw [← hQ]
  have HQ := Lib.hid hQ; clear hQ
  have HE := Lib.hid hE; clear hE
  have HB := Lib.hid hb; clear hb
  go_enter Tryz.func4, Tryz.ntmps4
  go_wp2_with fail
  refine (alive10 w (HE.out.ext (Ext.refl _))).mono ?_
  rintro e w1 ⟨rfl, hx1⟩
  have HX1 := Lib.hid hx1; clear hx1
  have hlb : decide ((2000 : Int) < (b.length : Int)) = false := decide_eq_false (by omega)
  obtain ⟨s0, hs0⟩ : ∃ s, s = (crcL b).toNat := ⟨_, rfl⟩
  have hs32 : s0 < 4294967296 := by rw [hs0]; exact (crcL b).isLt
  have hsum := fun W hb => ref_sum ad c b W hb (by omega)
  rw [← hs0] at hsum
  have hls : b ++ sumB b = b ++ num4 s0 := by rw [hs0]; rfl
  have hln : (b ++ num4 s0).length = b.length + 4 := by simp [num4_len]
  have hsr := sumR_sumB b
  rw [hls] at hr hsr
  obtain ⟨n, hn⟩ : ∃ n, n = b.length := ⟨_, rfl⟩
  rw [← hn] at hln hsum hc hl hlb ⊢
  have HR := Lib.hid hr; clear hr
  have HSR := Lib.hid hsr; clear hsr
  have HLN := Lib.hid hln; clear hln
  have HSUM := Lib.hid hsum; clear hsum
  have HN := Lib.hid hn; clear hn hls hs0
  have e0 := byte_of s0
  have e1 := byte_of (s0 / 256)
  have e2 := byte_of (s0 / 65536)
  have e3 := byte_of (s0 / 16777216)
  have H4 := Lib.hid (And.intro e0 (And.intro e1 (And.intro e2 e3)))
  clear e0 e1 e2 e3
  go_upto_region 8 with (first
    | (go_at_call 14; refine (HSUM.out _ (HB.out.ext HX1.out)).mono ?_; rintro e w2 ⟨rfl, hx⟩; have HX2 := Lib.hid (HX1.out.trans hx); have HB2 := Lib.hid (HB.out.ext HX2.out); clear hx)
    | (at_builtin; first
      | (refine append_bytes rfl (.tmp 19) (.tmp 20) 34 rfl Tryz.underlying34 w2.heap.size (some ⟨w2.heap.size, 0, none⟩) 0 [] b 0 n rfl HN.out.symm rfl (OwnB.new0 w2) ad c rfl (HB2.out.ext (Ext.alloc _ _)) (by omega) (by simp) ?_; intro a3 c3 w3 hown hb; have HO3 : Hid (OwnB w3 w2.heap.size a3 c3 b) := Lib.hid hown; have HX3 := Lib.hid (Ext.of_below' (Ext.alloc w2 _) hb); clear hown hb)
      | (refine append_bytes rfl (.tmp 21) (.tmp 33) 34 rfl Tryz.underlying34 w2.heap.size a3 c3 b (num4 s0) n 4 HN.out.symm rfl rfl (HO3.out.ext (Ext.alloc _ _)) _ _ rfl ?lit (by omega) (Nat.le_trans HX3.out.size (Ext.alloc _ _).size) ?_; (case lit => (refine (ownB_lit _ _ (num4 s0) ?_ (by simp [num4_len])).bytes.1; obtain ⟨e0, e1, e2, e3⟩ := H4.out; simp only [num4, List.map_cons, List.map_nil, e0, e1, e2, e3]; simp <;> omega)); intro al cl w6 hown hb; have HX6 := Lib.hid (Ext.of_below' (HX3.out.trans (Ext.alloc _ _)) hb); have HO6 := Lib.hid hown.bytes; clear hown hb)))
  obtain ⟨l, hl'⟩ : ∃ l, l = b ++ num4 s0 := ⟨_, rfl⟩
  have hlen : n + 4 = l.length := by rw [hl']; exact HLN.out.symm
  rw [hlen]
  have HBl : Hid (Bytes w6 al l) := Lib.hid (by rw [hl']; exact HO6.out.1)
  have HXl := Lib.hid (HX2.out.trans HX6.out)
  have hcl : l.length ≤ cl := by rw [hl']; exact HO6.out.2
  have hll : l.length ≤ 2004 := by omega
  have hr : readP l = (pz, 4) := by rw [hl']; exact HR.out
  have hs : sumR l := by rw [hl']; exact HSR.out
  clear hlen hl' HR HSR HLN HSUM HN H4 HX1 HX2 HX3 HX6 HO3 HO6 HB HB2 hs32 hc hl hlb
  have hsv : (crcL (l.take (l.length - 4))).toNat = le32 (l.drop (l.length - 4)) := hs.2.symm
  have hs4 := hs.1
  obtain ⟨m, hm⟩ : ∃ m, l.length = m + 4 := ⟨l.length - 4, by omega⟩
  obtain ⟨g, off, rfl, _, _⟩ := HBl.out.at (by intro e; rw [e] at hm; simp at hm)
  have hrd := fun W hE hB => read_none (some ⟨g, off, none⟩) cl l 4 W hE hB hcl (by omega) hr
  rw [show l.length - 4 = m by omega] at hsv
  rw [hm] at hrd hcl hll ⊢
  clear hs hr hs4
  have HRD := Lib.hid hrd; clear hrd
  go_upto_region 9 with (go_at_call 11; refine (HRD.out _ (HE.out.ext HXl.out) HBl.out).mono ?_; rintro e w9 ⟨an, ac, af, au, cn, cc, cf, cu, rfl, hx⟩; have HX9 := Lib.hid (HXl.out.trans hx); have HB9 := Lib.hid (HBl.out.ext hx); clear hx)
  have hpn := heap_alloc_new w9 (.cells #[.string ⟨#[]⟩, .string ⟨#[]⟩, .slice an 0 cn, .slice ac 0 cc, .slice af 0 cf, .slice au 0 cu] 26)
  have hpx := Ext.alloc w9 (.cells #[.string ⟨#[]⟩, .string ⟨#[]⟩, .slice an 0 cn, .slice ac 0 cc, .slice af 0 cf, .slice au 0 cu] 26)
  generalize w9.alloc (.cells #[.string ⟨#[]⟩, .string ⟨#[]⟩, .slice an 0 cn, .slice ac 0 cc, .slice af 0 cf, .slice au 0 cu] 26) = wa at hpn hpx ⊢
  obtain ⟨B, hB⟩ : ∃ x, x = w9.heap.size := ⟨_, rfl⟩
  rw [← hB] at hpn ⊢
  clear hB
  have HXa := Lib.hid (HX9.out.trans hpx)
  have HBa := Lib.hid (HB9.out.ext hpx)
  have HPa := Lib.hid hpn
  clear HX9 HB9 HXl HBl hpn hpx HRD
  have h0 : ((m : Int) + 4 - 4 = m) := by omega
  have h0b : decide (((m + 4 : Nat) : Int) - 4 < 0) = false := decide_eq_false (by omega)
  have h0d : decide ((m : Int) < 0) = false := decide_eq_false (by omega)
  obtain ⟨_, _, he, _, hcell⟩ := HBa.out.at (by intro e; rw [e] at hm; simp at hm)
  obtain ⟨rfl, rfl⟩ : g = _ ∧ off = _ := by simpa using he
  have hq : ∀ W, Ext wa W → W.cell? ⟨g, off + m, none⟩ = some (.int .u8 (byteAt l m : Nat)) ∧ W.cell? ⟨g, off + (m + 1), none⟩ = some (.int .u8 (byteAt l (m + 1) : Nat)) ∧ W.cell? ⟨g, off + (m + 2), none⟩ = some (.int .u8 (byteAt l (m + 2) : Nat)) ∧ W.cell? ⟨g, off + (m + 3), none⟩ = some (.int .u8 (byteAt l (m + 3) : Nat)) := fun W hW => ⟨hW.cell (hcell m (by omega)), hW.cell (hcell (m + 1) (by omega)), hW.cell (hcell (m + 2) (by omega)), hW.cell (hcell (m + 3) (by omega))⟩
  have hv : le32 (l.drop m) = byteAt l m + 256 * byteAt l (m + 1) + 65536 * byteAt l (m + 2) + 16777216 * byteAt l (m + 3) := by simp [le32, byteAt]
  have hl0 := byteAt_lt l m
  have hl1 := byteAt_lt l (m + 1)
  have hl2 := byteAt_lt l (m + 2)
  have hl3 := byteAt_lt l (m + 3)
  generalize byteAt l m = b0 at hq hv hl0
  generalize byteAt l (m + 1) = b1 at hq hv hl1
  generalize byteAt l (m + 2) = b2 at hq hv hl2
  generalize byteAt l (m + 3) = b3 at hq hv hl3
  have ht4 : (l.take m).length = m := by simp; omega
  have hsum := fun W hB => ref_sum (some ⟨g, off, none⟩) cl (l.take m) W hB (by omega)
  rw [ht4] at hsum
  have hs32 : (crcL (l.take m)).toNat < 4294967296 := (crcL (l.take m)).isLt
  generalize (crcL (l.take m)).toNat = s at hsum hs32 hsv
  rw [hv] at hsv
  have HSUM := Lib.hid hsum; clear hsum
  have HQ4 := Lib.hid hq; clear hq hcell he ht4
  have w1' : IntKind.i64.wrap ((m : Int) + 1) = (m : Int) + 1 := IntWalk.i64_in _ (by omega)
  have w2' : IntKind.i64.wrap ((m : Int) + 2) = (m : Int) + 2 := IntWalk.i64_in _ (by omega)
  have w3' : IntKind.i64.wrap ((m : Int) + 3) = (m : Int) + 3 := IntWalk.i64_in _ (by omega)
  have t1 : ((m : Int) + 1).toNat = m + 1 := by omega
  have t2 : ((m : Int) + 2).toNat = m + 2 := by omega
  have t3 : ((m : Int) + 3).toNat = m + 3 := by omega
  have i0 : (m : Int) < (m : Int) + 4 := by omega
  have i1 : (m : Int) + 1 < (m : Int) + 4 := by omega
  have i2 : (m : Int) + 2 < (m : Int) + 4 := by omega
  have i3 : (m : Int) + 3 < (m : Int) + 4 := by omega
  have j0 : (0 : Int) ≤ (m : Int) := by omega
  have j1 : (0 : Int) ≤ (m : Int) + 1 := by omega
  have j2 : (0 : Int) ≤ (m : Int) + 2 := by omega
  have j3 : (0 : Int) ≤ (m : Int) + 3 := by omega
  have j4 : (m : Int) ≤ (cl : Int) := by omega
  have x0 : IntKind.u32.wrap (b0 : Int) = (b0 : Int) := IntWalk.u32_in _ (by omega)
  have x1 : IntKind.u32.wrap (b1 : Int) = (b1 : Int) := IntWalk.u32_in _ (by omega)
  have x2 : IntKind.u32.wrap (b2 : Int) = (b2 : Int) := IntWalk.u32_in _ (by omega)
  have x3 : IntKind.u32.wrap (b3 : Int) = (b3 : Int) := IntWalk.u32_in _ (by omega)
  have y1 : IntKind.u32.wrap ((b1 : Int) * 256) = (b1 : Int) * 256 := IntWalk.u32_in _ (by omega)
  have y2 : IntKind.u32.wrap ((b2 : Int) * 65536) = (b2 : Int) * 65536 := IntWalk.u32_in _ (by omega)
  have y3 : IntKind.u32.wrap ((b3 : Int) * 16777216) = (b3 : Int) * 16777216 := IntWalk.u32_in _ (by omega)
  have o1 : bits BinOp.or IntKind.u32 (b0 : Int) ((b1 : Int) * 256) = (b0 : Int) + (b1 : Int) * 256 := by simp (disch := omega) only [u32_or8]
  have o2 : bits BinOp.or IntKind.u32 ((b0 : Int) + (b1 : Int) * 256) ((b2 : Int) * 65536) = (b0 : Int) + (b1 : Int) * 256 + (b2 : Int) * 65536 := by simp (disch := omega) only [u32_or16]
  have o3 : bits BinOp.or IntKind.u32 ((b0 : Int) + (b1 : Int) * 256 + (b2 : Int) * 65536) ((b3 : Int) * 16777216) = (s : Int) := by
    simp (disch := omega) only [u32_or24]; omega
  clear hsv hv
  go_upto_region 10 with fail
  have HK := Lib.hid ((Ext.refl wa).drew)
  go_region_held3 (fun W => W.cell? ⟨g, off + m, none⟩ = some (.int .u8 (b0 : Int)) ∧ W.cell? ⟨g, off + (m + 1), none⟩ = some (.int .u8 (b1 : Int)) ∧ W.cell? ⟨g, off + (m + 2), none⟩ = some (.int .u8 (b2 : Int)) ∧ W.cell? ⟨g, off + (m + 3), none⟩ = some (.int .u8 (b3 : Int)))
    (first | exact HQ4.out _ HK.out)
    (first
      | (go_at_call 14; refine (HSUM.out _ ((HBa.out.ext HK.out).take m)).mono ?_; rintro e wb ⟨rfl, hx⟩; replace HK := Lib.hid (HK.out.trans hx); clear hx)
      | fail)
  clear x0 x1 x2 x3 y1 y2 y3 t1 t2 t3 HQ4 HSUM i0 i1 i2 i3 j1 j2 j3 w1' w2' w3' o1 o2 o3 h0 h0b h0d hl0 hl1 hl2 hl3
  all_goals (
    have z0 := blk_cell (HK.out.heap HPa.out) 0 (Value.string ⟨#[]⟩) rfl
    have z4 := blk_cell (HK.out.heap HPa.out) 4 (Value.slice af 0 cf) rfl
    go_wp2_with fail
    rw [HQ.out]
    exact ⟨rfl, HXa.out.trans HK.out⟩)
set_option maxRecDepth 100000 in
set_option maxHeartbeats 6400000 in
theorem reads_good_s (ad : Option Addr) (c : Nat) (b : By) (w : World) (hE : EnvN w) (hb : Bytes w ad b) (hc : b.length ≤ c) (hl : b.length ≤ 2000) (p : PkgD) (hr : readP (b ++ sumB b) = (p, 0)) :
    Calls Tryz.prog 4 #[.slice ad b.length c, .bool true] w fun e w' => e = .returned (.bool true) ∧ Ext w w' := by
  obtain ⟨Q, hQ⟩ : ∃ Q : Ending → World → Prop, Q = fun e w' => e = .returned (.bool true) ∧ Ext w w' := ⟨_, rfl⟩
  rw [← hQ]
  have HQ := Lib.hid hQ; clear hQ
  have HE := Lib.hid hE; clear hE
  have HB := Lib.hid hb; clear hb
  go_enter Tryz.func4, Tryz.ntmps4
  go_wp2_with fail
  refine (alive10 w (HE.out.ext (Ext.refl _))).mono ?_
  rintro e w1 ⟨rfl, hx1⟩
  have HX1 := Lib.hid hx1; clear hx1
  have hlb : decide ((2000 : Int) < (b.length : Int)) = false := decide_eq_false (by omega)
  obtain ⟨s0, hs0⟩ : ∃ s, s = (crcL b).toNat := ⟨_, rfl⟩
  have hs32 : s0 < 4294967296 := by rw [hs0]; exact (crcL b).isLt
  have hsum := fun W hb => ref_sum ad c b W hb (by omega)
  rw [← hs0] at hsum
  have hls : b ++ sumB b = b ++ num4 s0 := by rw [hs0]; rfl
  have hln : (b ++ num4 s0).length = b.length + 4 := by simp [num4_len]
  have hsr := sumR_sumB b
  rw [hls] at hr hsr
  obtain ⟨n, hn⟩ : ∃ n, n = b.length := ⟨_, rfl⟩
  rw [← hn] at hln hsum hc hl hlb ⊢
  have HR := Lib.hid hr; clear hr
  have HSR := Lib.hid hsr; clear hsr
  have HLN := Lib.hid hln; clear hln
  have HSUM := Lib.hid hsum; clear hsum
  have HN := Lib.hid hn; clear hn hls hs0
  have e0 := byte_of s0
  have e1 := byte_of (s0 / 256)
  have e2 := byte_of (s0 / 65536)
  have e3 := byte_of (s0 / 16777216)
  have H4 := Lib.hid (And.intro e0 (And.intro e1 (And.intro e2 e3)))
  clear e0 e1 e2 e3
  go_upto_region 8 with (first
    | (go_at_call 14; refine (HSUM.out _ (HB.out.ext HX1.out)).mono ?_; rintro e w2 ⟨rfl, hx⟩; have HX2 := Lib.hid (HX1.out.trans hx); have HB2 := Lib.hid (HB.out.ext HX2.out); clear hx)
    | (at_builtin; first
      | (refine append_bytes rfl (.tmp 19) (.tmp 20) 34 rfl Tryz.underlying34 w2.heap.size (some ⟨w2.heap.size, 0, none⟩) 0 [] b 0 n rfl HN.out.symm rfl (OwnB.new0 w2) ad c rfl (HB2.out.ext (Ext.alloc _ _)) (by omega) (by simp) ?_; intro a3 c3 w3 hown hb; have HO3 : Hid (OwnB w3 w2.heap.size a3 c3 b) := Lib.hid hown; have HX3 := Lib.hid (Ext.of_below' (Ext.alloc w2 _) hb); clear hown hb)
      | (refine append_bytes rfl (.tmp 21) (.tmp 33) 34 rfl Tryz.underlying34 w2.heap.size a3 c3 b (num4 s0) n 4 HN.out.symm rfl rfl (HO3.out.ext (Ext.alloc _ _)) _ _ rfl ?lit (by omega) (Nat.le_trans HX3.out.size (Ext.alloc _ _).size) ?_; (case lit => (refine (ownB_lit _ _ (num4 s0) ?_ (by simp [num4_len])).bytes.1; obtain ⟨e0, e1, e2, e3⟩ := H4.out; simp only [num4, List.map_cons, List.map_nil, e0, e1, e2, e3]; simp <;> omega)); intro al cl w6 hown hb; have HX6 := Lib.hid (Ext.of_below' (HX3.out.trans (Ext.alloc _ _)) hb); have HO6 := Lib.hid hown.bytes; clear hown hb)))
  obtain ⟨l, hl'⟩ : ∃ l, l = b ++ num4 s0 := ⟨_, rfl⟩
  have hlen : n + 4 = l.length := by rw [hl']; exact HLN.out.symm
  rw [hlen]
  have HBl : Hid (Bytes w6 al l) := Lib.hid (by rw [hl']; exact HO6.out.1)
  have HXl := Lib.hid (HX2.out.trans HX6.out)
  have hcl : l.length ≤ cl := by rw [hl']; exact HO6.out.2
  have hll : l.length ≤ 2004 := by omega
  have hr : readP l = (p, 0) := by rw [hl']; exact HR.out
  have hs : sumR l := by rw [hl']; exact HSR.out
  clear hlen hl' HR HSR HLN HSUM HN H4 HX1 HX2 HX3 HX6 HO3 HO6 HB HB2 hs32 hc hl hlb
  have hsv : (crcL (l.take (l.length - 4))).toNat = le32 (l.drop (l.length - 4)) := hs.2.symm
  have hs4 := hs.1
  obtain ⟨hrp, hwp⟩ := readP_good hr
  have hfit : FitP p := right_fit hrp hr (by omega)
  have hwr := fun W hE n1 n2 n3 n4 k1 k2 k3 k4 hM (hC : p.files.length ≤ k3) => arc_write_yes p ⟨n1, n2, n3, n4, k1, k2, k3, k4⟩ W hE hM hfit hC hrp
  have hpl := fun n1 n2 n3 n4 k1 k2 k3 k4 W hM => law_plain p n1 n2 n3 n4 k1 k2 k3 k4 W hM hfit
  have hrq := fun n1 n2 n3 n4 k1 k2 k3 k4 W hM => right10 p n1 n2 n3 n4 k1 k2 k3 k4 W hM hfit
  rw [rightQ_P, hrp] at hrq
  rw [hwp] at hwr
  have HWR := Lib.hid hwr; clear hwr
  have HPL := Lib.hid hpl; clear hpl
  have HRQ := Lib.hid hrq; clear hrq
  clear hrp hwp hfit
  obtain ⟨m, hm⟩ : ∃ m, l.length = m + 4 := ⟨l.length - 4, by omega⟩
  obtain ⟨g, off, rfl, _, _⟩ := HBl.out.at (by intro e; rw [e] at hm; simp at hm)
  have hrd := fun W hE hB => read_some (some ⟨g, off, none⟩) cl l p W hE hB hcl (by omega) hr
  rw [show l.length - 4 = m by omega] at hsv
  rw [hm] at hrd hcl hll ⊢
  rw [hm] at HWR
  clear hs hr hs4
  have HRD := Lib.hid hrd; clear hrd
  go_upto_region 9 with (go_at_call 11; refine (HRD.out _ (HE.out.ext HXl.out) HBl.out).mono ?_; rintro e w9 ⟨an, ac, af, au, cn, cc, cf, cu, rfl, hm, hcf, hx⟩; have HX9 := Lib.hid (HXl.out.trans hx); have HB9 := Lib.hid (HBl.out.ext hx); have HM9 := Lib.hid hm; clear hm; clear hx)
  have hpn := heap_alloc_new w9 (.cells #[.string (bs p.name), .string (bs p.ver), .slice an p.needs.length cn, .slice ac p.conf.length cc, .slice af p.files.length cf, .slice au p.units.length cu] 26)
  have hpx := Ext.alloc w9 (.cells #[.string (bs p.name), .string (bs p.ver), .slice an p.needs.length cn, .slice ac p.conf.length cc, .slice af p.files.length cf, .slice au p.units.length cu] 26)
  generalize w9.alloc (.cells #[.string (bs p.name), .string (bs p.ver), .slice an p.needs.length cn, .slice ac p.conf.length cc, .slice af p.files.length cf, .slice au p.units.length cu] 26) = wa at hpn hpx ⊢
  obtain ⟨B, hB⟩ : ∃ x, x = w9.heap.size := ⟨_, rfl⟩
  rw [← hB] at hpn ⊢
  clear hB
  have HXa := Lib.hid (HX9.out.trans hpx)
  have HBa := Lib.hid (HB9.out.ext hpx)
  have HMa := Lib.hid (HM9.out.ext hpx); clear HM9
  have HPa := Lib.hid hpn
  clear HX9 HB9 HXl HBl hpn hpx HRD
  have HCF := Lib.hid hcf; clear hcf
  have h0 : ((m : Int) + 4 - 4 = m) := by omega
  have h0b : decide (((m + 4 : Nat) : Int) - 4 < 0) = false := decide_eq_false (by omega)
  have h0d : decide ((m : Int) < 0) = false := decide_eq_false (by omega)
  obtain ⟨_, _, he, _, hcell⟩ := HBa.out.at (by intro e; rw [e] at hm; simp at hm)
  obtain ⟨rfl, rfl⟩ : g = _ ∧ off = _ := by simpa using he
  have hq : ∀ W, Ext wa W → W.cell? ⟨g, off + m, none⟩ = some (.int .u8 (byteAt l m : Nat)) ∧ W.cell? ⟨g, off + (m + 1), none⟩ = some (.int .u8 (byteAt l (m + 1) : Nat)) ∧ W.cell? ⟨g, off + (m + 2), none⟩ = some (.int .u8 (byteAt l (m + 2) : Nat)) ∧ W.cell? ⟨g, off + (m + 3), none⟩ = some (.int .u8 (byteAt l (m + 3) : Nat)) := fun W hW => ⟨hW.cell (hcell m (by omega)), hW.cell (hcell (m + 1) (by omega)), hW.cell (hcell (m + 2) (by omega)), hW.cell (hcell (m + 3) (by omega))⟩
  have hv : le32 (l.drop m) = byteAt l m + 256 * byteAt l (m + 1) + 65536 * byteAt l (m + 2) + 16777216 * byteAt l (m + 3) := by simp [le32, byteAt]
  have hl0 := byteAt_lt l m
  have hl1 := byteAt_lt l (m + 1)
  have hl2 := byteAt_lt l (m + 2)
  have hl3 := byteAt_lt l (m + 3)
  generalize byteAt l m = b0 at hq hv hl0
  generalize byteAt l (m + 1) = b1 at hq hv hl1
  generalize byteAt l (m + 2) = b2 at hq hv hl2
  generalize byteAt l (m + 3) = b3 at hq hv hl3
  have ht4 : (l.take m).length = m := by simp; omega
  have hsum := fun W hB => ref_sum (some ⟨g, off, none⟩) cl (l.take m) W hB (by omega)
  rw [ht4] at hsum
  have hs32 : (crcL (l.take m)).toNat < 4294967296 := (crcL (l.take m)).isLt
  generalize (crcL (l.take m)).toNat = s at hsum hs32 hsv
  rw [hv] at hsv
  have HSUM := Lib.hid hsum; clear hsum
  have HQ4 := Lib.hid hq; clear hq hcell he ht4
  have w1' : IntKind.i64.wrap ((m : Int) + 1) = (m : Int) + 1 := IntWalk.i64_in _ (by omega)
  have w2' : IntKind.i64.wrap ((m : Int) + 2) = (m : Int) + 2 := IntWalk.i64_in _ (by omega)
  have w3' : IntKind.i64.wrap ((m : Int) + 3) = (m : Int) + 3 := IntWalk.i64_in _ (by omega)
  have t1 : ((m : Int) + 1).toNat = m + 1 := by omega
  have t2 : ((m : Int) + 2).toNat = m + 2 := by omega
  have t3 : ((m : Int) + 3).toNat = m + 3 := by omega
  have i0 : (m : Int) < (m : Int) + 4 := by omega
  have i1 : (m : Int) + 1 < (m : Int) + 4 := by omega
  have i2 : (m : Int) + 2 < (m : Int) + 4 := by omega
  have i3 : (m : Int) + 3 < (m : Int) + 4 := by omega
  have j0 : (0 : Int) ≤ (m : Int) := by omega
  have j1 : (0 : Int) ≤ (m : Int) + 1 := by omega
  have j2 : (0 : Int) ≤ (m : Int) + 2 := by omega
  have j3 : (0 : Int) ≤ (m : Int) + 3 := by omega
  have j4 : (m : Int) ≤ (cl : Int) := by omega
  have x0 : IntKind.u32.wrap (b0 : Int) = (b0 : Int) := IntWalk.u32_in _ (by omega)
  have x1 : IntKind.u32.wrap (b1 : Int) = (b1 : Int) := IntWalk.u32_in _ (by omega)
  have x2 : IntKind.u32.wrap (b2 : Int) = (b2 : Int) := IntWalk.u32_in _ (by omega)
  have x3 : IntKind.u32.wrap (b3 : Int) = (b3 : Int) := IntWalk.u32_in _ (by omega)
  have y1 : IntKind.u32.wrap ((b1 : Int) * 256) = (b1 : Int) * 256 := IntWalk.u32_in _ (by omega)
  have y2 : IntKind.u32.wrap ((b2 : Int) * 65536) = (b2 : Int) * 65536 := IntWalk.u32_in _ (by omega)
  have y3 : IntKind.u32.wrap ((b3 : Int) * 16777216) = (b3 : Int) * 16777216 := IntWalk.u32_in _ (by omega)
  have o1 : bits BinOp.or IntKind.u32 (b0 : Int) ((b1 : Int) * 256) = (b0 : Int) + (b1 : Int) * 256 := by simp (disch := omega) only [u32_or8]
  have o2 : bits BinOp.or IntKind.u32 ((b0 : Int) + (b1 : Int) * 256) ((b2 : Int) * 65536) = (b0 : Int) + (b1 : Int) * 256 + (b2 : Int) * 65536 := by simp (disch := omega) only [u32_or16]
  have o3 : bits BinOp.or IntKind.u32 ((b0 : Int) + (b1 : Int) * 256 + (b2 : Int) * 65536) ((b3 : Int) * 16777216) = (s : Int) := by
    simp (disch := omega) only [u32_or24]; omega
  clear hsv hv
  go_upto_region 10 with fail
  have HK := Lib.hid ((Ext.refl wa).drew)
  go_region_held3 (fun W => W.cell? ⟨g, off + m, none⟩ = some (.int .u8 (b0 : Int)) ∧ W.cell? ⟨g, off + (m + 1), none⟩ = some (.int .u8 (b1 : Int)) ∧ W.cell? ⟨g, off + (m + 2), none⟩ = some (.int .u8 (b2 : Int)) ∧ W.cell? ⟨g, off + (m + 3), none⟩ = some (.int .u8 (b3 : Int)))
    (first | exact HQ4.out _ HK.out)
    (first
      | (go_at_call 14; refine (HSUM.out _ ((HBa.out.ext HK.out).take m)).mono ?_; rintro e wb ⟨rfl, hx⟩; replace HK := Lib.hid (HK.out.trans hx); clear hx)
      | fail)
  clear x0 x1 x2 x3 y1 y2 y3 t1 t2 t3 HQ4 HSUM i0 i1 i2 i3 j1 j2 j3 w1' w2' w3' o1 o2 o3 h0 h0b h0d hl0 hl1 hl2 hl3
  all_goals (
    have p0 := blk_cell (HK.out.heap HPa.out) 0 (Value.string (bs p.name)) rfl
    have p1 := blk_cell (HK.out.heap HPa.out) 1 (Value.string (bs p.ver)) rfl
    have p2 := blk_cell (HK.out.heap HPa.out) 2 (Value.slice an p.needs.length cn) rfl
    have p3 := blk_cell (HK.out.heap HPa.out) 3 (Value.slice ac p.conf.length cc) rfl
    have p4 := blk_cell (HK.out.heap HPa.out) 4 (Value.slice af p.files.length cf) rfl
    have p5 := blk_cell (HK.out.heap HPa.out) 5 (Value.slice au p.units.length cu) rfl
    have HXb := Lib.hid (HXa.out.trans HK.out)
    go_upto_region 15 with (go_at_call 8; refine (HWR.out _ (HE.out.ext HXb.out) an ac af au cn cc cf cu (HMa.out.ext HK.out) HCF.out).mono ?_; rintro e wc ⟨a5, c5, rfl, hown, hx⟩; have HXc := Lib.hid (HXb.out.trans hx); replace HK := Lib.hid (HK.out.trans hx); have HO5 := Lib.hid hown.bytes.1; clear hx hown HXb p0 p1 p2 p3 p4 p5)
    have p0 := blk_cell (HK.out.heap HPa.out) 0 (Value.string (bs p.name)) rfl
    have p1 := blk_cell (HK.out.heap HPa.out) 1 (Value.string (bs p.ver)) rfl
    have p2 := blk_cell (HK.out.heap HPa.out) 2 (Value.slice an p.needs.length cn) rfl
    have p3 := blk_cell (HK.out.heap HPa.out) 3 (Value.slice ac p.conf.length cc) rfl
    have p4 := blk_cell (HK.out.heap HPa.out) 4 (Value.slice af p.files.length cf) rfl
    have p5 := blk_cell (HK.out.heap HPa.out) 5 (Value.slice au p.units.length cu) rfl
    have u1 := conv_text (c := c5) HO5.out
    have u2 := conv_text (c := cl) (HBa.out.ext HK.out)
    rw [hm] at u1 u2
    go_wp2_with (first
      | (go_at_call 7; refine (HPL.out an ac af au cn cc cf cu _ (HMa.out.ext HK.out)).mono ?_; rintro e wd ⟨yn, gn, yf, gf, rfl, hn, hf, hx⟩; have HXd := Lib.hid (HXc.out.trans hx); have HMY := Lib.hid (PkgM.mk (A := ⟨yn, ac, yf, au, gn, cc, gf, cu⟩) hn ((HMa.out.ext HK.out).conf.ext hx) hf ((HMa.out.ext HK.out).units.ext hx)); clear hx hn hf)
      | (go_at_call 10; refine (HRQ.out yn ac yf au gn cc gf cu _ HMY.out).mono ?_; rintro e we ⟨rfl, hx⟩; have HXe := Lib.hid (HXd.out.trans hx); clear hx))
    rw [HQ.out]
    exact ⟨rfl, HXe.out⟩)
set_option maxRecDepth 100000 in
set_option maxHeartbeats 6400000 in
theorem reads_great (al : Option Addr) (cl : Nat) (l : By) (y : Bool) (w : World) (hE : EnvN w) (hl : ¬ l.length ≤ 2000) :
    Calls Tryz.prog 4 #[.slice al l.length cl, .bool y] w fun e w' => e = .returned (.bool true) ∧ Ext w w' := by
  obtain ⟨Q, hQ⟩ : ∃ Q : Ending → World → Prop, Q = fun e w' => e = .returned (.bool true) ∧ Ext w w' := ⟨_, rfl⟩
  rw [← hQ]
  have HQ := Lib.hid hQ; clear hQ
  have HE := Lib.hid hE; clear hE
  go_enter Tryz.func4, Tryz.ntmps4
  go_wp2_with fail
  refine (alive10 w (HE.out.ext (Ext.refl _))).mono ?_
  rintro e w1 ⟨rfl, hx1⟩
  have HX1 := Lib.hid hx1; clear hx1
  have hlb : decide ((2000 : Int) < (l.length : Int)) = true := decide_eq_true (by omega)
  go_wp2_with fail
  rw [HQ.out]
  exact ⟨rfl, HX1.out⟩
theorem arc_reads (a : Option Addr) (c : Nat) (b : By) (y : Bool) (w : World) (hE : EnvN w) (hb : Bytes w a b) (hc : b.length ≤ c) :
    Calls Tryz.prog 4 #[.slice a b.length c, .bool y] w fun e w' => e = .returned (.bool true) ∧ Ext w w' := by
  by_cases hl : b.length ≤ 2000
  · cases y
    · rcases readP_three b with ⟨hr, hns⟩ | ⟨hr, hs⟩ | ⟨p, hr, hs⟩
      · by_cases hsh : b.length < 4
        · exact reads_short a c b w hE hb hc hl hsh hr
        · exact reads_sum a c b w hE hb hc hl hsh hns hr
      · exact reads_form a c b w hE hb hc hl hs hr
      · exact reads_good a c b w hE hb hc hl p hs hr
    · rcases readP_three (b ++ sumB b) with ⟨_, hns⟩ | ⟨hr, _⟩ | ⟨p, hr, _⟩
      · exact absurd (sumR_sumB b) hns
      · exact reads_form_s a c b w hE hb hc hl hr
      · exact reads_good_s a c b w hE hb hc hl p hr
  · exact reads_great a c b y w hE hl
end Go.Proofs.YtpfcofjianmeaaaGreatDoor
