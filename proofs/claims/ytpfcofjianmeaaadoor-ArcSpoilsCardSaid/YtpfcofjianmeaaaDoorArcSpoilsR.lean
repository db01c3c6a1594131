/- farrierlaw10.ArcSpoils, of a package that may be. -/
import Derived.Test.YtpfcofjianmeaaaDoorArcSpoilsW
import Derived.Outline
import Derived.Laws.StructEq
namespace Go.Proofs.YtpfcofjianmeaaaDoor
open Go.RowKit
attribute [local go_sem ↓] Go.wp_at_zero Go.wp_at_succ
theorem eq_four (a b c d : Int) (w : World) : (Op.equalIn 10000 27 (.agg #[.int .u8 a, .int .u8 b, .int .u8 c, .int .u8 d]) (.agg #[.int .u8 0, .int .u8 0, .int .u8 0, .int .u8 0])).run Tryd.prog w = .ok (a == 0 && (b == 0 && (c == 0 && d == 0))) w := by
  have u3 := Tryd.underlying5
  have a3 := Tryd.isAgg5
  have z3 := Tryd.sizeOf5
  rw [show (10000 : Nat) = 9999 + 1 from rfl, Op.equalIn]
  simp only [Sem.run_bind, run_underlying Tryd.underlying27, Result.andThen_ok]
  simp only [Std.Legacy.Range.forIn_eq_forIn_range', Std.Legacy.Range.size, Nat.sub_zero, Nat.add_sub_cancel, Nat.div_one, List.range'_succ, List.range'_zero, List.forIn_cons, List.forIn_nil]
  go_simp
  by_cases h1 : a = 0 <;> by_cases h2 : b = 0 <;> by_cases h3 : c = 0 <;> by_cases h4 : d = 0 <;> simp [h1, h2, h3, h4]
theorem four_false {a b c d : Nat} (h : ¬ (a = 0 ∧ b = 0 ∧ c = 0 ∧ d = 0)) : (((a : Int) == 0) && (((b : Int) == 0) && (((c : Int) == 0) && ((d : Int) == 0)))) = false := by
  apply Bool.eq_false_iff.2
  intro k
  simp only [Bool.and_eq_true, beq_iff_eq] at k
  omega
theorem four_ne {a b c d : UInt8} (h : ¬ (a = 0 ∧ b = 0 ∧ c = 0 ∧ d = 0)) : ¬ (a.toNat = 0 ∧ b.toNat = 0 ∧ c.toNat = 0 ∧ d.toNat = 0) := fun k => h ⟨UInt8.toNat_inj.1 k.1, UInt8.toNat_inj.1 k.2.1, UInt8.toNat_inj.1 k.2.2.1, UInt8.toNat_inj.1 k.2.2.2⟩
set_option maxRecDepth 100000 in
set_option maxHeartbeats 6400000 in
theorem spoils_right (p : PkgD) (an ac af au : Option Addr) (cn cc cf cu : Nat) (at_ : Int) (b0 b1 b2 b3 : UInt8) (w : World) (hE : EnvN w) (hM : PkgM w p ⟨an, ac, af, au, cn, cc, cf, cu⟩) (hC : p.files.length ≤ cf) (hs : smallB p = true) (hr : rightP p = true) :
    Calls Tryd.prog 3 #[.agg #[.string (bs p.name), .string (bs p.ver), .slice an p.needs.length cn, .slice ac p.conf.length cc, .slice af p.files.length cf, .slice au p.units.length cu], .int .i64 at_, .agg #[.int .u8 (b0.toNat : Int), .int .u8 (b1.toNat : Int), .int .u8 (b2.toNat : Int), .int .u8 (b3.toNat : Int)]] w fun e w' => e = .returned (.bool true) ∧ Ext w w' := by
  obtain ⟨Q, hQ⟩ : ∃ Q : Ending → World → Prop, Q = fun e w' => e = .returned (.bool true) ∧ Ext w w' := ⟨_, rfl⟩
  rw [← hQ]
  have HQ := Lib.hid hQ; clear hQ
  have HE := Lib.hid hE; clear hE
  have HM := Lib.hid hM; clear hM
  have HC := Lib.hid hC; clear hC
  have hsm := fun W hW => small_one p ⟨an, ac, af, au, cn, cc, cf, cu⟩ W hW hs
  have hwr := fun W hE hM => arc_write_yes p ⟨an, ac, af, au, cn, cc, cf, cu⟩ W hE hM (SmallP.fit (smallB_fit hs)) HC.out hr
  rw [show pkgV p ⟨an, ac, af, au, cn, cc, cf, cu⟩ = .agg #[.string (bs p.name), .string (bs p.ver), .slice an p.needs.length cn, .slice ac p.conf.length cc, .slice af p.files.length cf, .slice au p.units.length cu] from rfl] at hsm hwr
  have hback := readP_back hr
  have hl1 := (packP_len hr).1
  have hl2 := packP_size p
  have hl3 : (writeP p).length = (packP p).length + 4 := by simp [writeP, sumB, num4_len]
  have hsp := fun (t : Nat) (ht : t + 4 ≤ (writeP p).length) => spoil hr (at_ := t) b0 b1 b2 b3 ht
  have hn0 : 28 ≤ (writeP p).length := by omega
  have hn1 : (writeP p).length ≤ 16004 := by omega
  clear hl1 hl2 hl3
  obtain ⟨D0, hD0⟩ : ∃ D, D = writeP p := ⟨_, rfl⟩
  rw [← hD0] at hback hsp hn0 hn1 hwr
  clear hD0
  obtain ⟨n, hn⟩ : ∃ n, n = D0.length := ⟨_, rfl⟩
  rw [← hn] at hn0 hn1 hwr
  have HN := Lib.hid hn; clear hn
  have HSP := Lib.hid hsp; clear hsp
  have HBK := Lib.hid hback; clear hback
  have HS1 := Lib.hid hsm; clear hsm hs hr
  have HWY := Lib.hid hwr; clear hwr
  have hx0 : Ext w ((w.alloc (.cells #[.string (bs p.name), .string (bs p.ver), .slice an p.needs.length cn, .slice ac p.conf.length cc, .slice af p.files.length cf, .slice au p.units.length cu] 26)).alloc (.cells #[.int .u8 (b0.toNat : Int), .int .u8 (b1.toNat : Int), .int .u8 (b2.toNat : Int), .int .u8 (b3.toNat : Int)] 27)) := (Ext.alloc _ _).trans (Ext.alloc _ _)
  have hp0 := (Ext.alloc _ (.cells #[.int .u8 (b0.toNat : Int), .int .u8 (b1.toNat : Int), .int .u8 (b2.toNat : Int), .int .u8 (b3.toNat : Int)] 27)).heap (heap_alloc_new w (.cells #[.string (bs p.name), .string (bs p.ver), .slice an p.needs.length cn, .slice ac p.conf.length cc, .slice af p.files.length cf, .slice au p.units.length cu] 26))
  have hq0 := heap_alloc_new (w.alloc (.cells #[.string (bs p.name), .string (bs p.ver), .slice an p.needs.length cn, .slice ac p.conf.length cc, .slice af p.files.length cf, .slice au p.units.length cu] 26)) (.cells #[.int .u8 (b0.toNat : Int), .int .u8 (b1.toNat : Int), .int .u8 (b2.toNat : Int), .int .u8 (b3.toNat : Int)] 27)
  rw [World.size_alloc] at hq0
  have HX0 := Lib.hid hx0; clear hx0
  have HP0 := Lib.hid hp0; clear hp0
  have HQ0 := Lib.hid hq0; clear hq0
  go_enter Tryd.func3, Tryd.ntmps3
  go_upto_region 1 with (fail)
  generalize (w.alloc (.cells #[.string (bs p.name), .string (bs p.ver), .slice an p.needs.length cn, .slice ac p.conf.length cc, .slice af p.files.length cf, .slice au p.units.length cu] 26)).alloc (.cells #[.int .u8 (b0.toNat : Int), .int .u8 (b1.toNat : Int), .int .u8 (b2.toNat : Int), .int .u8 (b3.toNat : Int)] 27) = w0 at HX0 HP0 HQ0 ⊢
  go_wp2_with fail
  refine (alive10 w0 (HE.out.ext HX0.out)).mono ?_
  rintro e w1 ⟨rfl, hx1⟩
  have HX1 := Lib.hid (HX0.out.trans hx1)
  have hp1 := hx1.heap HP0.out
  have HQ1 := Lib.hid (hx1.heap HQ0.out)
  clear HX0 HP0 HQ0 hx1
  have p0 := blk_cell hp1 0 _ rfl
  have p1 := blk_cell hp1 1 _ rfl
  have p2 := blk_cell hp1 2 _ rfl
  have p3 := blk_cell hp1 3 _ rfl
  have p4 := blk_cell hp1 4 _ rfl
  have p5 := blk_cell hp1 5 _ rfl
  have HP1 := Lib.hid hp1; clear hp1
  go_wp2_with fail
  refine (HS1.out w1 (HM.out.ext HX1.out)).mono ?_
  rintro e w2 ⟨rfl, hx2⟩
  have HX2 := Lib.hid (HX1.out.trans hx2)
  have hp2 := hx2.heap HP1.out
  have HQ2 := Lib.hid (hx2.heap HQ1.out)
  clear HX1 HP1 HQ1 hx2 p0 p1 p2 p3 p4 p5
  have p0 := blk_cell hp2 0 _ rfl
  have p1 := blk_cell hp2 1 _ rfl
  have p2 := blk_cell hp2 2 _ rfl
  have p3 := blk_cell hp2 3 _ rfl
  have p4 := blk_cell hp2 4 _ rfl
  have p5 := blk_cell hp2 5 _ rfl
  have HP2 := Lib.hid hp2; clear hp2
  go_wp2_with fail
  refine (HWY.out w2 (HE.out.ext HX2.out) (HM.out.ext HX2.out)).mono ?_
  rintro e w3 ⟨a3, c3, rfl, ho3, hx3⟩
  have HX3 := Lib.hid (HX2.out.trans hx3)
  have HQ3 := Lib.hid (hx3.heap HQ2.out)
  have HB3 := Lib.hid ho3.bytes
  clear HX2 HP2 HQ2 hx3 ho3 p0 p1 p2 p3 p4 p5
  go_upto_region 8 with (fail)
  obtain ⟨y, hy, hyv⟩ := and16 at_
  go_wp2_with (at_builtin; refine append_bytes rfl (.tmp 28) (.tmp 29) 30 rfl Tryd.underlying30 w3.heap.size (some ⟨w3.heap.size, 0, none⟩) 0 [] D0 0 n rfl HN.out.symm rfl (OwnB.empty w3 w3.heap.size (Nat.le_refl _)) a3 c3 rfl (HB3.out.1.ext (Ext.alloc w3 _)) (by omega) (by rw [World.size_alloc]; omega) ?_; intro a4 c4 w4 hown4 hbl4; have HO4 := Lib.hid hown4; have hx4 : Ext w3 w4 := Below.trans (Ext.alloc w3 (.cells #[] 5)) hbl4; have HQ4 := Lib.hid (hx4.heap HQ3.out); have HX4 := Lib.hid hx4; have q0 := blk_cell HQ4.out 0 _ rfl; have q1 := blk_cell HQ4.out 1 _ rfl; have q2 := blk_cell HQ4.out 2 _ rfl; have q3 := blk_cell HQ4.out 3 _ rfl; clear hown4 hbl4 hx4)
  obtain ⟨t, htt⟩ : ∃ t, t = y % (n - 3) := ⟨_, rfl⟩
  have ht : (y : Int) % ((n : Int) - 3) = (t : Int) := by
    have : (n : Int) - 3 = ((n - 3 : Nat) : Int) := by omega
    rw [htt, this]; rfl
  have ht4 : t + 4 ≤ n := by
    have := Nat.mod_lt y (show n - 3 > 0 by omega)
    omega
  rw [ht]
  clear ht htt hyv hy
  obtain ⟨g4, rfl, hg4⟩ := HO4.out.at_some (by intro e; have := HN.out; have h0 : D0 = [] := e; rw [h0] at this; simp at this; omega)
  have HO5 : Hid (OwnB w4 w3.heap.size (some ⟨g4, 0, none⟩) c4 (spoilK D0 t b0 b1 b2 b3 0)) := HO4
  have HR := And.intro HE HM; clear HE HM
  go_wp2_with fail
  go_loopw [38] (fun i wr => ∃ (k : Nat), i = .int .i64 k ∧ k ≤ 4 ∧ Hid (OwnB wr w3.heap.size (some ⟨g4, 0, none⟩) c4 (spoilK D0 t b0 b1 b2 b3 k)) ∧ Hid (Ext w3 wr)) (fun i _ => 4 - (intOf i).toNat)
  case atStart => exact ⟨0, rfl, by omega, HO5, HX4⟩
  case round =>
    clear HO4 HO5 HX4 HQ4 q0 q1 q2 q3
    obtain ⟨k, rfl, hk, ho, hxw⟩ := hrel
    by_cases hk4 : k < 4
    · have hk3 : k = 0 ∨ k = 1 ∨ k = 2 ∨ k = 3 := by omega
      rcases hk3 with rfl | rfl | rfl | rfl
      · have hb : (spoilK D0 t b0 b1 b2 b3 0).length = n := by rw [spoilK_len, HN.out]
        obtain ⟨x, hx⟩ : ∃ x, x = (spoilK D0 t b0 b1 b2 b3 0).getD (t) 0 := ⟨_, rfl⟩
        have hcl : wr.cell? ⟨g4, t, none⟩ = some (.int .u8 (x.toNat : Int)) := by
          have := ho.out.cell (i := t) (by rw [hb]; omega)
          rw [← hx] at this; exact this
        have hfz := ho.out.free (t)
        have hgl := lt_of_cell hcl
        have hxr := bits_xor8 x b0
        have hix : ∀ w : World, (Instr.index 27 (.agg #[.int .u8 (b0.toNat : Int), .int .u8 (b1.toNat : Int), .int .u8 (b2.toNat : Int), .int .u8 (b3.toNat : Int)]) (.int .i64 0)).run Tryd.prog w = .ok (.int .u8 (b0.toNat : Int)) w := fun _ => by kernel_rfl
        have HXE := Lib.hid hx; clear hx
        have HLB := Lib.hid hb; clear hb
        have HXQ := Lib.hid hxr; clear hxr
        go_wp2_with fail
        go_roundw
        case rel => exact ⟨1, by go_num, by omega, Lib.hid (by
          rw [HXQ.out]
          have h := ho.out.set (t) (x ^^^ b0)
          rw [HXE.out] at h ⊢
          exact h), Lib.hid (show Ext w3 _ from Below.setCell hxw.out (show w3.heap.size ≤ g4 from hg4) _)⟩
        case measure => simp [intOf]
      · have hb : (spoilK D0 t b0 b1 b2 b3 1).length = n := by rw [spoilK_len, HN.out]
        obtain ⟨x, hx⟩ : ∃ x, x = (spoilK D0 t b0 b1 b2 b3 1).getD (t + 1) 0 := ⟨_, rfl⟩
        have hcl : wr.cell? ⟨g4, t + 1, none⟩ = some (.int .u8 (x.toNat : Int)) := by
          have := ho.out.cell (i := t + 1) (by rw [hb]; omega)
          rw [← hx] at this; exact this
        have hfz := ho.out.free (t + 1)
        have hgl := lt_of_cell hcl
        have hxr := bits_xor8 x b1
        have hix : ∀ w : World, (Instr.index 27 (.agg #[.int .u8 (b0.toNat : Int), .int .u8 (b1.toNat : Int), .int .u8 (b2.toNat : Int), .int .u8 (b3.toNat : Int)]) (.int .i64 1)).run Tryd.prog w = .ok (.int .u8 (b1.toNat : Int)) w := fun _ => by kernel_rfl
        have HXE := Lib.hid hx; clear hx
        have HLB := Lib.hid hb; clear hb
        have HXQ := Lib.hid hxr; clear hxr
        go_wp2_with fail
        go_roundw
        case rel => exact ⟨2, by go_num, by omega, Lib.hid (by
          rw [HXQ.out]
          have h := ho.out.set (t + 1) (x ^^^ b1)
          rw [HXE.out] at h ⊢
          exact h), Lib.hid (show Ext w3 _ from Below.setCell hxw.out (show w3.heap.size ≤ g4 from hg4) _)⟩
        case measure => simp [intOf]
      · have hb : (spoilK D0 t b0 b1 b2 b3 2).length = n := by rw [spoilK_len, HN.out]
        obtain ⟨x, hx⟩ : ∃ x, x = (spoilK D0 t b0 b1 b2 b3 2).getD (t + 2) 0 := ⟨_, rfl⟩
        have hcl : wr.cell? ⟨g4, t + 2, none⟩ = some (.int .u8 (x.toNat : Int)) := by
          have := ho.out.cell (i := t + 2) (by rw [hb]; omega)
          rw [← hx] at this; exact this
        have hfz := ho.out.free (t + 2)
        have hgl := lt_of_cell hcl
        have hxr := bits_xor8 x b2
        have hix : ∀ w : World, (Instr.index 27 (.agg #[.int .u8 (b0.toNat : Int), .int .u8 (b1.toNat : Int), .int .u8 (b2.toNat : Int), .int .u8 (b3.toNat : Int)]) (.int .i64 2)).run Tryd.prog w = .ok (.int .u8 (b2.toNat : Int)) w := fun _ => by kernel_rfl
        have HXE := Lib.hid hx; clear hx
        have HLB := Lib.hid hb; clear hb
        have HXQ := Lib.hid hxr; clear hxr
        go_wp2_with fail
        go_roundw
        case rel => exact ⟨3, by go_num, by omega, Lib.hid (by
          rw [HXQ.out]
          have h := ho.out.set (t + 2) (x ^^^ b2)
          rw [HXE.out] at h ⊢
          exact h), Lib.hid (show Ext w3 _ from Below.setCell hxw.out (show w3.heap.size ≤ g4 from hg4) _)⟩
        case measure => simp [intOf]
      · have hb : (spoilK D0 t b0 b1 b2 b3 3).length = n := by rw [spoilK_len, HN.out]
        obtain ⟨x, hx⟩ : ∃ x, x = (spoilK D0 t b0 b1 b2 b3 3).getD (t + 3) 0 := ⟨_, rfl⟩
        have hcl : wr.cell? ⟨g4, t + 3, none⟩ = some (.int .u8 (x.toNat : Int)) := by
          have := ho.out.cell (i := t + 3) (by rw [hb]; omega)
          rw [← hx] at this; exact this
        have hfz := ho.out.free (t + 3)
        have hgl := lt_of_cell hcl
        have hxr := bits_xor8 x b3
        have hix : ∀ w : World, (Instr.index 27 (.agg #[.int .u8 (b0.toNat : Int), .int .u8 (b1.toNat : Int), .int .u8 (b2.toNat : Int), .int .u8 (b3.toNat : Int)]) (.int .i64 3)).run Tryd.prog w = .ok (.int .u8 (b3.toNat : Int)) w := fun _ => by kernel_rfl
        have HXE := Lib.hid hx; clear hx
        have HLB := Lib.hid hb; clear hb
        have HXQ := Lib.hid hxr; clear hxr
        go_wp2_with fail
        go_roundw
        case rel => exact ⟨4, by go_num, by omega, Lib.hid (by
          rw [HXQ.out]
          have h := ho.out.set (t + 3) (x ^^^ b3)
          rw [HXE.out] at h ⊢
          exact h), Lib.hid (show Ext w3 _ from Below.setCell hxw.out (show w3.heap.size ≤ g4 from hg4) _)⟩
        case measure => simp [intOf]
    · have h4 : k = 4 := by omega
      subst h4
      have hl4 : (spoilK D0 t b0 b1 b2 b3 4).length = n := by rw [spoilK_len, HN.out]
      have hsp := HSP.out t (by rw [← HN.out]; exact ht4)
      have e4 := setX_four t D0 b0 b1 b2 b3 (by rw [← HN.out]; exact ht4)
      rw [← e4] at hsp
      clear e4
      by_cases hz : b0 = 0 ∧ b1 = 0 ∧ b2 = 0 ∧ b3 = 0
      · obtain ⟨rfl, rfl, rfl, rfl⟩ := hz
        have hEQ4 : ∀ w : World, (Op.equalIn 10000 27 (.agg #[.int .u8 0, .int .u8 0, .int .u8 0, .int .u8 0]) (.agg #[.int .u8 0, .int .u8 0, .int .u8 0, .int .u8 0])).run Tryd.prog w = .ok true w := fun w => eq_four 0 0 0 0 w
        have hc : (readP (spoilK D0 t 0 0 0 0 4)).2 = 0 := hsp.1.2 ⟨rfl, rfl, rfl, rfl⟩
        have hrd := read_code (some ⟨g4, 0, none⟩) c4 n _ wr (HR.1.out.ext (HX3.out.trans hxw.out)) ho.out.bytes.1 ho.out.bytes.2 hl4 (by omega)
        rw [hc] at hrd
        have hrd2 := fun W hE => read_code a3 c3 n D0 W hE
        rw [HBK.out] at hrd2
        have HRD := Lib.hid hrd; clear hrd hc hsp hl4
        have HRD2 := Lib.hid hrd2; clear hrd2
        go_wp2_with fail
        refine HRD.out.mono ?_
        rintro e w6 ⟨s1, s2, an6, ac6, af6, au6, ln6, lc6, lf6, lu6, cn6, cc6, cf6, cu6, rfl, hx6⟩
        clear HRD
        go_upto_region 16 with (fail)
        have hx7 : Ext w6 (w6.alloc (.cells #[.string s1, .string s2, .slice an6 ln6 cn6, .slice ac6 lc6 cc6, .slice af6 lf6 cf6, .slice au6 lu6 cu6] 26)) := Ext.alloc _ _
        generalize w6.alloc (.cells #[.string s1, .string s2, .slice an6 ln6 cn6, .slice ac6 lc6 cc6, .slice af6 lf6 cf6, .slice au6 lu6 cu6] 26) = w7 at hx7 ⊢
        have X7 := Lib.hid ((hxw.out.trans hx6).trans hx7); clear hx6 hx7
        go_wp2_with fail
        refine (HRD2.out w7 (HR.1.out.ext (HX3.out.trans X7.out)) (HB3.out.1.ext X7.out) HB3.out.2 HN.out.symm (by omega)).mono ?_
        rintro e w8 ⟨s1', s2', an8, ac8, af8, au8, ln8, lc8, lf8, lu8, cn8, cc8, cf8, cu8, rfl, hx8⟩
        clear HRD2
        go_upto_region 17 with (fail)
        have hx9 : Ext w8 (w8.alloc (.cells #[.string s1', .string s2', .slice an8 ln8 cn8, .slice ac8 lc8 cc8, .slice af8 lf8 cf8, .slice au8 lu8 cu8] 26)) := Ext.alloc _ _
        generalize w8.alloc (.cells #[.string s1', .string s2', .slice an8 ln8 cn8, .slice ac8 lc8 cc8, .slice af8 lf8 cf8, .slice au8 lu8 cu8] 26) = w9 at hx9 ⊢
        have X9 := Lib.hid ((X7.out.trans hx8).trans hx9); clear hx8 hx9
        have hq9 := X9.out.heap HQ3.out
        have q0 := blk_cell hq9 0 _ rfl
        have q1 := blk_cell hq9 1 _ rfl
        have q2 := blk_cell hq9 2 _ rfl
        have q3 := blk_cell hq9 3 _ rfl
        clear hq9
        go_wp2_with fail
        rw [HQ.out]
        exact ⟨rfl, HX3.out.trans X9.out⟩
      · have hEQ4 : ∀ w : World, (Op.equalIn 10000 27 (.agg #[.int .u8 (b0.toNat : Int), .int .u8 (b1.toNat : Int), .int .u8 (b2.toNat : Int), .int .u8 (b3.toNat : Int)]) (.agg #[.int .u8 0, .int .u8 0, .int .u8 0, .int .u8 0])).run Tryd.prog w = .ok false w := fun w => by rw [eq_four, four_false (four_ne hz)]
        have hc : (readP (spoilK D0 t b0 b1 b2 b3 4)).2 = 5 := hsp.2.resolve_left (fun h => hz (hsp.1.1 h))
        have hrd := read_code (some ⟨g4, 0, none⟩) c4 n _ wr (HR.1.out.ext (HX3.out.trans hxw.out)) ho.out.bytes.1 ho.out.bytes.2 hl4 (by omega)
        rw [hc] at hrd
        have hrd2 := fun W hE => read_code a3 c3 n D0 W hE
        rw [HBK.out] at hrd2
        have HRD := Lib.hid hrd; clear hrd hc hsp hl4 hz
        have HRD2 := Lib.hid hrd2; clear hrd2
        go_wp2_with fail
        refine HRD.out.mono ?_
        rintro e w6 ⟨s1, s2, an6, ac6, af6, au6, ln6, lc6, lf6, lu6, cn6, cc6, cf6, cu6, rfl, hx6⟩
        clear HRD
        go_upto_region 16 with (fail)
        have hx7 : Ext w6 (w6.alloc (.cells #[.string s1, .string s2, .slice an6 ln6 cn6, .slice ac6 lc6 cc6, .slice af6 lf6 cf6, .slice au6 lu6 cu6] 26)) := Ext.alloc _ _
        generalize w6.alloc (.cells #[.string s1, .string s2, .slice an6 ln6 cn6, .slice ac6 lc6 cc6, .slice af6 lf6 cf6, .slice au6 lu6 cu6] 26) = w7 at hx7 ⊢
        have X7 := Lib.hid ((hxw.out.trans hx6).trans hx7); clear hx6 hx7
        go_wp2_with fail
        refine (HRD2.out w7 (HR.1.out.ext (HX3.out.trans X7.out)) (HB3.out.1.ext X7.out) HB3.out.2 HN.out.symm (by omega)).mono ?_
        rintro e w8 ⟨s1', s2', an8, ac8, af8, au8, ln8, lc8, lf8, lu8, cn8, cc8, cf8, cu8, rfl, hx8⟩
        clear HRD2
        go_upto_region 17 with (fail)
        have hx9 : Ext w8 (w8.alloc (.cells #[.string s1', .string s2', .slice an8 ln8 cn8, .slice ac8 lc8 cc8, .slice af8 lf8 cf8, .slice au8 lu8 cu8] 26)) := Ext.alloc _ _
        generalize w8.alloc (.cells #[.string s1', .string s2', .slice an8 ln8 cn8, .slice ac8 lc8 cc8, .slice af8 lf8 cf8, .slice au8 lu8 cu8] 26) = w9 at hx9 ⊢
        have X9 := Lib.hid ((X7.out.trans hx8).trans hx9); clear hx8 hx9
        have hq9 := X9.out.heap HQ3.out
        have q0 := blk_cell hq9 0 _ rfl
        have q1 := blk_cell hq9 1 _ rfl
        have q2 := blk_cell hq9 2 _ rfl
        have q3 := blk_cell hq9 3 _ rfl
        clear hq9
        go_wp2_with fail
        rw [HQ.out]
        exact ⟨rfl, HX3.out.trans X9.out⟩
theorem arc_spoils (p : PkgD) (A : PkgA) (at_ : Int) (b0 b1 b2 b3 : UInt8) (w : World) (hE : EnvN w) (hM : PkgM w p A) (hC : PkgC p A) :
    Calls Tryd.prog 3 #[pkgV p A, .int .i64 at_, .agg #[.int .u8 (b0.toNat : Int), .int .u8 (b1.toNat : Int), .int .u8 (b2.toNat : Int), .int .u8 (b3.toNat : Int)]] w fun e w' => e = .returned (.bool true) ∧ Ext w w' := by
  obtain ⟨an, ac, af, au, cn, cc, cf, cu⟩ := A
  cases hs : smallB p
  · exact spoils_great p an ac af au cn cc cf cu at_ b0 b1 b2 b3 w hE hM hC.2.2.1 hs
  · cases hr : rightP p
    · exact spoils_wrong p an ac af au cn cc cf cu at_ b0 b1 b2 b3 w hE hM hC.2.2.1 hs hr
    · exact spoils_right p an ac af au cn cc cf cu at_ b0 b1 b2 b3 w hE hM hC.2.2.1 hs hr
end Go.Proofs.YtpfcofjianmeaaaDoor
