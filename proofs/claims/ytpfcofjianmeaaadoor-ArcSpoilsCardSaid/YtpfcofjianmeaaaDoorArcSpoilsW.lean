/- Four bytes in a row are turned: plain, and in memory. -/
import Derived.Test.YtpfcofjianmeaaaDoorArcAlive
import Derived.Test.YtpfcofjianmeaaaDoorArcSmall
import Derived.Outline
namespace Go.Proofs.YtpfcofjianmeaaaDoor
open Go.RowKit
/-! ### Plain -/
def setX (D : By) (i : Nat) (b : UInt8) : By := D.set i (D.getD i 0 ^^^ b)
theorem setX_len (D : By) (i : Nat) (b : UInt8) : (setX D i b).length = D.length := by simp [setX]
theorem setX_cons (x : UInt8) (D : By) (i : Nat) (b : UInt8) : setX (x :: D) (i + 1) b = x :: setX D i b := by simp [setX]
theorem xorL_zero : ∀ (l : By) (n : Nat), l.length = n → xorL l (List.replicate n 0) = l
  | [], n, _ => by cases n <;> rfl
  | x :: l, n, h => by
    cases n with
    | zero => simp at h
    | succ n => rw [List.replicate_succ]; simp only [xorL]; rw [xorL_zero l n (by simpa using h)]; simp
theorem setX_four : ∀ (t : Nat) (D : By) (a b c d : UInt8), t + 4 ≤ D.length → setX (setX (setX (setX D t a) (t + 1) b) (t + 2) c) (t + 3) d = xorL D (List.replicate t 0 ++ ([a, b, c, d] ++ List.replicate (D.length - t - 4) 0))
  | 0, D, a, b, c, d, h => by
    match D, h with
    | x :: y :: z :: u :: D, _ =>
      simp [setX, xorL]
      rw [xorL_zero _ _ rfl]
  | t + 1, D, a, b, c, d, h => by
    match D, h with
    | x :: D, h =>
      have ih := setX_four t D a b c d (by simp at h; omega)
      rw [setX_cons, show t + 1 + 1 = (t + 1) + 1 from rfl, setX_cons, show t + 1 + 2 = (t + 2) + 1 by omega, setX_cons, show t + 1 + 3 = (t + 3) + 1 by omega, setX_cons, ih, List.replicate_succ]
      simp [xorL]
/-- Behind k of the four. -/
def spoilK (D : By) (t : Nat) (a b c d : UInt8) : Nat → By
  | 0 => D
  | 1 => setX D t a
  | 2 => setX (setX D t a) (t + 1) b
  | 3 => setX (setX (setX D t a) (t + 1) b) (t + 2) c
  | _ => setX (setX (setX (setX D t a) (t + 1) b) (t + 2) c) (t + 3) d
theorem spoilK_len (D : By) (t : Nat) (a b c d : UInt8) (k : Nat) : (spoilK D t a b c d k).length = D.length := by
  match k with
  | 0 => rfl
  | 1 => simp [spoilK, setX_len]
  | 2 => simp [spoilK, setX_len]
  | 3 => simp [spoilK, setX_len]
  | k + 4 => simp [spoilK, setX_len]
/-! ### Numbers -/
theorem and16 (x : Int) : ∃ y : Nat, y ≤ 65535 ∧ bits BinOp.and IntKind.i64 x 65535 = (y : Int) := by
  refine ⟨(BitVec.ofInt 64 x &&& BitVec.ofInt 64 65535).toNat, ?_, ?_⟩
  · rw [BitVec.toNat_and]
    exact Nat.le_trans Nat.and_le_right (by decide)
  · show IntKind.i64.wrap ((BitVec.ofInt 64 x &&& BitVec.ofInt 64 65535).toNat : Int) = _
    have : (BitVec.ofInt 64 x &&& BitVec.ofInt 64 65535).toNat ≤ 65535 := by
      rw [BitVec.toNat_and]
      exact Nat.le_trans Nat.and_le_right (by decide)
    exact IntWalk.i64_in _ (by omega)
theorem bits_xor8 (a b : UInt8) : bits BinOp.xor IntKind.u8 (a.toNat : Int) (b.toNat : Int) = ((a ^^^ b).toNat : Int) := by
  have e : ∀ c : UInt8, BitVec.ofInt 8 (c.toNat : Int) = c.toBitVec := fun c => by
    rw [BitVec.ofInt_natCast]; apply BitVec.eq_of_toNat_eq; simp
  show IntKind.u8.wrap ((BitVec.ofInt 8 (a.toNat : Int) ^^^ BitVec.ofInt 8 (b.toNat : Int)).toNat : Int) = _
  rw [e, e]
  have h : (a.toBitVec ^^^ b.toBitVec).toNat = (a ^^^ b).toNat := rfl
  rw [h]
  exact IntWalk.u8_in _ (by have := (a ^^^ b).toNat_lt; omega)
/-! ### In memory -/
theorem OwnB.set {w : World} {base g cap : Nat} {D : By} (h : OwnB w base (some ⟨g, 0, none⟩) cap D) (i : Nat) (b : UInt8) :
    OwnB (w.setCell ⟨g, i, none⟩ (.int .u8 (b.toNat : Int))) base (some ⟨g, 0, none⟩) cap (D.set i b) := by
  refine ⟨by simp, ?_⟩
  rcases h.2 with ⟨h1, _⟩ | ⟨g', c, cur, h1, hb, hg, hn, hm, hs, ht⟩
  · cases h1
  · simp only [Value.slice.injEq, Option.some.injEq, Addr.mk.injEq, and_true] at h1
    obtain ⟨rfl, _, rfl⟩ := h1
    refine Or.inr ⟨g, cap, cur.setIfInBounds i (.int .u8 (b.toNat : Int)), by simp, hb, setCell_row hg _, by simpa using hn, hm, by simpa using hs, ?_⟩
    rw [List.length_set, Array.toList_setIfInBounds, List.take_set, ht, List.map_set]
theorem OwnB.at_some {w : World} {base : Nat} {a : Option Addr} {cap : Nat} {D : By} (h : OwnB w base a cap D) (hD : D ≠ []) : ∃ g, a = some ⟨g, 0, none⟩ ∧ base ≤ g := by
  rcases h.2 with ⟨_, h2⟩ | ⟨g, c, cur, h1, hb, _⟩
  · exact absurd (List.eq_nil_of_length_eq_zero h2) hD
  · simp only [Value.slice.injEq] at h1
    exact ⟨g, h1.1, hb⟩
theorem OwnB.cell {w : World} {base g cap : Nat} {D : By} (h : OwnB w base (some ⟨g, 0, none⟩) cap D) {i : Nat} (hi : i < D.length) : w.cell? ⟨g, i, none⟩ = some (.int .u8 ((D.getD i 0).toNat : Int)) := by
  rw [World.ownsRow.cellAt h i (by omega)]
  simp [hi]
theorem OwnB.free {w : World} {base g cap : Nat} {D : By} (h : OwnB w base (some ⟨g, 0, none⟩) cap D) (i : Nat) : w.frozen? ⟨g, i, none⟩ = false := by
  rcases h.2 with ⟨h1, _⟩ | ⟨g', c, cur, h1, hb, hg, hn, hm, hs, ht⟩
  · cases h1
  · simp only [Value.slice.injEq, Option.some.injEq, Addr.mk.injEq, and_true] at h1
    obtain ⟨rfl, _, rfl⟩ := h1
    exact blk_free hg i
theorem OwnB.empty (w : World) (base : Nat) (hb : base ≤ w.heap.size) : OwnB (w.alloc (.cells #[] 5)) base (some ⟨w.heap.size, 0, none⟩) 0 [] :=
  ⟨rfl, Or.inr ⟨w.heap.size, 0, #[], rfl, hb, heap_alloc_new w _, Nat.le_refl _, by unfold maxLen; omega, rfl, rfl⟩⟩
/-- The sum's word on a package that is spoilt. -/
theorem small_two (p : PkgD) (A : PkgA) (w : World) (hM : PkgM w p A) (h : smallB p = false) : Calls Tryd.prog 5 #[pkgV p A] w fun e w' => e = .returned (.int .i64 0) ∧ Ext w w' :=
  (law_small p A w hM).mono fun _ _ k => by unfold SmallR smallI at k; rw [h] at k; exact k
theorem small_one (p : PkgD) (A : PkgA) (w : World) (hM : PkgM w p A) (h : smallB p = true) : Calls Tryd.prog 5 #[pkgV p A] w fun e w' => e = .returned (.int .i64 1) ∧ Ext w w' :=
  (law_small p A w hM).mono fun _ _ k => by unfold SmallR smallI at k; rw [h] at k; exact k
/-- What Read's number is, of a package that was spoilt. -/
theorem read_code (a : Option Addr) (c n : Nat) (b : By) (w : World) (hE : EnvN w) (hb : Bytes w a b) (hc : b.length ≤ c) (hl : b.length = n) (hn : n ≤ 100000) :
    Calls Tryd.prog 7 #[.slice a n c] w fun e w' => ∃ s1 s2 an ac af au ln lc lf lu cn cc cf cu, e = .returned (.tuple #[.agg #[.string s1, .string s2, .slice an ln cn, .slice ac lc cc, .slice af lf cf, .slice au lu cu], .int .i64 ((readP b).2 : Nat)]) ∧ Ext w w' := by
  subst hl
  refine (arc_read a c b w hE hb hc hn).mono ?_
  rintro e w' ⟨⟨an, ac, af, au, cn, cc, cf, cu⟩, rfl, hM, _, hx⟩
  exact ⟨_, _, an, ac, af, au, _, _, _, _, cn, cc, cf, cu, rfl, hx⟩
attribute [local go_sem ↓] Go.wp_at_zero Go.wp_at_succ
set_option maxRecDepth 100000 in
set_option maxHeartbeats 3200000 in
theorem spoils_great (p : PkgD) (an ac af au : Option Addr) (cn cc cf cu : Nat) (at_ : Int) (b0 b1 b2 b3 : UInt8) (w : World) (hE : EnvN w) (hM : PkgM w p ⟨an, ac, af, au, cn, cc, cf, cu⟩) (hC : p.files.length ≤ cf) (hs : smallB p = false) :
    Calls Tryd.prog 3 #[.agg #[.string (bs p.name), .string (bs p.ver), .slice an p.needs.length cn, .slice ac p.conf.length cc, .slice af p.files.length cf, .slice au p.units.length cu], .int .i64 at_, .agg #[.int .u8 (b0.toNat : Int), .int .u8 (b1.toNat : Int), .int .u8 (b2.toNat : Int), .int .u8 (b3.toNat : Int)]] w fun e w' => e = .returned (.bool true) ∧ Ext w w' := by
  obtain ⟨Q, hQ⟩ : ∃ Q : Ending → World → Prop, Q = fun e w' => e = .returned (.bool true) ∧ Ext w w' := ⟨_, rfl⟩
  rw [← hQ]
  have HQ := Lib.hid hQ; clear hQ
  have HE := Lib.hid hE; clear hE
  have HM := Lib.hid hM; clear hM
  have HC := Lib.hid hC; clear hC
  have hsm := fun W hW => small_two p ⟨an, ac, af, au, cn, cc, cf, cu⟩ W hW hs
  rw [show pkgV p ⟨an, ac, af, au, cn, cc, cf, cu⟩ = .agg #[.string (bs p.name), .string (bs p.ver), .slice an p.needs.length cn, .slice ac p.conf.length cc, .slice af p.files.length cf, .slice au p.units.length cu] from rfl] at hsm
  have HS2 := Lib.hid hsm; clear hsm hs
  have hx0 : Ext w ((w.alloc (.cells #[.string (bs p.name), .string (bs p.ver), .slice an p.needs.length cn, .slice ac p.conf.length cc, .slice af p.files.length cf, .slice au p.units.length cu] 26)).alloc (.cells #[.int .u8 (b0.toNat : Int), .int .u8 (b1.toNat : Int), .int .u8 (b2.toNat : Int), .int .u8 (b3.toNat : Int)] 27)) := (Ext.alloc _ _).trans (Ext.alloc _ _)
  have hp0 := (Ext.alloc _ (.cells #[.int .u8 (b0.toNat : Int), .int .u8 (b1.toNat : Int), .int .u8 (b2.toNat : Int), .int .u8 (b3.toNat : Int)] 27)).heap (heap_alloc_new w (.cells #[.string (bs p.name), .string (bs p.ver), .slice an p.needs.length cn, .slice ac p.conf.length cc, .slice af p.files.length cf, .slice au p.units.length cu] 26))
  have hq0 := heap_alloc_new (w.alloc (.cells #[.string (bs p.name), .string (bs p.ver), .slice an p.needs.length cn, .slice ac p.conf.length cc, .slice af p.files.length cf, .slice au p.units.length cu] 26)) (.cells #[.int .u8 (b0.toNat : Int), .int .u8 (b1.toNat : Int), .int .u8 (b2.toNat : Int), .int .u8 (b3.toNat : Int)] 27)
  rw [World.size_alloc] at hq0
  have HX0 := Lib.hid hx0; clear hx0
  have HP0 := Lib.hid hp0; clear hp0
  have HQ0 := Lib.hid hq0; clear hq0
  go_enter Tryd.func3, Tryd.ntmps3
  go_upto_region 1 with (fail)
  generalize (w.alloc (.cells #[.string (bs p.name), .string (bs p.ver), .slice an p.needs.length cn, .slice ac p.conf.length cc, .slice af p.files.length cf, .slice au p.units.length cu] 26)).alloc (.cells #[.int .u8 (b0.toNat : Int), .int .u8 (b1.toNat : Int), .int .u8 (b2.toNat : Int), .int .u8 (b3.toNat : Int)] 27) = w0 at HX0 HP0 HQ0 ⊢
  go_wp2_with fail
  refine (alive10 w0 (HE.out.ext HX0.out)).mono ?_
  rintro e w1 ⟨rfl, hx1⟩
  have HX1 := Lib.hid (HX0.out.trans hx1)
  have hp1 := hx1.heap HP0.out
  have HQ1 := Lib.hid (hx1.heap HQ0.out)
  clear HX0 HP0 HQ0 hx1
  have p0 := blk_cell hp1 0 _ rfl
  have p1 := blk_cell hp1 1 _ rfl
  have p2 := blk_cell hp1 2 _ rfl
  have p3 := blk_cell hp1 3 _ rfl
  have p4 := blk_cell hp1 4 _ rfl
  have p5 := blk_cell hp1 5 _ rfl
  have HP1 := Lib.hid hp1; clear hp1
  go_wp2_with fail
  refine (HS2.out w1 (HM.out.ext HX1.out)).mono ?_
  rintro e w2 ⟨rfl, hx2⟩
  have HX2 := Lib.hid (HX1.out.trans hx2)
  have hp2 := hx2.heap HP1.out
  have HQ2 := Lib.hid (hx2.heap HQ1.out)
  clear HX1 HP1 HQ1 hx2 p0 p1 p2 p3 p4 p5
  have p0 := blk_cell hp2 0 _ rfl
  have p1 := blk_cell hp2 1 _ rfl
  have p2 := blk_cell hp2 2 _ rfl
  have p3 := blk_cell hp2 3 _ rfl
  have p4 := blk_cell hp2 4 _ rfl
  have p5 := blk_cell hp2 5 _ rfl
  have HP2 := Lib.hid hp2; clear hp2
  go_wp2_with fail
  rw [HQ.out]
  exact ⟨rfl, HX2.out⟩
set_option maxRecDepth 100000 in
set_option maxHeartbeats 3200000 in
theorem spoils_wrong (p : PkgD) (an ac af au : Option Addr) (cn cc cf cu : Nat) (at_ : Int) (b0 b1 b2 b3 : UInt8) (w : World) (hE : EnvN w) (hM : PkgM w p ⟨an, ac, af, au, cn, cc, cf, cu⟩) (hC : p.files.length ≤ cf) (hs : smallB p = true) (hr : rightP p = false) :
    Calls Tryd.prog 3 #[.agg #[.string (bs p.name), .string (bs p.ver), .slice an p.needs.length cn, .slice ac p.conf.length cc, .slice af p.files.length cf, .slice au p.units.length cu], .int .i64 at_, .agg #[.int .u8 (b0.toNat : Int), .int .u8 (b1.toNat : Int), .int .u8 (b2.toNat : Int), .int .u8 (b3.toNat : Int)]] w fun e w' => e = .returned (.bool true) ∧ Ext w w' := by
  obtain ⟨Q, hQ⟩ : ∃ Q : Ending → World → Prop, Q = fun e w' => e = .returned (.bool true) ∧ Ext w w' := ⟨_, rfl⟩
  rw [← hQ]
  have HQ := Lib.hid hQ; clear hQ
  have HE := Lib.hid hE; clear hE
  have HM := Lib.hid hM; clear hM
  have HC := Lib.hid hC; clear hC
  have hsm := fun W hW => small_one p ⟨an, ac, af, au, cn, cc, cf, cu⟩ W hW hs
  have hwr := fun W hE hM => arc_write_no p ⟨an, ac, af, au, cn, cc, cf, cu⟩ W hE hM (SmallP.fit (smallB_fit hs)) HC.out hr
  rw [show pkgV p ⟨an, ac, af, au, cn, cc, cf, cu⟩ = .agg #[.string (bs p.name), .string (bs p.ver), .slice an p.needs.length cn, .slice ac p.conf.length cc, .slice af p.files.length cf, .slice au p.units.length cu] from rfl] at hsm hwr
  have HS1 := Lib.hid hsm; clear hsm hs hr
  have HWN := Lib.hid hwr; clear hwr
  have hx0 : Ext w ((w.alloc (.cells #[.string (bs p.name), .string (bs p.ver), .slice an p.needs.length cn, .slice ac p.conf.length cc, .slice af p.files.length cf, .slice au p.units.length cu] 26)).alloc (.cells #[.int .u8 (b0.toNat : Int), .int .u8 (b1.toNat : Int), .int .u8 (b2.toNat : Int), .int .u8 (b3.toNat : Int)] 27)) := (Ext.alloc _ _).trans (Ext.alloc _ _)
  have hp0 := (Ext.alloc _ (.cells #[.int .u8 (b0.toNat : Int), .int .u8 (b1.toNat : Int), .int .u8 (b2.toNat : Int), .int .u8 (b3.toNat : Int)] 27)).heap (heap_alloc_new w (.cells #[.string (bs p.name), .string (bs p.ver), .slice an p.needs.length cn, .slice ac p.conf.length cc, .slice af p.files.length cf, .slice au p.units.length cu] 26))
  have hq0 := heap_alloc_new (w.alloc (.cells #[.string (bs p.name), .string (bs p.ver), .slice an p.needs.length cn, .slice ac p.conf.length cc, .slice af p.files.length cf, .slice au p.units.length cu] 26)) (.cells #[.int .u8 (b0.toNat : Int), .int .u8 (b1.toNat : Int), .int .u8 (b2.toNat : Int), .int .u8 (b3.toNat : Int)] 27)
  rw [World.size_alloc] at hq0
  have HX0 := Lib.hid hx0; clear hx0
  have HP0 := Lib.hid hp0; clear hp0
  have HQ0 := Lib.hid hq0; clear hq0
  go_enter Tryd.func3, Tryd.ntmps3
  go_upto_region 1 with (fail)
  generalize (w.alloc (.cells #[.string (bs p.name), .string (bs p.ver), .slice an p.needs.length cn, .slice ac p.conf.length cc, .slice af p.files.length cf, .slice au p.units.length cu] 26)).alloc (.cells #[.int .u8 (b0.toNat : Int), .int .u8 (b1.toNat : Int), .int .u8 (b2.toNat : Int), .int .u8 (b3.toNat : Int)] 27) = w0 at HX0 HP0 HQ0 ⊢
  go_wp2_with fail
  refine (alive10 w0 (HE.out.ext HX0.out)).mono ?_
  rintro e w1 ⟨rfl, hx1⟩
  have HX1 := Lib.hid (HX0.out.trans hx1)
  have hp1 := hx1.heap HP0.out
  have HQ1 := Lib.hid (hx1.heap HQ0.out)
  clear HX0 HP0 HQ0 hx1
  have p0 := blk_cell hp1 0 _ rfl
  have p1 := blk_cell hp1 1 _ rfl
  have p2 := blk_cell hp1 2 _ rfl
  have p3 := blk_cell hp1 3 _ rfl
  have p4 := blk_cell hp1 4 _ rfl
  have p5 := blk_cell hp1 5 _ rfl
  have HP1 := Lib.hid hp1; clear hp1
  go_wp2_with fail
  refine (HS1.out w1 (HM.out.ext HX1.out)).mono ?_
  rintro e w2 ⟨rfl, hx2⟩
  have HX2 := Lib.hid (HX1.out.trans hx2)
  have hp2 := hx2.heap HP1.out
  have HQ2 := Lib.hid (hx2.heap HQ1.out)
  clear HX1 HP1 HQ1 hx2 p0 p1 p2 p3 p4 p5
  have p0 := blk_cell hp2 0 _ rfl
  have p1 := blk_cell hp2 1 _ rfl
  have p2 := blk_cell hp2 2 _ rfl
  have p3 := blk_cell hp2 3 _ rfl
  have p4 := blk_cell hp2 4 _ rfl
  have p5 := blk_cell hp2 5 _ rfl
  have HP2 := Lib.hid hp2; clear hp2
  go_wp2_with fail
  refine (HWN.out w2 (HE.out.ext HX2.out) (HM.out.ext HX2.out)).mono ?_
  rintro e w3 ⟨rfl, hx3⟩
  go_wp2_with fail
  rw [HQ.out]
  exact ⟨rfl, HX2.out.trans hx3⟩
end Go.Proofs.YtpfcofjianmeaaaDoor
