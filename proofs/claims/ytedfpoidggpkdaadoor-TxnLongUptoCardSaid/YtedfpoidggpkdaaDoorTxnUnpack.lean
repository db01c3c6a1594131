/- txn.Unpack: the upgrade that bytes are. -/
import Derived.Test.YtedfpoidggpkdaaDoorTxnRight
import Derived.Deep.RegionLaw
import Derived.Deep.LoopGhost
namespace Go.Proofs.YtedfpoidggpkdaaDoor
open Go.RowKit
/-- Moves as cells. -/
def moveV (L : List (Int × List UInt8)) : List Value := L.flatMap fun m => [.int .i64 m.1, .string (bs m.2)]
def OwnM (w : World) (base : Nat) (a : Option Addr) (cap : Nat) (D : List (Int × List UInt8)) : Prop := w.ownsRow base 47 2 (.slice a D.length cap) D.length (moveV D)
theorem info_move : (Tryd.prog.info? 47).map (fun i => (i.zero, i.size, i.bytes)) = some (some (.agg #[.int .i64 0, .string ⟨#[]⟩]), 2, 24) := by kernel_rfl
/-- What Unpack gives. -/
def UnpR (o : Option TxnD) (w : World) (e : Ending) (w' : World) : Prop :=
  match o with
  | none => e = .returned (.tuple #[.agg #[.int .i64 0, .int .i64 0, .slice none 0 0, .slice none 0 0, .slice none 0 0], .int .i64 4]) ∧ Ext w w'
  | some t => ∃ am ac ag cm cc cg, e = .returned (.tuple #[txnV t am ac ag cm cc cg, .int .i64 0]) ∧ Moves w' am t.moves ∧ Strs w' ac t.come ∧ Strs w' ag t.gone ∧ Ext w w'
theorem set5 {w : World} {R : Nat} {t : TypeId} {a0 a1 a2 a3 a4 : Value} (hg : w.heap[R]? = some (.cells #[a0, a1, a2, a3, a4] t (0, 0))) (v0 v1 v2 v3 v4 : Value) :
    (((((w.setCell ⟨R, 0, none⟩ v0).setCell ⟨R, 1, none⟩ v1).setCell ⟨R, 2, none⟩ v2).setCell ⟨R, 3, none⟩ v3).setCell ⟨R, 4, none⟩ v4).heap[R]? = some (.cells #[v0, v1, v2, v3, v4] t (0, 0)) ∧
    But R w (((((w.setCell ⟨R, 0, none⟩ v0).setCell ⟨R, 1, none⟩ v1).setCell ⟨R, 2, none⟩ v2).setCell ⟨R, 3, none⟩ v3).setCell ⟨R, 4, none⟩ v4) := by
  refine ⟨?_, (((((But.refl R w).setCell 0 _).setCell 1 _).setCell 2 _).setCell 3 _).setCell 4 _⟩
  rw [setCell_row (setCell_row (setCell_row (setCell_row (setCell_row hg _) _) _) _) _]
  rfl
theorem OwnM.moves {w : World} {base : Nat} {a : Option Addr} {cap : Nat} {D : List (Int × List UInt8)} (h : OwnM w base a cap D) : Moves w a D := by
  rcases h.2 with ⟨_, h2⟩ | ⟨g, c, cur, h1, _, hg, hn, hm, hs, ht⟩
  · exact Or.inl (List.eq_nil_of_length_eq_zero h2)
  · simp only [Value.slice.injEq] at h1
    obtain ⟨rfl, _, rfl⟩ := h1
    have hat : ∀ (L : List (Int × List UInt8)) (i : Nat), i < L.length → (moveV L)[i * 2]? = some (.int .i64 (L.getD i (0, [])).1) ∧ (moveV L)[i * 2 + 1]? = some (.string (bs (L.getD i (0, [])).2)) := by
      intro L
      induction L with
      | nil => intro i hi; simp at hi
      | cons m L ih =>
        intro i hi
        cases i with
        | zero => exact ⟨rfl, rfl⟩
        | succ i =>
          have := ih i (by simp at hi; omega)
          have e : moveV (m :: L) = .int .i64 m.1 :: .string (bs m.2) :: moveV L := rfl
          have e1 : (i + 1) * 2 = i * 2 + 1 + 1 := by omega
          rw [e, e1]
          simpa using this
    have hlen : (moveV D).length = D.length * 2 := h.1
    refine Or.inr ⟨g, 0, rfl, (Array.getElem?_eq_some_iff.1 hg).1, fun i hi => ?_⟩
    have h3 := hat D i hi
    rw [← ht] at h3
    have e0 : ∀ (j : Nat) (v : Value), (cur.toList.take (D.length * 2))[j]? = some v → cur[j]? = some v := by
      intro j v hj
      rw [List.getElem?_take] at hj
      split at hj
      · simpa using hj
      · cases hj
    refine ⟨?_, ?_⟩
    · rw [Nat.zero_add]; exact blk_cell hg _ _ (e0 _ _ h3.1)
    · rw [Nat.zero_add]; exact blk_cell hg _ _ (e0 _ _ h3.2)
set_option maxRecDepth 100000 in
set_option maxHeartbeats 6400000 in
theorem txn_unpack (a : Option Addr) (c : Nat) (b : List UInt8) (w : World) (hE : Env w) (hb : Bytes w a b) (hl : b.length ≤ 65536) :
    Calls Tryd.prog 26 #[.slice a b.length c] w (UnpR (unpackT b) w) := by
  have HB := Lib.hid hb; clear hb
  obtain ⟨s1, h1⟩ : ∃ s1, s1 = rNum 4 (b, false) := ⟨_, rfl⟩
  obtain ⟨s2, h2⟩ : ∃ s2, s2 = rNum 40 s1.2 := ⟨_, rfl⟩
  obtain ⟨m, h3⟩ : ∃ m, m = rList s2.2 := ⟨_, rfl⟩
  obtain ⟨n, h4⟩ : ∃ n, n = rList m.2 := ⟨_, rfl⟩
  obtain ⟨g, h5⟩ : ∃ g, g = rList n.2 := ⟨_, rfl⟩
  have l1 : s1.2.1.length ≤ 65536 := by rw [h1]; exact Nat.le_trans (rNum_len _ _) hl
  have l2 : s2.2.1.length ≤ 65536 := by rw [h2]; exact Nat.le_trans (rNum_len _ _) l1
  have l3 : m.1.1.length ≤ 65536 ∧ m.2.1.length ≤ 65536 := by rw [h3]; have := rRaw_len 16777216 s2.2; exact ⟨Nat.le_trans this.2 l2, Nat.le_trans this.1 l2⟩
  have l4 : n.1.1.length ≤ 65536 ∧ n.2.1.length ≤ 65536 := by rw [h4]; have := rRaw_len 16777216 m.2; exact ⟨Nat.le_trans this.2 l3.2, Nat.le_trans this.1 l3.2⟩
  have l5 : g.1.1.length ≤ 65536 ∧ g.2.1.length ≤ 65536 := by rw [h5]; have := rRaw_len 16777216 n.2; exact ⟨Nat.le_trans this.2 l4.2, Nat.le_trans this.1 l4.2⟩
  obtain ⟨l3a, l3b⟩ := l3
  obtain ⟨l4a, l4b⟩ := l4
  obtain ⟨l5a, l5b⟩ := l5
  have c1 := fun S R W h => rd_num S R 4 (b, false) W h (by simp only; omega) (by omega)
  have c2 := fun S R W h => rd_num S R 40 s1.2 W h (by omega) (by omega)
  have c3 := fun S R W h => rd_list S R s2.2 W h (by omega)
  have c4 := fun S R W h => rd_list S R m.2 W h (by omega)
  have c5 := fun S R W h => rd_list S R n.2 W h (by omega)
  rw [← h1] at c1
  rw [← h2] at c2
  rw [← h3] at c3
  rw [← h4] at c4
  rw [← h5] at c5
  have HC1 := Lib.hid c1; clear c1
  have HC2 := Lib.hid c2; clear c2
  have HC3 := Lib.hid c3; clear c3
  have HC4 := Lib.hid c4; clear c4
  have HC5 := Lib.hid c5; clear c5
  have HH := Lib.hid (And.intro h1 (And.intro h2 (And.intro h3 (And.intro h4 h5)))); clear h1 h2 h3 h4 h5
  go_enter Tryd.func26, Tryd.ntmps26
  go_wp2_with fail
  refine (rec_read a c b _ (HB.out.ext (Ext.alloc _ _)) (by omega)).mono ?_
  rintro e wa ⟨R0, rfl, hR0, X0, ea⟩
  have r0 := X0.lt
  have X0 := Lib.hid X0
  have ea := Lib.hid ea
  rw [World.size_alloc] at hR0
  go_wp2_with fail
  refine (HC1.out _ _ _ X0.out).mono ?_
  rintro e wb ⟨rfl, Y0, eb⟩
  have Y0 := Lib.hid Y0
  have eb := Lib.hid eb
  go_wp2_with fail
  refine (HC2.out _ _ _ Y0.out).mono ?_
  rintro e wc ⟨rfl, Z0, ec⟩
  have Z0 := Lib.hid Z0
  have ec := Lib.hid ec
  go_wp2_with fail
  refine (HC3.out _ _ _ (Z0.out.ext (Ext.alloc _ _))).mono ?_
  rintro e wd ⟨R1, rfl, hR1, A0, A1, ed⟩
  have A0 := Lib.hid A0
  have A1 := Lib.hid A1
  have ed := Lib.hid ed
  rw [World.size_alloc] at hR1
  go_wp2_with fail
  refine (HC4.out _ _ _ A0.out).mono ?_
  rintro e we ⟨R2, rfl, hR2, B0, B2, ee⟩
  have B0 := Lib.hid B0
  have B2 := Lib.hid B2
  have ee := Lib.hid ee
  go_wp2_with fail
  refine (HC5.out _ _ _ B0.out).mono ?_
  rintro e wo ⟨R3, rfl, hR3, D0, D3, ef⟩
  have D0 := Lib.hid D0
  have D3 := Lib.hid D3
  have ef := Lib.hid ef
  go_wp2_with fail
  have q1 := A1.out.lt
  have q2 := B2.out.lt
  have q3 := D3.out.lt
  have z1 := eb.out.size
  have z2 := ec.out.size
  have z3 := ed.out.size
  rw [World.size_alloc] at z3
  have z4 := ee.out.size
  have z5 := ef.out.size
  have D1 := Lib.hid ((Rd.but B0.out (Rd.but A0.out A1.out ee.out (by omega)) ef.out (by omega)).mono (T := fun k => wc.heap.size < k ∧ k < R1) (fun k _ hk => ⟨by have := hk.1; rw [World.size_alloc] at this; omega, hk.2⟩))
  have D2 := Lib.hid ((Rd.but B0.out B2.out ef.out (by omega)).mono (T := fun k => R1 < k ∧ k < R2) (fun k _ hk => ⟨by have := hk.1; omega, hk.2⟩))
  have D3 := Lib.hid (D3.out.mono (T := fun k => R2 < k ∧ k < R3) (fun k _ hk => ⟨by have := hk.1; omega, hk.2⟩))
  have D0 := Lib.hid (D0.out.mono (T := fun k => w.heap.size < k ∧ k < R0) (fun k _ hk => ⟨by have := hk.1; rw [World.size_alloc] at this; omega, hk.2⟩))
  have kall : Keep (· ≠ R0) wc wo := ((Keep.of_ext (Ext.alloc wc _)).trans ((Keep.of_but ed.out).trans ((Keep.of_but ee.out).trans (Keep.of_but ef.out))))
  have kal2 : Keep (· ≠ R0) (w.alloc (.cells #[.int .i64 0, .int .i64 0, .slice none 0 0, .slice none 0 0, .slice none 0 0] 38)) wo := (Keep.of_ext ea.out).trans ((Keep.of_but eb.out).trans ((Keep.of_but ec.out).trans kall))
  have hBR := kal2.heap (g := w.heap.size) (by omega) (heap_alloc_new w _)
  have HBR := Lib.hid hBR; clear hBR
  have hB5 : wo.heap[wc.heap.size]? = some (.cells #[.int .i64 (s1.1 : Int), .int .i64 (s2.1 : Int), .slice none 0 0, .slice none 0 0, .slice none 0 0] 38 (0, 0)) :=
    ((Keep.of_but ed.out).trans ((Keep.of_but ee.out).trans (Keep.of_but ef.out))).heap (g := wc.heap.size) (by omega) (heap_alloc_new wc _)
  have HB5 := Lib.hid hB5; clear hB5 kall
  have HX0 := Lib.hid ((Keep.of_ext (S := (· ≠ R0)) (Ext.alloc w _)).trans kal2); clear kal2
  clear A0 A1 B0 B2 Z0 Y0 X0 ea eb ec ed ee ef HC1 HC2 HC3 HC4 HC5
  generalize hB5e : wc.heap.size = B5 at *
  clear hB5e
  go_loopg [] m.1.1.length (fun gk wr => ∃ (D : List (Int × List UInt8)) (am : Option Addr) (cm : Nat) (s : RSt), Hid (gk = s.1.length) ∧ Hid ((rEach oneMove m.1).1 = D ++ (rEach oneMove s).1 ∧ (rEach oneMove m.1).2 = (rEach oneMove s).2) ∧ Hid (D.length + s.1.length ≤ m.1.1.length) ∧
    Hid (wr.heap[B5]? = some (.cells #[.int .i64 (s1.1 : Int), .int .i64 (s2.1 : Int), .slice am D.length cm, .slice none 0 0, .slice none 0 0] 38 (0, 0))) ∧ Hid (OwnM wr wo.heap.size am cm D) ∧ Hid (Rd (fun k => B5 < k ∧ k < R1) wr R1 s) ∧ Hid (Keep (fun k => k ≠ B5 ∧ k ≠ R1 ∧ k < wo.heap.size) wo wr))
  case atStart => exact ⟨[], none, 0, m.1, Lib.hid rfl, Lib.hid ⟨rfl, rfl⟩, Lib.hid (by simp), HB5, Lib.hid (World.ownsRow_nil _ _ _ _), D1, Lib.hid (Keep.refl _ _)⟩
  case round =>
    obtain ⟨D, am, cm, s, hgk, hrd, hdn, hblk, hown, hR, hkp⟩ := hrel
    have hsz := hkp.out.size
    have hmore := rd_more _ _ _ _ hR.out
    have HM := Lib.hid hmore; clear hmore
    by_cases hlt : 0 < s.1.length
    · have hl := hdn.out
      have hb2 := blk_cell hblk.out 2 _ rfl
      have hf2 := blk_free hblk.out 2
      go_wp2_with (go_at_call 52; refine HM.out.mono ?_; rintro e w1 ⟨rfl, rfl⟩)
      obtain ⟨k1, t1, ht1⟩ : ∃ k1 t1, rNum 2 s = (k1, t1) := ⟨_, _, rfl⟩
      obtain ⟨p, t2, ht2⟩ : ∃ p t2, rRaw 40 t1 = (p, t2) := ⟨_, _, rfl⟩
      have lt1 : t1.1.length ≤ 65536 := by have := rNum_len 2 s; rw [ht1] at this; simp only at this; omega
      have n1 := fun W h => rd_num (fun k => B5 < k ∧ k < R1) R1 2 s W h (by omega) (by omega)
      rw [ht1] at n1
      have n2 := fun W h => rd_text (fun k => B5 < k ∧ k < R1) R1 40 t1 W h (by omega) (by omega)
      rw [ht2] at n2
      have hcons := rEach_cons oneMove_takes hlt
      have hless := oneMove_takes s hlt
      have hone : oneMove s = (((k1 : Int), p), t2) := by unfold oneMove; rw [ht1]; simp only; rw [ht2]
      rw [hone] at hcons hless
      have N1 := Lib.hid n1; clear n1
      have N2 := Lib.hid n2; clear n2
      have HCO := Lib.hid hcons; clear hcons
      have HLE := Lib.hid hless; clear hless
      clear ht1 ht2 hone
      obtain ⟨i0, hi0, hz0, hz1, hz2⟩ := info_parts info_move
      have hDb : D.length ≤ 65536 := by omega
      go_region_law (first
        | (go_simp; go_at_call 50; refine (N1.out _ (by first | exact hR.out | exact hR.out.ext (Ext.refl _).drew)).mono ?_; rintro e w1 ⟨rfl, hr1, hb1⟩; have kb1 : But R1 wr w1 := (by first | exact hb1 | exact ((But.of_ext (Ext.refl wr).drew).trans hb1)); have hk1 := (Keep.of_but kb1).heap (g := B5) (by omega) hblk.out; have e1 := blk_cell hk1 2 _ rfl; have hr1 := Lib.hid hr1; have kb1 := Lib.hid kb1; have hk1 := Lib.hid hk1; clear hb1)
        | (go_simp; go_at_call 53; refine (N2.out _ hr1.out).mono ?_; rintro e w2 ⟨rfl, hr2, hb2'⟩; have kb2 := kb1.out.trans hb2'; have hk2 := (Keep.of_but kb2).heap (g := B5) (by omega) hblk.out; have e2 := blk_cell hk2 2 _ rfl; have j2 : B5 < w2.heap.size := Nat.lt_of_lt_of_le (show B5 < wr.heap.size by omega) kb2.size; have ow2 : OwnM w2 wo.heap.size am cm D := ownsRow_keep hown.out (Keep.of_but kb2) (fun g _ _ hb _ => by omega); have hr2 := Lib.hid hr2; have kb2 := Lib.hid kb2; have hk2 := Lib.hid hk2; have ow2 := Lib.hid ow2; clear hb2')
        | (refine step_append_big (by rfl) _ _ 36 47 (.agg #[.int .i64 0, .string ⟨#[]⟩]) 2 24 (by rfl) Tryd.underlying36 info_move rfl (by decide) wo.heap.size am D.length cm (moveV D) (by simp [Act.eval]) (ownsRow_ext ow2.out (Ext.alloc _ _)) w2.heap.size 1 1 [.int .i64 (k1 : Int), .string (bs p)] _ _ (by simp [Act.eval]) (by rfl) (heap_alloc_new w2 _) (by simp [Value.oneCell']) (by omega) (by omega) (by decide) ?_ (D.length + 1) rfl ?_; (have := kb2.out.size; simp; omega); intro g1 cap1 w3 hown3 hk3 hb3 hat3; have hk4 := (Keep.of_below hb3).heap (g := B5) (by omega) ((Ext.alloc w2 _).heap hk2.out); have e3 := blk_cell hk4 2 _ rfl; have f3 := blk_free hk4 2; have hk4 := Lib.hid hk4; have hown3 := Lib.hid hown3; have hb3 := Lib.hid hb3))
      all_goals
        go_wp2_with fail
        go_roundg t2.1.length
        case measure => have h1 := HLE.out; have h2 := hgk.out; omega
        case rel =>
          have hg1 : wo.heap.size ≤ g1 := (World.ownsRow.lt hown3.out g1 rfl).1
          have s2 := kb2.out.size
          refine ⟨D ++ [((k1 : Int), p)], some ⟨g1, 0, none⟩, cap1, t2, Lib.hid rfl, Lib.hid ⟨?_, ?_⟩, Lib.hid ?_, Lib.hid ?_, Lib.hid ?_, Lib.hid ?_, Lib.hid ?_⟩
          · rw [hrd.out.1, HCO.out]; simp
          · rw [hrd.out.2, HCO.out]
          · have h1 := hdn.out
            have h2 := HLE.out
            simp only [List.length_append, List.length_cons, List.length_nil] at h2 ⊢
            omega
          · rw [setCell_row hk4.out]; simp
          · unfold OwnM
            rw [List.length_append]
            refine ownsRow_keep (S := (· ≠ B5)) ?_ (Keep.setCell (Keep.refl _ _) (fun k hk => hk) _ _) (fun g _ hg hb _ => by omega)
            simpa [moveV] using hown3.out
          · refine Rd.keep (T := (· ≠ B5)) ?_ (Keep.setCell (Keep.refl _ _) (fun k hk => hk) _ _) (by omega) (fun g _ hg => by have := hg.1; omega)
            exact (hr2.out.ext (Ext.alloc w2 _)).keep (Keep.of_below hb3.out) (show R1 < wo.heap.size by omega) (fun g _ hg => by have := hg.2; show g < wo.heap.size; omega)
          · refine Keep.setCell ?_ (fun k hk => hk.1) _ _
            refine hkp.out.trans (((Keep.of_but kb2.out).mono (fun k _ hk => hk.2.1)).trans ((Keep.of_ext (Ext.alloc w2 _)).trans ((Keep.of_below hb3.out).mono (fun k _ hk => hk.2.2))))
    · have hs0 : s.1.length = 0 := by omega
      have hE := hrd.out
      rw [rEach_nil oneMove hs0, List.append_nil] at hE
      have HEM := Lib.hid hE; clear hE hs0
      have HMS := hown
      have hDl : D.length ≤ 65536 := by have := hdn.out; omega
      have F1 := hR
      have F2 := Lib.hid (D2.out.keep hkp.out (by refine ⟨?_, ?_, ?_⟩ <;> omega) (fun g _ hg => by have := hg.1; have := hg.2; refine ⟨?_, ?_, ?_⟩ <;> omega))
      have F3 := Lib.hid (D3.out.keep hkp.out (by refine ⟨?_, ?_, ?_⟩ <;> omega) (fun g _ hg => by have := hg.1; have := hg.2; refine ⟨?_, ?_, ?_⟩ <;> omega))
      have F0 := Lib.hid (D0.out.keep hkp.out (by refine ⟨?_, ?_, ?_⟩ <;> omega) (fun g _ hg => by have := hg.1; have := hg.2; refine ⟨?_, ?_, ?_⟩ <;> omega))
      have HBC := hblk
      have KP1 := hkp
      have hz1 := hsz
      obtain ⟨sM, rfl⟩ : ∃ sM : RSt, sM = s := ⟨_, rfl⟩
      obtain ⟨wp, rfl⟩ : ∃ wp : World, wp = wr := ⟨_, rfl⟩
      go_wp2_with (go_at_call 52; refine HM.out.mono ?_; rintro e w1 ⟨rfl, rfl⟩)
      clear hlt hrd hdn hblk hown hR hkp hsz HM hgk
      go_loopg [] n.1.1.length (fun gk wr => ∃ (C : List (List UInt8)) (aC : Option Addr) (cC : Nat) (s : RSt), Hid (gk = s.1.length) ∧ Hid ((rEach (oneText 12) n.1).1 = C ++ (rEach (oneText 12) s).1 ∧ (rEach (oneText 12) n.1).2 = (rEach (oneText 12) s).2) ∧ Hid (C.length + s.1.length ≤ n.1.1.length) ∧
        Hid (wr.heap[B5]? = some (.cells #[.int .i64 (s1.1 : Int), .int .i64 (s2.1 : Int), .slice am D.length cm, .slice aC C.length cC, .slice none 0 0] 38 (0, 0))) ∧ Hid (OwnS wr wp.heap.size aC cC C) ∧ Hid (Rd (fun k => R1 < k ∧ k < R2) wr R2 s) ∧ Hid (Keep (fun k => k ≠ B5 ∧ k ≠ R2 ∧ k < wp.heap.size) wp wr))
      case atStart => exact ⟨[], none, 0, n.1, Lib.hid rfl, Lib.hid ⟨rfl, rfl⟩, Lib.hid (by simp), HBC, Lib.hid (OwnS.nil _ _), F2, Lib.hid (Keep.refl _ _)⟩
      case round =>
        obtain ⟨C, aC, cC, s, hgk, hrd, hdn, hblk, hown, hR, hkp⟩ := hrel
        have hsz := hkp.out.size
        have hmore := rd_more _ _ _ _ hR.out
        have HM := Lib.hid hmore; clear hmore
        by_cases hlt : 0 < s.1.length
        · have hl := hdn.out
          have hb2 := blk_cell hblk.out 3 _ rfl
          have hf2 := blk_free hblk.out 3
          go_wp2_with (go_at_call 52; refine HM.out.mono ?_; rintro e w1 ⟨rfl, rfl⟩)
          obtain ⟨p, t2, ht2⟩ : ∃ p t2, rRaw 12 s = (p, t2) := ⟨_, _, rfl⟩
          have n2 := fun W h => rd_text (fun k => R1 < k ∧ k < R2) R2 12 s W h (by omega) (by omega)
          rw [ht2] at n2
          have hcons := rEach_cons (oneText_takes 12) hlt
          have hless := oneText_takes 12 s hlt
          have hone : oneText 12 s = (p, t2) := ht2
          rw [hone] at hcons hless
          have N2 := Lib.hid n2; clear n2
          have HCO := Lib.hid hcons; clear hcons
          have HLE := Lib.hid hless; clear hless
          clear ht2 hone
          have hDb : C.length ≤ 65536 := by omega
          go_region_law (first
            | (go_simp; go_at_call 53; refine (N2.out _ (by first | exact hR.out | exact hR.out.ext (Ext.refl _).drew)).mono ?_; rintro e w2 ⟨rfl, hr2, hb1⟩; have kb2 : But R2 wr w2 := (by first | exact hb1 | exact ((But.of_ext (Ext.refl wr).drew).trans hb1)); have hk2 := (Keep.of_but kb2).heap (g := B5) (by omega) hblk.out; have e2 := blk_cell hk2 3 _ rfl; have j2 : B5 < w2.heap.size := Nat.lt_of_lt_of_le (show B5 < wr.heap.size by omega) kb2.size; have ow2 : OwnS w2 wp.heap.size aC cC C := ownsRow_keep hown.out (Keep.of_but kb2) (fun g _ _ hb _ => by omega); have hr2 := Lib.hid hr2; have kb2 := Lib.hid kb2; have hk2 := Lib.hid hk2; have ow2 := Lib.hid ow2; clear hb1)
            | (refine step_append_big (by rfl) _ _ 23 9 (.string ⟨#[]⟩) 1 16 (by rfl) Tryd.underlying23 info_string rfl (by decide) wp.heap.size aC C.length cC _ (by simp [Act.eval]) (ownsRow_ext ow2.out (Ext.alloc _ _)) w2.heap.size 1 1 [.string (bs p)] _ _ (by simp [Act.eval]) (by rfl) (heap_alloc_new w2 _) (by simp [Value.oneCell']) (by omega) (by omega) (by decide) ?_ (C.length + 1) rfl ?_; (have := kb2.out.size; simp; omega); intro g1 cap1 w3 hown3 hk3 hb3 hat3; have hk4 := (Keep.of_below hb3).heap (g := B5) (by omega) ((Ext.alloc w2 _).heap hk2.out); have e3 := blk_cell hk4 3 _ rfl; have f3 := blk_free hk4 3; have hk4 := Lib.hid hk4; have hown3 := Lib.hid hown3; have hb3 := Lib.hid hb3))
          all_goals
            go_wp2_with fail
            go_roundg t2.1.length
            case measure => have h1 := HLE.out; have h2 := hgk.out; omega
            case rel =>
              have hg1 : wp.heap.size ≤ g1 := (World.ownsRow.lt hown3.out g1 rfl).1
              have s2 := kb2.out.size
              refine ⟨C ++ [p], some ⟨g1, 0, none⟩, cap1, t2, Lib.hid rfl, Lib.hid ⟨?_, ?_⟩, Lib.hid ?_, Lib.hid ?_, Lib.hid ?_, Lib.hid ?_, Lib.hid ?_⟩
              · rw [hrd.out.1, HCO.out]; simp
              · rw [hrd.out.2, HCO.out]
              · have h1 := hdn.out
                have h2 := HLE.out
                simp only [List.length_append, List.length_cons, List.length_nil] at h2 ⊢
                omega
              · rw [setCell_row hk4.out]; simp
              · unfold OwnS
                rw [List.length_append]
                refine ownsRow_keep (S := (· ≠ B5)) ?_ (Keep.setCell (Keep.refl _ _) (fun k hk => hk) _ _) (fun g _ hg hb _ => by omega)
                simpa using hown3.out
              · refine Rd.keep (T := (· ≠ B5)) ?_ (Keep.setCell (Keep.refl _ _) (fun k hk => hk) _ _) (by omega) (fun g _ hg => by have := hg.1; omega)
                exact (hr2.out.ext (Ext.alloc w2 _)).keep (Keep.of_below hb3.out) (show R2 < wp.heap.size by omega) (fun g _ hg => by have := hg.2; show g < wp.heap.size; omega)
              · refine Keep.setCell ?_ (fun k hk => hk.1) _ _
                refine hkp.out.trans (((Keep.of_but kb2.out).mono (fun k _ hk => hk.2.1)).trans ((Keep.of_ext (Ext.alloc w2 _)).trans ((Keep.of_below hb3.out).mono (fun k _ hk => hk.2.2))))
        · have hs0 : s.1.length = 0 := by omega
          have hE := hrd.out
          rw [rEach_nil (oneText 12) hs0, List.append_nil] at hE
          have HEC := Lib.hid hE; clear hE hs0
          have hCown := hown.out
          have HCS := Lib.hid hCown; clear hCown
          have hCl : C.length ≤ 65536 := by have := hdn.out; omega
          have E2 := hR
          have E3 := Lib.hid (F3.out.keep hkp.out (by refine ⟨?_, ?_, ?_⟩ <;> omega) (fun g _ hg => by have := hg.1; have := hg.2; refine ⟨?_, ?_, ?_⟩ <;> omega))
          have E0 := Lib.hid (F0.out.keep hkp.out (by refine ⟨?_, ?_, ?_⟩ <;> omega) (fun g _ hg => by have := hg.1; have := hg.2; refine ⟨?_, ?_, ?_⟩ <;> omega))
          have E1 := Lib.hid (F1.out.keep hkp.out (by refine ⟨?_, ?_, ?_⟩ <;> omega) (fun g _ hg => by have := hg.1; have := hg.2; refine ⟨?_, ?_, ?_⟩ <;> omega))
          have HBG := hblk
          have KP2 := hkp
          have hz2 := hsz
          obtain ⟨sC, rfl⟩ : ∃ sC : RSt, sC = s := ⟨_, rfl⟩
          obtain ⟨wq, rfl⟩ : ∃ wq : World, wq = wr := ⟨_, rfl⟩
          go_wp2_with (go_at_call 52; refine HM.out.mono ?_; rintro e w1 ⟨rfl, rfl⟩)
          clear hlt hrd hdn hblk hown hR hkp hsz HM hgk
          go_loopg [] g.1.1.length (fun gk wr => ∃ (G : List (List UInt8)) (aG : Option Addr) (cG : Nat) (s : RSt), Hid (gk = s.1.length) ∧ Hid ((rEach (oneText 12) g.1).1 = G ++ (rEach (oneText 12) s).1 ∧ (rEach (oneText 12) g.1).2 = (rEach (oneText 12) s).2) ∧ Hid (G.length + s.1.length ≤ g.1.1.length) ∧
            Hid (wr.heap[B5]? = some (.cells #[.int .i64 (s1.1 : Int), .int .i64 (s2.1 : Int), .slice am D.length cm, .slice aC C.length cC, .slice aG G.length cG] 38 (0, 0))) ∧ Hid (OwnS wr wq.heap.size aG cG G) ∧ Hid (Rd (fun k => R2 < k ∧ k < R3) wr R3 s) ∧ Hid (Keep (fun k => k ≠ B5 ∧ k ≠ R3 ∧ k < wq.heap.size) wq wr))
          case atStart => exact ⟨[], none, 0, g.1, Lib.hid rfl, Lib.hid ⟨rfl, rfl⟩, Lib.hid (by simp), HBG, Lib.hid (OwnS.nil _ _), E3, Lib.hid (Keep.refl _ _)⟩
          case round =>
            obtain ⟨G, aG, cG, s, hgk, hrd, hdn, hblk, hown, hR, hkp⟩ := hrel
            have hsz := hkp.out.size
            have hmore := rd_more _ _ _ _ hR.out
            have HM := Lib.hid hmore; clear hmore
            by_cases hlt : 0 < s.1.length
            · have hl := hdn.out
              have hb2 := blk_cell hblk.out 4 _ rfl
              have hf2 := blk_free hblk.out 4
              go_wp2_with (go_at_call 52; refine HM.out.mono ?_; rintro e w1 ⟨rfl, rfl⟩)
              obtain ⟨p, t2, ht2⟩ : ∃ p t2, rRaw 12 s = (p, t2) := ⟨_, _, rfl⟩
              have n2 := fun W h => rd_text (fun k => R2 < k ∧ k < R3) R3 12 s W h (by omega) (by omega)
              rw [ht2] at n2
              have hcons := rEach_cons (oneText_takes 12) hlt
              have hless := oneText_takes 12 s hlt
              have hone : oneText 12 s = (p, t2) := ht2
              rw [hone] at hcons hless
              have N2 := Lib.hid n2; clear n2
              have HCO := Lib.hid hcons; clear hcons
              have HLE := Lib.hid hless; clear hless
              clear ht2 hone
              have hDb : G.length ≤ 65536 := by omega
              go_region_law (first
                | (go_simp; go_at_call 53; refine (N2.out _ (by first | exact hR.out | exact hR.out.ext (Ext.refl _).drew)).mono ?_; rintro e w2 ⟨rfl, hr2, hb1⟩; have kb2 : But R3 wr w2 := (by first | exact hb1 | exact ((But.of_ext (Ext.refl wr).drew).trans hb1)); have hk2 := (Keep.of_but kb2).heap (g := B5) (by omega) hblk.out; have e2 := blk_cell hk2 4 _ rfl; have j2 : B5 < w2.heap.size := Nat.lt_of_lt_of_le (show B5 < wr.heap.size by omega) kb2.size; have ow2 : OwnS w2 wq.heap.size aG cG G := ownsRow_keep hown.out (Keep.of_but kb2) (fun g _ _ hb _ => by omega); have hr2 := Lib.hid hr2; have kb2 := Lib.hid kb2; have hk2 := Lib.hid hk2; have ow2 := Lib.hid ow2; clear hb1)
                | (refine step_append_big (by rfl) _ _ 23 9 (.string ⟨#[]⟩) 1 16 (by rfl) Tryd.underlying23 info_string rfl (by decide) wq.heap.size aG G.length cG _ (by simp [Act.eval]) (ownsRow_ext ow2.out (Ext.alloc _ _)) w2.heap.size 1 1 [.string (bs p)] _ _ (by simp [Act.eval]) (by rfl) (heap_alloc_new w2 _) (by simp [Value.oneCell']) (by omega) (by omega) (by decide) ?_ (G.length + 1) rfl ?_; (have := kb2.out.size; simp; omega); intro g1 cap1 w3 hown3 hk3 hb3 hat3; have hk4 := (Keep.of_below hb3).heap (g := B5) (by omega) ((Ext.alloc w2 _).heap hk2.out); have e3 := blk_cell hk4 4 _ rfl; have f3 := blk_free hk4 4; have hk4 := Lib.hid hk4; have hown3 := Lib.hid hown3; have hb3 := Lib.hid hb3))
              all_goals
                go_wp2_with fail
                go_roundg t2.1.length
                case measure => have h1 := HLE.out; have h2 := hgk.out; omega
                case rel =>
                  have hg1 : wq.heap.size ≤ g1 := (World.ownsRow.lt hown3.out g1 rfl).1
                  have s2 := kb2.out.size
                  refine ⟨G ++ [p], some ⟨g1, 0, none⟩, cap1, t2, Lib.hid rfl, Lib.hid ⟨?_, ?_⟩, Lib.hid ?_, Lib.hid ?_, Lib.hid ?_, Lib.hid ?_, Lib.hid ?_⟩
                  · rw [hrd.out.1, HCO.out]; simp
                  · rw [hrd.out.2, HCO.out]
                  · have h1 := hdn.out
                    have h2 := HLE.out
                    simp only [List.length_append, List.length_cons, List.length_nil] at h2 ⊢
                    omega
                  · rw [setCell_row hk4.out]; simp
                  · unfold OwnS
                    rw [List.length_append]
                    refine ownsRow_keep (S := (· ≠ B5)) ?_ (Keep.setCell (Keep.refl _ _) (fun k hk => hk) _ _) (fun g _ hg hb _ => by omega)
                    simpa using hown3.out
                  · refine Rd.keep (T := (· ≠ B5)) ?_ (Keep.setCell (Keep.refl _ _) (fun k hk => hk) _ _) (by omega) (fun g _ hg => by have := hg.1; omega)
                    exact (hr2.out.ext (Ext.alloc w2 _)).keep (Keep.of_below hb3.out) (show R3 < wq.heap.size by omega) (fun g _ hg => by have := hg.2; show g < wq.heap.size; omega)
                  · refine Keep.setCell ?_ (fun k hk => hk.1) _ _
                    refine hkp.out.trans (((Keep.of_but kb2.out).mono (fun k _ hk => hk.2.1)).trans ((Keep.of_ext (Ext.alloc w2 _)).trans ((Keep.of_below hb3.out).mono (fun k _ hk => hk.2.2))))
            · have hs0 : s.1.length = 0 := by omega
              have hE := hrd.out
              rw [rEach_nil (oneText 12) hs0, List.append_nil] at hE
              have HEG := Lib.hid hE; clear hE hs0
              have HGS := hown
              have hGl : G.length ≤ 65536 := by have := hdn.out; omega
              have G3 := hR
              have G0 := Lib.hid (E0.out.keep hkp.out (by refine ⟨?_, ?_, ?_⟩ <;> omega) (fun g _ hg => by have := hg.1; have := hg.2; refine ⟨?_, ?_, ?_⟩ <;> omega))
              have G1 := Lib.hid (E1.out.keep hkp.out (by refine ⟨?_, ?_, ?_⟩ <;> omega) (fun g _ hg => by have := hg.1; have := hg.2; refine ⟨?_, ?_, ?_⟩ <;> omega))
              have G2 := Lib.hid (E2.out.keep hkp.out (by refine ⟨?_, ?_, ?_⟩ <;> omega) (fun g _ hg => by have := hg.1; have := hg.2; refine ⟨?_, ?_, ?_⟩ <;> omega))
              have KP3 := hkp
              have hz3 := hsz
              have hbr := KP3.out.heap (g := w.heap.size) (by refine ⟨?_, ?_, ?_⟩ <;> omega) (KP2.out.heap (g := w.heap.size) (by refine ⟨?_, ?_, ?_⟩ <;> omega) (KP1.out.heap (g := w.heap.size) (by refine ⟨?_, ?_, ?_⟩ <;> omega) HBR.out))
              have KW : Keep (· < w.heap.size) w wr := (HX0.out.mono (fun k _ hk => by show k ≠ R0; have : k < w.heap.size := hk; omega)).trans ((KP1.out.mono (fun k _ hk => by have : k < w.heap.size := hk; refine ⟨?_, ?_, ?_⟩ <;> omega)).trans ((KP2.out.mono (fun k _ hk => by have : k < w.heap.size := hk; refine ⟨?_, ?_, ?_⟩ <;> omega)).trans (KP3.out.mono (fun k _ hk => by have : k < w.heap.size := hk; refine ⟨?_, ?_, ?_⟩ <;> omega))))
              have HKW := Lib.hid KW; clear KW
              have b0 := blk_cell hbr 0 _ rfl
              have b1 := blk_cell hbr 1 _ rfl
              have b2 := blk_cell hbr 2 _ rfl
              have b3 := blk_cell hbr 3 _ rfl
              have b4 := blk_cell hbr 4 _ rfl
              have f0 := blk_free hbr 0
              have f1 := blk_free hbr 1
              have f2 := blk_free hbr 2
              have f3 := blk_free hbr 3
              have f4 := blk_free hbr 4
              have HBRW := Lib.hid hbr; clear hbr
              have p0 := blk_cell hblk.out 0 _ rfl
              have p1 := blk_cell hblk.out 1 _ rfl
              have p2 := blk_cell hblk.out 2 _ rfl
              have p3 := blk_cell hblk.out 3 _ rfl
              have p4 := blk_cell hblk.out 4 _ rfl
              have k0 := rd_done _ _ _ _ G0.out
              have k1 := rd_done _ _ _ _ G1.out
              have k2 := rd_done _ _ _ _ G2.out
              have k3 := rd_done _ _ _ _ G3.out
              have hun : unpackT b = if (rDone g.2 && (rDone sM && (rDone sC && rDone s))) && rightT ⟨s1.1, s2.1, D, C, G⟩ then some ⟨s1.1, s2.1, D, C, G⟩ else none := by
                obtain ⟨h1, h2, h3, h4, h5⟩ := HH.out
                unfold unpackT unT
                simp only
                rw [← h1, ← h2, ← h3, ← h4, ← h5, HEM.out.1, HEM.out.2, HEC.out.1, HEC.out.2, HEG.out.1, HEG.out.2]
              generalize rDone g.2 = d0 at *
              generalize rDone sM = d1 at *
              generalize rDone sC = d2 at *
              generalize rDone s = d3 at *
              have HUN := Lib.hid hun; clear hun
              have K0 := Lib.hid k0; clear k0
              have K1 := Lib.hid k1; clear k1
              have K2 := Lib.hid k2; clear k2
              have K3 := Lib.hid k3; clear k3
              have HOC := Lib.hid (ownsRow_keep HCS.out KP3.out (fun g _ hg hb _ => by have := (World.ownsRow.lt HCS.out g hg).2; refine ⟨?_, ?_, ?_⟩ <;> omega))
              have HOM := Lib.hid (ownsRow_keep (ownsRow_keep HMS.out KP2.out (fun g _ hg hb _ => by have := (World.ownsRow.lt HMS.out g hg).2; refine ⟨?_, ?_, ?_⟩ <;> omega)) KP3.out (fun g _ hg hb _ => by have := (World.ownsRow.lt HMS.out g hg).2; refine ⟨?_, ?_, ?_⟩ <;> omega))
              have htr := txn_right ⟨s1.1, s2.1, D, C, G⟩ am aC aG cm cC cG wr (hE.ext (HKW.out.ext_lt)) (OwnM.moves HOM.out) (OwnS.strs HOC.out).1 (OwnS.strs HGS.out).1 (show D.length ≤ 8388608 by omega) (show C.length ≤ 8388608 by omega) (show G.length ≤ 8388608 by omega)
              generalize hrr : rightT ⟨s1.1, s2.1, D, C, G⟩ = r at htr
              have HTR := Lib.hid htr; clear htr
              have HR := Lib.hid hrr; clear hrr
              cases d0 with
              | false =>
                go_wp2_with (first
                  | (go_at_call 52; refine HM.out.mono ?_; rintro e w1 ⟨rfl, rfl⟩)
                  | (go_at_call_of 54 (Value.pointer (some ⟨R0, 0, none⟩)); refine K0.out.mono ?_; rintro e w1 ⟨rfl, rfl⟩))
                have hs5 := set5 HBRW.out (.int .i64 0) (.int .i64 0) (.slice none 0 0) (.slice none 0 0) (.slice none 0 0)
                obtain ⟨hs5, hbut⟩ := hs5
                generalize (((((wr.setCell ⟨w.heap.size, 0, none⟩ (.int .i64 0)).setCell ⟨w.heap.size, 1, none⟩ (.int .i64 0)).setCell ⟨w.heap.size, 2, none⟩ (.slice none 0 0)).setCell ⟨w.heap.size, 3, none⟩ (.slice none 0 0)).setCell ⟨w.heap.size, 4, none⟩ (.slice none 0 0)) = wf at hs5 hbut ⊢
                have c0 := blk_cell hs5 0 _ rfl
                have c1 := blk_cell hs5 1 _ rfl
                have c2 := blk_cell hs5 2 _ rfl
                have c3 := blk_cell hs5 3 _ rfl
                have c4 := blk_cell hs5 4 _ rfl
                refine bodyPost_ret (v := .tuple #[.agg #[.int .i64 0, .int .i64 0, .slice none 0 0, .slice none 0 0, .slice none 0 0], .int .i64 4]) (by simp [results, Tryd.results26, go_sem, c0, c1, c2, c3, c4]) rfl ?_
                rw [HUN.out]
                exact ⟨rfl, (HKW.out.trans ((Keep.of_but hbut).mono (fun k _ hk => by show k ≠ w.heap.size; have : k < w.heap.size := hk; omega))).ext_lt⟩
              | true =>
                cases d1 with
                | false =>
                  go_wp2_with (first
                    | (go_at_call 52; refine HM.out.mono ?_; rintro e w1 ⟨rfl, rfl⟩)
                    | (go_at_call_of 54 (Value.pointer (some ⟨R0, 0, none⟩)); refine K0.out.mono ?_; rintro e w1 ⟨rfl, rfl⟩)
                    | (go_at_call_of 54 (Value.pointer (some ⟨R1, 0, none⟩)); refine K1.out.mono ?_; rintro e w1 ⟨rfl, rfl⟩))
                  have hs5 := set5 HBRW.out (.int .i64 0) (.int .i64 0) (.slice none 0 0) (.slice none 0 0) (.slice none 0 0)
                  obtain ⟨hs5, hbut⟩ := hs5
                  generalize (((((wr.setCell ⟨w.heap.size, 0, none⟩ (.int .i64 0)).setCell ⟨w.heap.size, 1, none⟩ (.int .i64 0)).setCell ⟨w.heap.size, 2, none⟩ (.slice none 0 0)).setCell ⟨w.heap.size, 3, none⟩ (.slice none 0 0)).setCell ⟨w.heap.size, 4, none⟩ (.slice none 0 0)) = wf at hs5 hbut ⊢
                  have c0 := blk_cell hs5 0 _ rfl
                  have c1 := blk_cell hs5 1 _ rfl
                  have c2 := blk_cell hs5 2 _ rfl
                  have c3 := blk_cell hs5 3 _ rfl
                  have c4 := blk_cell hs5 4 _ rfl
                  refine bodyPost_ret (v := .tuple #[.agg #[.int .i64 0, .int .i64 0, .slice none 0 0, .slice none 0 0, .slice none 0 0], .int .i64 4]) (by simp [results, Tryd.results26, go_sem, c0, c1, c2, c3, c4]) rfl ?_
                  rw [HUN.out]
                  exact ⟨rfl, (HKW.out.trans ((Keep.of_but hbut).mono (fun k _ hk => by show k ≠ w.heap.size; have : k < w.heap.size := hk; omega))).ext_lt⟩
                | true =>
                  cases d2 with
                  | false =>
                    go_wp2_with (first
                      | (go_at_call 52; refine HM.out.mono ?_; rintro e w1 ⟨rfl, rfl⟩)
                      | (go_at_call_of 54 (Value.pointer (some ⟨R0, 0, none⟩)); refine K0.out.mono ?_; rintro e w1 ⟨rfl, rfl⟩)
                      | (go_at_call_of 54 (Value.pointer (some ⟨R1, 0, none⟩)); refine K1.out.mono ?_; rintro e w1 ⟨rfl, rfl⟩)
                      | (go_at_call_of 54 (Value.pointer (some ⟨R2, 0, none⟩)); refine K2.out.mono ?_; rintro e w1 ⟨rfl, rfl⟩))
                    have hs5 := set5 HBRW.out (.int .i64 0) (.int .i64 0) (.slice none 0 0) (.slice none 0 0) (.slice none 0 0)
                    obtain ⟨hs5, hbut⟩ := hs5
                    generalize (((((wr.setCell ⟨w.heap.size, 0, none⟩ (.int .i64 0)).setCell ⟨w.heap.size, 1, none⟩ (.int .i64 0)).setCell ⟨w.heap.size, 2, none⟩ (.slice none 0 0)).setCell ⟨w.heap.size, 3, none⟩ (.slice none 0 0)).setCell ⟨w.heap.size, 4, none⟩ (.slice none 0 0)) = wf at hs5 hbut ⊢
                    have c0 := blk_cell hs5 0 _ rfl
                    have c1 := blk_cell hs5 1 _ rfl
                    have c2 := blk_cell hs5 2 _ rfl
                    have c3 := blk_cell hs5 3 _ rfl
                    have c4 := blk_cell hs5 4 _ rfl
                    refine bodyPost_ret (v := .tuple #[.agg #[.int .i64 0, .int .i64 0, .slice none 0 0, .slice none 0 0, .slice none 0 0], .int .i64 4]) (by simp [results, Tryd.results26, go_sem, c0, c1, c2, c3, c4]) rfl ?_
                    rw [HUN.out]
                    exact ⟨rfl, (HKW.out.trans ((Keep.of_but hbut).mono (fun k _ hk => by show k ≠ w.heap.size; have : k < w.heap.size := hk; omega))).ext_lt⟩
                  | true =>
                    cases d3 with
                    | false =>
                      go_wp2_with (first
                        | (go_at_call 52; refine HM.out.mono ?_; rintro e w1 ⟨rfl, rfl⟩)
                        | (go_at_call_of 54 (Value.pointer (some ⟨R0, 0, none⟩)); refine K0.out.mono ?_; rintro e w1 ⟨rfl, rfl⟩)
                        | (go_at_call_of 54 (Value.pointer (some ⟨R1, 0, none⟩)); refine K1.out.mono ?_; rintro e w1 ⟨rfl, rfl⟩)
                        | (go_at_call_of 54 (Value.pointer (some ⟨R2, 0, none⟩)); refine K2.out.mono ?_; rintro e w1 ⟨rfl, rfl⟩)
                        | (go_at_call_of 54 (Value.pointer (some ⟨R3, 0, none⟩)); refine K3.out.mono ?_; rintro e w1 ⟨rfl, rfl⟩))
                      have hs5 := set5 HBRW.out (.int .i64 0) (.int .i64 0) (.slice none 0 0) (.slice none 0 0) (.slice none 0 0)
                      obtain ⟨hs5, hbut⟩ := hs5
                      generalize (((((wr.setCell ⟨w.heap.size, 0, none⟩ (.int .i64 0)).setCell ⟨w.heap.size, 1, none⟩ (.int .i64 0)).setCell ⟨w.heap.size, 2, none⟩ (.slice none 0 0)).setCell ⟨w.heap.size, 3, none⟩ (.slice none 0 0)).setCell ⟨w.heap.size, 4, none⟩ (.slice none 0 0)) = wf at hs5 hbut ⊢
                      have c0 := blk_cell hs5 0 _ rfl
                      have c1 := blk_cell hs5 1 _ rfl
                      have c2 := blk_cell hs5 2 _ rfl
                      have c3 := blk_cell hs5 3 _ rfl
                      have c4 := blk_cell hs5 4 _ rfl
                      refine bodyPost_ret (v := .tuple #[.agg #[.int .i64 0, .int .i64 0, .slice none 0 0, .slice none 0 0, .slice none 0 0], .int .i64 4]) (by simp [results, Tryd.results26, go_sem, c0, c1, c2, c3, c4]) rfl ?_
                      rw [HUN.out]
                      exact ⟨rfl, (HKW.out.trans ((Keep.of_but hbut).mono (fun k _ hk => by show k ≠ w.heap.size; have : k < w.heap.size := hk; omega))).ext_lt⟩
                    | true =>
                      cases r with
                      | false =>
                        go_wp2_with (first
                          | (go_at_call 52; refine HM.out.mono ?_; rintro e w1 ⟨rfl, rfl⟩)
                          | (go_at_call_of 54 (Value.pointer (some ⟨R0, 0, none⟩)); refine K0.out.mono ?_; rintro e w1 ⟨rfl, rfl⟩)
                          | (go_at_call_of 54 (Value.pointer (some ⟨R1, 0, none⟩)); refine K1.out.mono ?_; rintro e w1 ⟨rfl, rfl⟩)
                          | (go_at_call_of 54 (Value.pointer (some ⟨R2, 0, none⟩)); refine K2.out.mono ?_; rintro e w1 ⟨rfl, rfl⟩)
                          | (go_at_call_of 54 (Value.pointer (some ⟨R3, 0, none⟩)); refine K3.out.mono ?_; rintro e w1 ⟨rfl, rfl⟩)
                          | (go_at_call 48; refine HTR.out.mono ?_; rintro e w5 ⟨rfl, hx5⟩; have hb5 := hx5.heap HBRW.out; have b0 := blk_cell hb5 0 _ rfl; have b1 := blk_cell hb5 1 _ rfl; have b2 := blk_cell hb5 2 _ rfl; have b3 := blk_cell hb5 3 _ rfl; have b4 := blk_cell hb5 4 _ rfl; have f0 := blk_free hb5 0; have f1 := blk_free hb5 1; have f2 := blk_free hb5 2; have f3 := blk_free hb5 3; have f4 := blk_free hb5 4; have hp5 := hx5.heap hblk.out; have p0 := blk_cell hp5 0 _ rfl; have p1 := blk_cell hp5 1 _ rfl; have p2 := blk_cell hp5 2 _ rfl; have p3 := blk_cell hp5 3 _ rfl; have p4 := blk_cell hp5 4 _ rfl; have hb5 := Lib.hid hb5; clear hp5))
                        have hs5 := set5 hb5.out (.int .i64 0) (.int .i64 0) (.slice none 0 0) (.slice none 0 0) (.slice none 0 0)
                        obtain ⟨hs5, hbut⟩ := hs5
                        generalize (((((w5.setCell ⟨w.heap.size, 0, none⟩ (.int .i64 0)).setCell ⟨w.heap.size, 1, none⟩ (.int .i64 0)).setCell ⟨w.heap.size, 2, none⟩ (.slice none 0 0)).setCell ⟨w.heap.size, 3, none⟩ (.slice none 0 0)).setCell ⟨w.heap.size, 4, none⟩ (.slice none 0 0)) = wf at hs5 hbut ⊢
                        have c0 := blk_cell hs5 0 _ rfl
                        have c1 := blk_cell hs5 1 _ rfl
                        have c2 := blk_cell hs5 2 _ rfl
                        have c3 := blk_cell hs5 3 _ rfl
                        have c4 := blk_cell hs5 4 _ rfl
                        refine bodyPost_ret (v := .tuple #[.agg #[.int .i64 0, .int .i64 0, .slice none 0 0, .slice none 0 0, .slice none 0 0], .int .i64 4]) (by simp [results, Tryd.results26, go_sem, c0, c1, c2, c3, c4]) rfl ?_
                        rw [HUN.out, HR.out]
                        exact ⟨rfl, ((HKW.out.trans (Keep.of_ext hx5)).trans ((Keep.of_but hbut).mono (fun k _ hk => by show k ≠ w.heap.size; have : k < w.heap.size := hk; omega))).ext_lt⟩
                      | true =>
                        go_wp2_with (first
                          | (go_at_call 52; refine HM.out.mono ?_; rintro e w1 ⟨rfl, rfl⟩)
                          | (go_at_call_of 54 (Value.pointer (some ⟨R0, 0, none⟩)); refine K0.out.mono ?_; rintro e w1 ⟨rfl, rfl⟩)
                          | (go_at_call_of 54 (Value.pointer (some ⟨R1, 0, none⟩)); refine K1.out.mono ?_; rintro e w1 ⟨rfl, rfl⟩)
                          | (go_at_call_of 54 (Value.pointer (some ⟨R2, 0, none⟩)); refine K2.out.mono ?_; rintro e w1 ⟨rfl, rfl⟩)
                          | (go_at_call_of 54 (Value.pointer (some ⟨R3, 0, none⟩)); refine K3.out.mono ?_; rintro e w1 ⟨rfl, rfl⟩)
                          | (go_at_call 48; refine HTR.out.mono ?_; rintro e w5 ⟨rfl, hx5⟩; have hb5 := hx5.heap HBRW.out; have b0 := blk_cell hb5 0 _ rfl; have b1 := blk_cell hb5 1 _ rfl; have b2 := blk_cell hb5 2 _ rfl; have b3 := blk_cell hb5 3 _ rfl; have b4 := blk_cell hb5 4 _ rfl; have f0 := blk_free hb5 0; have f1 := blk_free hb5 1; have f2 := blk_free hb5 2; have f3 := blk_free hb5 3; have f4 := blk_free hb5 4; have hp5 := hx5.heap hblk.out; have p0 := blk_cell hp5 0 _ rfl; have p1 := blk_cell hp5 1 _ rfl; have p2 := blk_cell hp5 2 _ rfl; have p3 := blk_cell hp5 3 _ rfl; have p4 := blk_cell hp5 4 _ rfl; have hb5 := Lib.hid hb5; clear hp5))
                        have hs5 := set5 hb5.out (.int .i64 (s1.1 : Int)) (.int .i64 (s2.1 : Int)) (.slice am D.length cm) (.slice aC C.length cC) (.slice aG G.length cG)
                        obtain ⟨hs5, hbut⟩ := hs5
                        generalize (((((w5.setCell ⟨w.heap.size, 0, none⟩ (.int .i64 (s1.1 : Int))).setCell ⟨w.heap.size, 1, none⟩ (.int .i64 (s2.1 : Int))).setCell ⟨w.heap.size, 2, none⟩ (.slice am D.length cm)).setCell ⟨w.heap.size, 3, none⟩ (.slice aC C.length cC)).setCell ⟨w.heap.size, 4, none⟩ (.slice aG G.length cG)) = wf at hs5 hbut ⊢
                        have c0 := blk_cell hs5 0 _ rfl
                        have c1 := blk_cell hs5 1 _ rfl
                        have c2 := blk_cell hs5 2 _ rfl
                        have c3 := blk_cell hs5 3 _ rfl
                        have c4 := blk_cell hs5 4 _ rfl
                        refine bodyPost_ret (v := .tuple #[.agg #[.int .i64 (s1.1 : Int), .int .i64 (s2.1 : Int), .slice am D.length cm, .slice aC C.length cC, .slice aG G.length cG], .int .i64 0]) (by simp [results, Tryd.results26, go_sem, c0, c1, c2, c3, c4]) rfl ?_
                        rw [HUN.out, HR.out]
                        have hex := ((HKW.out.trans (Keep.of_ext hx5)).trans ((Keep.of_but hbut).mono (fun k _ hk => by show k ≠ w.heap.size; have : k < w.heap.size := hk; omega))).ext_lt
                        have kk := (Keep.of_ext (S := (· ≠ w.heap.size)) hx5).trans (Keep.of_but hbut)
                        refine ⟨am, aC, aG, cm, cC, cG, rfl, ?_, ?_, ?_, hex⟩
                        · exact OwnM.moves (ownsRow_keep HOM.out kk (fun g _ _ hb _ => by show g ≠ w.heap.size; omega))
                        · exact OwnS.strs (ownsRow_keep HOC.out kk (fun g _ _ hb _ => by show g ≠ w.heap.size; omega)) |>.1
                        · exact OwnS.strs (ownsRow_keep HGS.out kk (fun g _ _ hb _ => by show g ≠ w.heap.size; omega)) |>.1
end Go.Proofs.YtedfpoidggpkdaaDoor
