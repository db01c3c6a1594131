/- Several texts of mine, one behind the other: BaseFit, ByRows, BytesEq, RowsEq, BasePack, BaseSame. -/
import Derived.Test.YtnclibfhbngkjaaGreatDoorArcRight
import Derived.Test.YtnclibfhbngkjaaGreatDoorBaseSpec
import Derived.Test.YtnclibfhbngkjaaGreatDoorM3
import Derived.Test.YtnclibfhbngkjaaGreatDoorM2
import Derived.BigQuiet
import Derived.Deep.RegionHeld3
import Derived.Deep.Cut
import Derived.Deep.QuietTactic
import Derived.Outline
import Derived.Test.YtnclibfhbngkjaaGreatDoorBaseParts
import Derived.Test.YtnclibfhbngkjaaGreatDoorBaseOwner
namespace Go.Proofs.YtnclibfhbngkjaaGreatDoor
theorem FitP.of_right {p : PkgD} (h : rightP p = true) : FitP p := by
  have hp := (packP_len h).1
  unfold rightP headP at h
  simp only [Bool.and_eq_true, decide_eq_true_eq] at h
  obtain ⟨⟨h1, h2, h3, h4, h5, h6⟩, h7, h8, h9, h0⟩ := h
  have n1 := nameL_12 h1
  have n2 := verR_30 h2
  have hf := filesTo_all h0
  rw [List.take_length] at hf
  refine ⟨by omega, by omega, by omega, by omega, by omega, by omega, fun x hx => ?_, fun x hx => ?_, fun x hx => ?_, fun x hx => ?_, by omega⟩
  · have := (List.all_eq_true.1 h7) x hx
    unfold needR at this
    simp only [Bool.and_eq_true, Bool.or_eq_true, decide_eq_true_eq] at this
    have i1 := nameL_12 this.1
    have i2 : x.ver.length ≤ 30 := by
      rcases this.2 with e | e
      · rw [e.2]; simp
      · exact verR_30 e.2
    omega
  · have := (List.all_eq_true.1 h8) x hx
    unfold confR at this
    simp only [Bool.and_eq_true] at this
    have i1 := nameL_12 this.1
    omega
  · have := hf x hx
    unfold fileR at this
    simp only [Bool.and_eq_true, decide_eq_true_eq] at this
    have i1 := rightL_40 this.1
    omega
  · have := (List.all_eq_true.1 h9) x hx
    simp only [decide_eq_true_eq] at this
    omega
end Go.Proofs.YtnclibfhbngkjaaGreatDoor
namespace Go.Proofs.YtnclibfhbngkjaaGreatDoor
open Go.RowKit
/-- Rows of bytes that the call has gathered so far. -/
def OwnR (w : World) (base : Nat) (a : Option Addr) (cap : Nat) (D : List (List UInt8)) : Prop :=
  ∃ vs, w.ownsRow base 74 1 (.slice a D.length cap) D.length vs ∧ PartsS (fun k => some k ≠ (Value.slice a D.length cap).ownBlock) w vs D
theorem info_row : (Tryz.prog.info? 74).map (fun i => (i.zero, i.size, i.bytes)) = some (some (.slice none 0 0), 1, 24) := by kernel_rfl
theorem OwnR.nil (w : World) (base : Nat) : OwnR w base none 0 [] := ⟨[], World.ownsRow_nil _ _ _ _, PartsS.nil _ _⟩
theorem OwnR.ext {w w' : World} {base : Nat} {a : Option Addr} {cap : Nat} {D : List (List UInt8)} (h : OwnR w base a cap D) (k : Ext w w') : OwnR w' base a cap D := by
  obtain ⟨vs, h1, h2⟩ := h
  exact ⟨vs, ownsRow_ext h1 k, h2.keep (Keep.of_ext k)⟩
theorem OwnR.parts {w : World} {base : Nat} {a : Option Addr} {cap : Nat} {D : List (List UInt8)} (h : OwnR w base a cap D) : Parts w a D := by
  obtain ⟨vs, h1, h2⟩ := h
  exact ⟨vs, ownsRow_row h1, h2.mono (fun _ _ _ => trivial)⟩
/-- Behind an append of parts. -/
theorem OwnR.grow {w w' : World} {base : Nat} {ad : Option Addr} {cap : Nat} {D N : List (List UInt8)} {vs us : List Value} {g cap' m : Nat} (h2 : PartsS (fun k => some k ≠ (Value.slice ad D.length cap).ownBlock) w vs D)
    (hN : PartsS (fun k => some k ≠ (Value.slice ad D.length cap).ownBlock) w us N) (hm : N.length = m)
    (hrow : w'.ownsRow base 74 1 (.slice (some ⟨g, 0, none⟩) (D.length + m) cap') (D.length + m) (vs ++ us)) (hg : w.grownBy w' (Value.slice ad D.length cap).ownBlock)
    (hat : (Value.slice ad D.length cap).ownBlock = some g ∨ g = w.heap.size) : OwnR w' base (some ⟨g, 0, none⟩) cap' (D ++ N) := by
  subst hm
  refine ⟨vs ++ us, by rw [List.length_append]; exact hrow, ?_⟩
  have hall := h2.append hN
  have h3 : PartsS (fun k => some k ≠ (Value.slice ad D.length cap).ownBlock ∧ some k ≠ some g) w (vs ++ us) (D ++ N) := by
    refine hall.mono (fun k hk hne => ⟨hne, ?_⟩)
    rcases hat with e | e
    · rw [← e]; exact hne
    · intro e2
      have : k = g := by simpa using e2
      omega
  have h4 := h3.keep ((Keep.of_grown hg).mono (fun k _ hk => hk.1))
  exact h4.mono (fun k _ hk => hk.2)
/-- 'append(out, parts..)', all of it. -/
theorem rows_grown {W w' : World} {base : Nat} {ad : Option Addr} {cap : Nat} {D N : List (List UInt8)} {vs us : List Value} {g cap' m : Nat} (hrow : W.ownsRow base 74 1 (.slice ad D.length cap) D.length vs) (h2 : PartsS (fun k => some k ≠ (Value.slice ad D.length cap).ownBlock) W vs D)
    (hN : PartsS (fun k => some k ≠ (Value.slice ad D.length cap).ownBlock) W us N) (hm : us.length = m) (hbase : base ≤ W.heap.size)
    (hown' : w'.ownsRow base 74 1 (.slice (some ⟨g, 0, none⟩) (D.length + m) cap') (D.length + m) (vs ++ us)) (hg : W.grownBy w' (Value.slice ad D.length cap).ownBlock)
    (hat : (Value.slice ad D.length cap).ownBlock = some g ∨ g = W.heap.size) : OwnR w' base (some ⟨g, 0, none⟩) cap' (D ++ N) ∧ Keep (fun k => some k ≠ (Value.slice ad D.length cap).ownBlock) W w' ∧ Below base W w' :=
  ⟨OwnR.grow h2 hN (hN.1.symm.trans hm) hown' hg hat, Keep.of_grown hg, (Below.refl _ _).grown hg hbase (fun k hk => (World.ownsRow.lt hrow k hk).1)⟩
section
variable {ops : Array Oper} {o : Oper} {a : Act} {Q : Exit → Act → World → Prop} {W : World}
theorem wp_append_rows {K : Act → World → Prop} (s x : Operand)
    (ho : o.op = .call { callee := .builtin .append, args := #[s, x], argTypes := #[47, 47] })
    (base : Nat) (ad : Option Addr) (cap : Nat) (D : List (List UInt8)) (hs : a.eval s = .slice ad D.length cap) (hown : OwnR W base ad cap D)
    (us : List Value) (N : List (List UInt8)) (b m : Nat) (hm : us.length = m) (hx : a.eval x = .slice (some ⟨b, 0, none⟩) m m) (hblk : W.heap[b]? = some (.cells us.toArray 74 (0, 0)))
    (hN : PartsS (fun k => some k ≠ (Value.slice ad D.length cap).ownBlock) W us N) (hpos : 0 < m) (hn : D.length + m ≤ 1099511627776) (hbase : base ≤ W.heap.size)
    (h : ∀ g cap' w', OwnR w' base (some ⟨g, 0, none⟩) cap' (D ++ N) → Keep (fun k => some k ≠ (Value.slice ad D.length cap).ownBlock) W w' → Below base W w' → K (a.put o.dst (.slice (some ⟨g, 0, none⟩) (D.length + m) cap')) w') : o.wp Tryz.prog a W K Q := by
  obtain ⟨i0, hi0, hz0, hz1, hz2⟩ := info_parts info_row
  obtain ⟨vs, hrow, h2⟩ := hown
  exact wp_append_lies _ s x _ ho base 74 i0 _ 1 24 Tryz.underlying47 hi0 hz0 hz1 hz2 rfl (by omega) (.slice ad D.length cap) D.length vs hs hrow ⟨b, 0, none⟩ m m us hx (by rw [hm, Nat.mul_one])
    (World.news_of_block (cs := us.toArray) hblk) (oneCell_parts hN) hpos (by unfold maxLen; omega) (by omega) hbase _ rfl
    (fun g cap' w' hown' hg hat _ => have hh := rows_grown hrow h2 hN hm hbase hown' hg hat; h g cap' w' hh.1 hh.2.1 hh.2.2)
theorem step_append_rows {K : Act → World → Prop} {E : Prop} (hgd : o.guard = none) (s x : Operand)
    (ho : o.op = .call { callee := .builtin .append, args := #[s, x], argTypes := #[47, 47] })
    (base : Nat) (ad : Option Addr) (cap : Nat) (D : List (List UInt8)) (hs : a.eval s = .slice ad D.length cap) (hown : OwnR W base ad cap D)
    (us : List Value) (N : List (List UInt8)) (b m : Nat) (hm : us.length = m) (hx : a.eval x = .slice (some ⟨b, 0, none⟩) m m) (hblk : W.heap[b]? = some (.cells us.toArray 74 (0, 0)))
    (hN : PartsS (fun k => some k ≠ (Value.slice ad D.length cap).ownBlock) W us N) (hpos : 0 < m) (hn : D.length + m ≤ 1099511627776) (hbase : base ≤ W.heap.size)
    (h : ∀ g cap' w', OwnR w' base (some ⟨g, 0, none⟩) cap' (D ++ N) → Keep (fun k => some k ≠ (Value.slice ad D.length cap).ownBlock) W w' → Below base W w' → K (a.put o.dst (.slice (some ⟨g, 0, none⟩) (D.length + m) cap')) w') :
    if Region.wanted o (yielded ops a.tmps) = true then Oper.wp Tryz.prog o a W K Q else E := by
  have hw : Region.wanted o (yielded ops a.tmps) = true := by simp [Region.wanted, hgd]
  rw [if_pos hw]
  exact wp_append_rows s x ho base ad cap D hs hown us N b m hm hx hblk hN hpos hn hbase h
theorem append_rows {rest : List Oper} (hgd : o.guard = none) (s x : Operand)
    (ho : o.op = .call { callee := .builtin .append, args := #[s, x], argTypes := #[47, 47] })
    (base : Nat) (ad : Option Addr) (cap : Nat) (D : List (List UInt8)) (hs : a.eval s = .slice ad D.length cap) (hown : OwnR W base ad cap D)
    (us : List Value) (N : List (List UInt8)) (b m : Nat) (hm : us.length = m) (hx : a.eval x = .slice (some ⟨b, 0, none⟩) m m) (hblk : W.heap[b]? = some (.cells us.toArray 74 (0, 0)))
    (hN : PartsS (fun k => some k ≠ (Value.slice ad D.length cap).ownBlock) W us N) (hpos : 0 < m) (hn : D.length + m ≤ 1099511627776) (hbase : base ≤ W.heap.size)
    (h : ∀ g cap' w', OwnR w' base (some ⟨g, 0, none⟩) cap' (D ++ N) → Keep (fun k => some k ≠ (Value.slice ad D.length cap).ownBlock) W w' → Below base W w' → wpList Tryz.prog ops Q rest (a.put o.dst (.slice (some ⟨g, 0, none⟩) (D.length + m) cap')) w') : wpList Tryz.prog ops Q (o :: rest) a W :=
  wpList_plain hgd fun _ hK => wp_append_rows s x ho base ad cap D hs hown us N b m hm hx hblk hN hpos hn hbase fun g cap' w' h1 h2 h3 => hK _ _ (h g cap' w' h1 h2 h3)
end
/-- A row of the call's own lies below what is made now. -/
theorem OwnR.old {w : World} {base : Nat} {a : Option Addr} {cap : Nat} {D : List (List UInt8)} (h : OwnR w base a cap D) {B : Nat} (hB : w.heap.size ≤ B) : ∀ k, B ≤ k → some k ≠ (Value.slice a D.length cap).ownBlock := by
  obtain ⟨vs, h1, _⟩ := h
  intro k hk e
  have := (World.ownsRow.lt h1 k e.symm).2
  omega
theorem row_new {wr w0 w1 : World} {base : Nat} {a : Option Addr} {cap : Nat} {D : List (List UInt8)} {p : Option Addr} {c : Nat} {l : List UInt8} (hown : OwnR wr base a cap D) (hx0 : Ext wr w0) (h1 : OwnB w1 w0.heap.size p c l) :
    BytesS (fun k => some k ≠ (Value.slice a D.length cap).ownBlock) w1 p l := h1.fresh (hown.old hx0.size)
theorem row_one {wr w0 w1 : World} {base : Nat} {a : Option Addr} {cap : Nat} {D : List (List UInt8)} {p : Option Addr} {c : Nat} {l : List UInt8} (hown : OwnR wr base a cap D) (hx0 : Ext wr w0) (h1 : OwnB w1 w0.heap.size p c l) :
    PartsS (fun k => some k ≠ (Value.slice a D.length cap).ownBlock) w1 [.slice p l.length c] [l] := PartsS.one (row_new hown hx0 h1)
end Go.Proofs.YtnclibfhbngkjaaGreatDoor
namespace Go.Proofs.YtnclibfhbngkjaaGreatDoor
open Go.RowKit
theorem take_byte {l m : List UInt8} {k : Nat} (h : l.take k = m.take k) (hl : k < l.length) (hm : k < m.length) (he : byteAt l k = byteAt m k) : l.take (k + 1) = m.take (k + 1) := by
  rw [List.take_succ_eq_append_getElem hl, List.take_succ_eq_append_getElem hm, h]
  have : l[k] = m[k] := by
    apply UInt8.toNat_inj.1
    simpa [byteAt, hl, hm] using he
  rw [this]
set_option maxRecDepth 100000 in
set_option maxHeartbeats 3200000 in
theorem bytes_equal (a b : Option Addr) (c d : Nat) (l m : List UInt8) (w : World) (ha : Bytes w a l) (hb : Bytes w b m) (hl : l.length ≤ 100000) (hm : m.length ≤ 100000) :
    Calls Tryz.prog 57 #[.slice a l.length c, .slice b m.length d] w fun e w' => e = .returned (.bool (decide (l = m))) ∧ Ext w w' := by
  obtain ⟨R, hR⟩ : ∃ R : Ending → World → Prop, R = fun e w' => e = .returned (.bool (decide (l = m))) ∧ Ext w w' := ⟨_, rfl⟩
  rw [← hR]
  have HR := Lib.hid hR; clear hR
  have HA := Lib.hid ha; clear ha
  have HB := Lib.hid hb; clear hb
  obtain ⟨n, hn⟩ : ∃ n, n = l.length := ⟨_, rfl⟩
  obtain ⟨p, hp⟩ : ∃ p, p = m.length := ⟨_, rfl⟩
  rw [← hn] at hl ⊢
  rw [← hp] at hm ⊢
  have HN := Lib.hid hn; clear hn
  have HP := Lib.hid hp; clear hp
  by_cases hnp : n = p
  · subst hnp
    go_enter Tryz.func57, Tryz.ntmps57
    go_wp2_with fail
    go_loopw [13] (fun i wr => ∃ k : Nat, i = .int .i64 k ∧ k ≤ n ∧ Hid (l.take k = m.take k) ∧ Hid (Ext w wr)) (fun i _ => n - (intOf i).toNat)
    case atStart => exact ⟨0, rfl, Nat.zero_le _, Lib.hid rfl, Lib.hid (Ext.refl _)⟩
    case round =>
      obtain ⟨k, rfl, hk, ht, hx⟩ := hrel
      by_cases hlt : k < n
      · obtain ⟨g, off, rfl, _, hc⟩ := (HA.out.ext hx.out).at (by have := HN.out; intro e; rw [e] at this; simp at this; omega)
        obtain ⟨g2, off2, rfl, _, hc2⟩ := (HB.out.ext hx.out).at (by have := HP.out; intro e; rw [e] at this; simp at this; omega)
        have c1 := hc k (by have := HN.out; omega)
        have c2 := hc2 k (by have := HP.out; omega)
        clear hc hc2
        obtain ⟨x, hxx⟩ : ∃ x, x = byteAt l k := ⟨_, rfl⟩
        obtain ⟨y, hyy⟩ : ∃ y, y = byteAt m k := ⟨_, rfl⟩
        rw [← hxx] at c1
        rw [← hyy] at c2
        have i0 : (0 : Int) ≤ (k : Int) := by omega
        have i1 : (k : Int) < (n : Int) := by omega
        by_cases hxy : x = y
        · have n1 : ((x : Int) != (y : Int)) = false := by rw [hxy]; simp
          have HXY := Lib.hid hxy; clear hxy
          have HX := Lib.hid hxx; clear hxx
          have HY := Lib.hid hyy; clear hyy
          go_upto_region 6 with fail
          go_quiet (fail)
          all_goals (
            go_wp2_with fail
            refine ⟨⟨k + 1, by go_num, by omega, Lib.hid (take_byte ht.out (by have := HN.out; omega) (by have := HP.out; omega) (by rw [← HX.out, ← HY.out, HXY.out])), Lib.hid (hx.out.drewN _)⟩, by simp [intOf]; omega⟩)
        · have n1 : ((x : Int) != (y : Int)) = true := by rw [bne_iff_ne]; omega
          have HXY := Lib.hid hxy; clear hxy
          have HX := Lib.hid hxx; clear hxx
          have HY := Lib.hid hyy; clear hyy
          go_upto_region 6 with fail
          go_quiet (fail)
          all_goals (
            go_wp2_with fail
            rw [HR.out]
            refine ⟨?_, hx.out.drewN _⟩
            have : ¬ l = m := by
              intro e
              apply HXY.out
              rw [HX.out, HY.out, e]
            rw [decide_eq_false this]
            rfl)
      · obtain rfl : k = n := by omega
        go_wp2_with fail
        rw [HR.out]
        have e : l = m := by
          have h := ht.out
          rw [List.take_of_length_le (by have := HN.out; omega), List.take_of_length_le (by have := HP.out; omega)] at h
          exact h
        rw [decide_eq_true e]
        exact ⟨rfl, hx.out⟩
  · have n1 : ((n : Int) != (p : Int)) = true := by rw [bne_iff_ne]; omega
    have HNP := Lib.hid hnp; clear hnp
    go_enter Tryz.func57, Tryz.ntmps57
    go_wp2_with fail
    rw [HR.out]
    have : ¬ l = m := by
      intro e
      apply HNP.out
      rw [HN.out, HP.out, e]
    rw [decide_eq_false this]
    exact ⟨rfl, Ext.refl _⟩
end Go.Proofs.YtnclibfhbngkjaaGreatDoor
namespace Go.Proofs.YtnclibfhbngkjaaGreatDoor
open Go.RowKit
set_option maxHeartbeats 1600000 in
theorem same_one (a b : Option Addr) (c d : Nat) (l m : List UInt8) (w : World) (ha : Bytes w a l) (hb : Bytes w b m) (hl : l.length ≤ 100000) (hm : m.length ≤ 100000) :
    Calls Tryz.prog 56 #[.slice a l.length c, .slice b m.length d] w fun e w' => e = .returned (.bool (decide (l = m))) ∧ Ext w w' := by
  have h := bytes_equal a b c d l m w ha hb hl hm
  have H := Lib.hid h; clear h ha hb
  go_enter Tryz.func56, Tryz.ntmps56
  go_wp2_with (go_at_call 57; refine H.out.mono ?_; rintro e w' ⟨rfl, hx⟩)
  go_ret
  exact ⟨rfl, hx⟩
set_option maxRecDepth 100000 in
set_option maxHeartbeats 3200000 in
theorem rows_equal (a b : Option Addr) (c d : Nat) (L M : List (List UInt8)) (w : World) (hL : Parts w a L) (hM : Parts w b M) (h1 : ∀ l ∈ L, l.length ≤ 100000) (h2 : ∀ l ∈ M, l.length ≤ 100000) (hl : L.length ≤ 100000) (hm : M.length ≤ 100000) :
    Calls Tryz.prog 55 #[.slice a L.length c, .slice b M.length d, .func (.func 56) #[] #[]] w fun e w' => e = .returned (.bool (decide (L = M))) ∧ Ext w w' := by
  obtain ⟨R, hR⟩ : ∃ R : Ending → World → Prop, R = fun e w' => e = .returned (.bool (decide (L = M))) ∧ Ext w w' := ⟨_, rfl⟩
  rw [← hR]
  have HR := Lib.hid hR; clear hR
  have HA := Lib.hid hL; clear hL
  have HB := Lib.hid hM; clear hM
  have HL1 := Lib.hid h1; clear h1
  have HL2 := Lib.hid h2; clear h2
  obtain ⟨n, hn⟩ : ∃ n, n = L.length := ⟨_, rfl⟩
  obtain ⟨p, hp⟩ : ∃ p, p = M.length := ⟨_, rfl⟩
  rw [← hn] at hl ⊢
  rw [← hp] at hm ⊢
  have HN := Lib.hid hn; clear hn
  have HP := Lib.hid hp; clear hp
  by_cases hnp : n = p
  · subst hnp
    go_enter Tryz.func55, Tryz.ntmps55
    go_wp2_with fail
    go_loopw [17] (fun i wr => ∃ k : Nat, i = .int .i64 k ∧ k ≤ n ∧ Hid (L.take k = M.take k) ∧ Hid (Ext w wr)) (fun i _ => n - (intOf i).toNat)
    case atStart => exact ⟨0, rfl, Nat.zero_le _, Lib.hid rfl, Lib.hid (Ext.refl _)⟩
    case round =>
      obtain ⟨k, rfl, hk, ht, hx⟩ := hrel
      by_cases hlt : k < n
      · have hkL : k < L.length := by have := HN.out; omega
        have hkM : k < M.length := by have := HP.out; omega
        obtain ⟨g, off, p1, q1, rfl, c1, b1⟩ := (HA.out.ext hx.out).at hkL
        obtain ⟨g2, off2, p2, q2, rfl, c2, b2⟩ := (HB.out.ext hx.out).at hkM
        have e1 : L.getD k [] = L[k] := by simp [hkL]
        have e2 : M.getD k [] = M[k] := by simp [hkM]
        have hq := fun W (hW : Ext wr W) => same_one p1 p2 q1 q2 (L.getD k []) (M.getD k []) W (b1.ext hW) (b2.ext hW) (HL1.out _ (by rw [e1]; simp)) (HL2.out _ (by rw [e2]; simp))
        have HQ := Lib.hid hq; clear hq b1 b2
        have HE1 := Lib.hid e1; clear e1
        have HE2 := Lib.hid e2; clear e2
        obtain ⟨x, hxx⟩ : ∃ x, x = L.getD k [] := ⟨_, rfl⟩
        obtain ⟨y, hyy⟩ : ∃ y, y = M.getD k [] := ⟨_, rfl⟩
        rw [← hxx] at c1 HQ
        rw [← hyy] at c2 HQ
        have HXX := Lib.hid hxx; clear hxx
        have HYY := Lib.hid hyy; clear hyy
        by_cases hxy : x = y
        · have hd : decide (x = y) = true := decide_eq_true hxy
          rw [hd] at HQ
          have HXY := Lib.hid hxy; clear hxy hd
          go_wp2_with (go_at_call 56; refine (HQ.out _ (Ext.refl _)).mono ?_; rintro e w' ⟨rfl, hx2⟩; have HX2 := Lib.hid hx2; clear hx2)
          refine ⟨⟨k + 1, by go_num, by omega, Lib.hid ?_, Lib.hid (hx.out.trans HX2.out)⟩, by simp [intOf]; omega⟩
          rw [List.take_succ_eq_append_getElem hkL, List.take_succ_eq_append_getElem hkM, ht.out, ← HE1.out, ← HE2.out, ← HXX.out, ← HYY.out, HXY.out]
        · have hd : decide (x = y) = false := decide_eq_false hxy
          rw [hd] at HQ
          have HXY := Lib.hid hxy; clear hxy hd
          go_wp2_with (go_at_call 56; refine (HQ.out _ (Ext.refl _)).mono ?_; rintro e w' ⟨rfl, hx2⟩; have HX2 := Lib.hid hx2; clear hx2)
          rw [HR.out]
          refine ⟨?_, hx.out.trans HX2.out⟩
          have : ¬ L = M := by
            intro e
            apply HXY.out
            rw [HXX.out, HYY.out, e]
          rw [decide_eq_false this]
          rfl
      · obtain rfl : k = n := by omega
        go_wp2_with fail
        rw [HR.out]
        have e : L = M := by
          have h := ht.out
          rw [List.take_of_length_le (by have := HN.out; omega), List.take_of_length_le (by have := HP.out; omega)] at h
          exact h
        rw [decide_eq_true e]
        exact ⟨rfl, hx.out⟩
  · have n1 : ((n : Int) != (p : Int)) = true := by rw [bne_iff_ne]; omega
    have HNP := Lib.hid hnp; clear hnp
    go_enter Tryz.func55, Tryz.ntmps55
    go_wp2_with fail
    rw [HR.out]
    have : ¬ L = M := by
      intro e
      apply HNP.out
      rw [HN.out, HP.out, e]
    rw [decide_eq_false this]
    exact ⟨rfl, Ext.refl _⟩
end Go.Proofs.YtnclibfhbngkjaaGreatDoor
namespace Go.Proofs.YtnclibfhbngkjaaGreatDoor
open Go.RowKit
attribute [local go_sem ↓] Go.wp_at_zero Go.wp_at_succ
/-- What Pack answers. -/
def PacksR (N : Nat) (f : BaseF) (w : World) (e : Ending) (w' : World) : Prop :=
  ∃ a c ss, e = .returned (.slice a ss.length c) ∧ NamesF f ss ∧ Parts w' a (packsF f ss) ∧ ss.length ≤ N ∧ Ext w w'
theorem packsF_len (f : BaseF) (ss : List By) : (packsF f ss).length = ss.length := List.length_map _
theorem packsF_take {f : BaseF} {ss : List By} {k : Nat} {x : By} {e : PkgD} (hk : k < ss.length) (hx : x = ss.getD k []) (he : f x = some e) : packsF f (ss.take (k + 1)) = packsF f (ss.take k) ++ [packE e] := by
  have e1 : ss[k] = x := by rw [hx]; simp [List.getD_eq_getElem?_getD, List.getElem?_eq_getElem hk]
  unfold packsF
  rw [List.take_succ_eq_append_getElem hk, List.map_append, e1, List.map_singleton, he]
  rfl
set_option maxRecDepth 100000 in
set_option maxHeartbeats 6400000 in
theorem base_pack (v : Value) (N : Nat) (f : BaseF) (w : World) (hb : BaseM w v N f) (hg : GoodF f) (hN : N ≤ 100000) :
    Calls Tryz.prog 15 #[v] w (PacksR N f w) := by
  obtain ⟨R, hR⟩ : ∃ R, R = PacksR N f w := ⟨_, rfl⟩
  rw [← hR]
  have HR := Lib.hid hR; clear hR
  obtain ⟨pm, A0, rfl, _⟩ := hb.parts
  have hx1 := Ext.alloc w (.cells #[.map pm] 42)
  have hb1 := heap_alloc_new w (.cells #[.map pm] 42)
  go_enter Tryz.func15, Tryz.ntmps15
  go_upto_region 1 with (fail)
  generalize w.alloc (.cells #[.map pm] 42) = w1 at hx1 hb1 ⊢
  obtain ⟨BX, hBX⟩ : ∃ x, x = w.heap.size := ⟨_, rfl⟩
  rw [← hBX] at hb1 ⊢
  clear hBX
  have p0 := blk_cell hb1 0 (Value.map pm) rfl
  have hw := base_names (.agg #[.map pm]) N f w1 (hb.ext hx1) hN
  have HW := Lib.hid hw; clear hw
  have HB := Lib.hid (hb.ext hx1); clear hb
  have HG := Lib.hid hg; clear hg
  have HX1 := Lib.hid hx1; clear hx1
  have HB1 := Lib.hid hb1; clear hb1
  go_wp2_with (go_at_call 20; refine HW.out.mono ?_; rintro e w2 ⟨sa, sc, ss, rfl, hss, hown, hsl, hx2⟩; have HSS := Lib.hid hss; clear hss; have HOW := Lib.hid hown.strs.1; clear hown; have HX2 := Lib.hid hx2; clear hx2)
  clear p0 HW
  obtain ⟨n, hn⟩ : ∃ n, n = ss.length := ⟨_, rfl⟩
  rw [← hn] at hsl ⊢
  have HN := Lib.hid hn; clear hn
  go_loopw [3, 9] (fun v i wr => ∃ (D : List By) (a2 : Option Addr) (cap k : Nat), v = .slice a2 D.length cap ∧ i = .int .i64 k ∧ k ≤ n ∧ Hid (D = packsF f (ss.take k)) ∧ Hid (OwnR wr w2.heap.size a2 cap D) ∧ Hid (Ext w2 wr)) (fun _ i _ => n - (intOf i).toNat)
  case atStart => exact ⟨[], none, 0, 0, rfl, rfl, Nat.zero_le _, Lib.hid rfl, Lib.hid (OwnR.nil _ _), Lib.hid (Ext.refl _)⟩
  case round =>
    obtain ⟨D, a2, cap, k, rfl, rfl, hk, hD, hown, hX⟩ := hrel
    have hDl : D.length ≤ n := by
      rw [hD.out, packsF_len, List.length_take, ← HN.out]
      omega
    by_cases hlt : k < n
    · have hkL : k < ss.length := by have := HN.out; omega
      obtain ⟨g, off, rfl, _, hc⟩ := (HOW.out.ext hX.out).at (by intro e; rw [e] at hkL; simp at hkL)
      have c0 := hc k hkL
      clear hc
      obtain ⟨x, hx⟩ : ∃ x, x = ss.getD k [] := ⟨_, rfl⟩
      rw [← hx] at c0
      have hxs : x ∈ ss := by rw [hx, List.getD_eq_getElem?_getD, List.getElem?_eq_getElem hkL]; simp
      have HX := Lib.hid hx; clear hx
      obtain ⟨b, A, e, hv, hE, hfe⟩ := names_ent HB.out HSS.out hxs
      obtain rfl : pm = some b := by simpa using hv
      clear hv
      have hge := HG.out x e hfe
      have hfl := right_lens hge.2.1
      have hxl : x.length ≤ 100000 := by rw [← hge.1]; omega
      have hkey := key_by hxl
      have hml := hE.1.ext (HX2.out.trans hX.out)
      have hen : entF f A x = some (pkgV e (A x)) := by unfold entF; rw [hfe]; rfl
      have hem := (hE.2 x e hfe).1.ext (HX2.out.trans hX.out)
      generalize A x = Ax at hen hem
      obtain ⟨an, ac, af, au, cn, cc, cf, cu⟩ := Ax
      unfold pkgV at hen
      simp only at hen
      have hpt := base_parts0 e an ac af au cn cc cf cu wr hem (FitP.of_right hge.2.1) hge.2.2
      have hpl : (partsE e).flatten.length ≤ 4000 := (packE_len hge.2.1 hge.2.2).1
      have HPT := Lib.hid hpt; clear hpt hem
      obtain ⟨B, hBB⟩ : ∃ B, B = (partsE e).flatten := ⟨_, rfl⟩
      rw [← hBB] at hpl
      have HBB := Lib.hid hBB; clear hBB
      have HFE := Lib.hid hfe; clear hfe
      clear hge hfl hxs hE
      have q0 := blk_cell ((HX2.out.trans hX.out).heap HB1.out) 0 (Value.map (some b)) rfl
      go_wp2_with (first
        | (at_lookup; refine wpList_look_F rfl _ _ 40 rfl 37 str_keyed Tryz.underlying40 _ (Tryz.zeroValue37 _) b N (entF f A) rfl hml _ x rfl hkey ?_; rw [hen, Option.getD_some]; go_frame)
        | (go_at_call 54; refine HPT.out.mono ?_; rintro E w3 ⟨pa, pc, rfl, hps, hx3⟩; have hpk := rec_pack pa pc (partsE e) w3 hps (by rw [← HBB.out]; omega) (by simp [partsE]); rw [← HBB.out] at hpk; have HPK := Lib.hid hpk; have HX3 := Lib.hid hx3; clear hpk hps hx3)
        | (go_at_call 53; refine HPK.out.mono ?_; rintro E w4 ⟨pb, pd, rfl, hob, hx4⟩; have hrn := row_one hown.out HX3.out hob; have HRN := Lib.hid hrn; have HX4 := Lib.hid (HX3.out.trans hx4); clear hrn hob hx4)
        | (at_builtin; refine append_rows rfl _ _ rfl w2.heap.size a2 cap D rfl ((hown.out.ext HX4.out).ext (Ext.alloc _ _)) [.slice pb B.length pd] [B] w4.heap.size 1 rfl rfl (heap_alloc_new w4 _) (HRN.out.keep (Keep.of_ext (Ext.alloc _ _))) (by omega) (by omega) ?_ ?_; (have hs3 := HX4.out.size; have hs2 := hX.out.size; simp; omega); intro g1 cap1 w5 hown4 hk4 hb4)
        | go_in)
      have hsx := HX4.out.size
      have hs2 := hX.out.size
      refine ⟨⟨D ++ [B], some ⟨g1, 0, none⟩, cap1, k + 1, by simp, by go_num, by omega, Lib.hid (by rw [hD.out, packsF_take hkL HX.out HFE.out, HBB.out]; rfl), Lib.hid hown4, Lib.hid (Ext.of_below' (hX.out.trans (HX4.out.trans (Ext.alloc w4 _))) hb4)⟩, by simp [intOf]; omega⟩
    · obtain rfl : k = n := by omega
      go_wp2_with fail
      rw [HR.out]
      have hD2 := hD.out
      rw [List.take_of_length_le (by have := HN.out; omega)] at hD2
      refine ⟨a2, cap, ss, ?_, HSS.out, by rw [← hD2]; exact hown.out.parts, by rw [← HN.out]; exact hsl, HX1.out.trans (HX2.out.trans hX.out)⟩
      rw [hD2, packsF_len]
      rfl
end Go.Proofs.YtnclibfhbngkjaaGreatDoor
namespace Go.Proofs.YtnclibfhbngkjaaGreatDoor
open Go.RowKit
attribute [local go_sem ↓] Go.wp_at_zero Go.wp_at_succ
theorem packs_small {f : BaseF} {ss : List By} (hg : GoodF f) (h : NamesF f ss) : ∀ l ∈ packsF f ss, l.length ≤ 100000 := by
  intro l hl
  obtain ⟨n, hn, rfl⟩ := List.mem_map.1 hl
  obtain ⟨e, he⟩ := Option.isSome_iff_exists.1 ((h.2.2 n).1 hn)
  have hge := hg n e he
  have := (packE_len hge.2.1 hge.2.2).1
  rw [he]
  simp only [Option.getD_some]
  omega
set_option maxRecDepth 100000 in
set_option maxHeartbeats 6400000 in
theorem base_same (u v : Value) (M N : Nat) (f g : BaseF) (w : World) (hu : BaseM w u M f) (hv : BaseM w v N g) (hf : GoodF f) (hg : GoodF g) (hM : M ≤ 100000) (hN : N ≤ 100000) :
    Calls Tryz.prog 16 #[u, v] w fun e w' => (∃ q, e = .returned (.bool q) ∧ (q = true ↔ f = g)) ∧ Ext w w' := by
  obtain ⟨R, hR⟩ : ∃ R : Ending → World → Prop, R = fun e w' => (∃ q, e = .returned (.bool q) ∧ (q = true ↔ f = g)) ∧ Ext w w' := ⟨_, rfl⟩
  rw [← hR]
  have HR := Lib.hid hR; clear hR
  obtain ⟨pm, A0, rfl, _⟩ := hu.parts
  obtain ⟨qm, A1, rfl, _⟩ := hv.parts
  have hx1 : Ext w ((w.alloc (.cells #[.map pm] 42)).alloc (.cells #[.map qm] 42)) := (Ext.alloc _ _).trans (Ext.alloc _ _)
  have hb1 := (Ext.alloc _ (.cells #[.map qm] 42)).heap (heap_alloc_new w (.cells #[.map pm] 42))
  have hc1 := heap_alloc_new (w.alloc (.cells #[.map pm] 42)) (.cells #[.map qm] 42)
  rw [World.size_alloc] at hc1
  go_enter Tryz.func16, Tryz.ntmps16
  go_upto_region 1 with (fail)
  generalize (w.alloc (.cells #[.map pm] 42)).alloc (.cells #[.map qm] 42) = w1 at hx1 hb1 hc1 ⊢
  obtain ⟨BX, hBX⟩ : ∃ x, x = w.heap.size := ⟨_, rfl⟩
  obtain ⟨BY, hBY⟩ : ∃ x, x = w.heap.size + 1 := ⟨_, rfl⟩
  rw [← hBY] at hc1
  rw [← hBX] at hb1
  rw [← hBY, ← hBX]
  clear hBX hBY
  have HU := Lib.hid (hu.ext hx1); clear hu
  have HV := Lib.hid (hv.ext hx1); clear hv
  have HG1 := Lib.hid hf; clear hf
  have HG2 := Lib.hid hg; clear hg
  have HX1 := Lib.hid hx1; clear hx1
  have hcs : ∀ W, Ext w1 W → W.cell? ⟨BX, 0, none⟩ = some (.map pm) ∧ W.cell? ⟨BY, 0, none⟩ = some (.map qm) := fun W k => ⟨blk_cell (k.heap hb1) 0 _ rfl, blk_cell (k.heap hc1) 0 _ rfl⟩
  have HCS := Lib.hid hcs; clear hcs hb1 hc1
  have HK := Lib.hid ((Ext.refl w1).drew)
  refine wp_region_noPanic ?_
  refine wp_region_held_drew (S := (fun W => W.cell? ⟨BX, 0, none⟩ = some (.map pm) ∧ W.cell? ⟨BY, 0, none⟩ = some (.map qm))) (by kernel_rfl) (HCS.out _ HK.out) (fun hHeld => ?_)
  clear hHeld
  generalize w1.drew = wc at HK ⊢
  refine wpAnyH_take (i := 0) (v := ?_) rfl (by kernel_rfl) (by kernel_rfl) (by kernel_rfl) (fun _ _ _ h => h) (Or.inl ⟨by kernel_rfl, ?_⟩) (HCS.out _ HK.out) ?_
  rotate_left
  · (intro wq hSw; (try dsimp only at hSw); first | (go_simp; done) | (go_simp; with_reducible rfl))
  try simp only [List.getElem_toArray, List.getElem_cons_zero, List.getElem_cons_succ, Act.put, List.setIfInBounds_toArray, List.set_cons_zero, List.set_cons_succ]
  refine wpAnyH_take (i := 2) (v := ?_) rfl (by kernel_rfl) (by kernel_rfl) (by kernel_rfl) (fun _ _ _ h => h) (Or.inl ⟨by kernel_rfl, ?_⟩) (HCS.out _ HK.out) ?_
  rotate_left
  · (intro wq hSw; (try dsimp only at hSw); first | (go_simp; done) | (go_simp; with_reducible rfl))
  try simp only [List.getElem_toArray, List.getElem_cons_zero, List.getElem_cons_succ, Act.put, List.setIfInBounds_toArray, List.set_cons_zero, List.set_cons_succ]
  all_goals (
    first
      | refine wpAnyH_ready (rs := [1]) (by decide +kernel) (by simp) ?_
    repeat' (first | exact AllReadyH.nil | (refine AllReadyH.cons rfl (fun K hK => ?_) ?_)))
  all_goals (
    go_simp
    first
      | (go_at_call 15
         refine (base_pack (.agg #[.map pm]) M f wc (HU.out.ext HK.out) HG1.out (by omega)).mono ?_
         rintro E wn ⟨a1, c1, s1, rfl, hns, hps, hls, hx⟩
         replace HK := Lib.hid (HK.out.trans hx)
         have HP1 := Lib.hid hps
         have HN1 := Lib.hid hns
         have HLS1 := Lib.hid hls
         clear hps hns hls hx
         go_wp2_with fail
         refine hK.out _ _ (HCS.out _ HK.out) (fun _ => ?_)
         clear hK K
         obtain ⟨wc, rfl⟩ : ∃ x : World, x = wn := ⟨_, rfl⟩
         try simp only [List.getElem_toArray, List.getElem_cons_zero, List.getElem_cons_succ, Act.put, List.setIfInBounds_toArray, List.set_cons_zero, List.set_cons_succ]))
  all_goals (
    first
      | refine wpAnyH_ready (rs := [3]) (by decide +kernel) (by simp) ?_
    repeat' (first | exact AllReadyH.nil | (refine AllReadyH.cons rfl (fun K hK => ?_) ?_)))
  all_goals (
    go_simp
    first
      | (go_at_call 15
         refine (base_pack (.agg #[.map qm]) N g wc (HV.out.ext HK.out) HG2.out (by omega)).mono ?_
         rintro E wn ⟨a2, c2, s2, rfl, hns, hps, hls, hx⟩
         replace HP1 := Lib.hid (HP1.out.ext hx)
         replace HK := Lib.hid (HK.out.trans hx)
         have HP2 := Lib.hid hps
         have HN2 := Lib.hid hns
         have HLS2 := Lib.hid hls
         clear hps hns hls hx
         go_wp2_with fail
         refine hK.out _ _ (HCS.out _ HK.out) (fun _ => ?_)
         clear hK K
         obtain ⟨wc, rfl⟩ : ∃ x : World, x = wn := ⟨_, rfl⟩
         try simp only [List.getElem_toArray, List.getElem_cons_zero, List.getElem_cons_succ, Act.put, List.setIfInBounds_toArray, List.set_cons_zero, List.set_cons_succ]
         refine wpAnyH_take (i := 4) (v := ?_) rfl (by kernel_rfl) (by kernel_rfl) (by kernel_rfl) (fun _ _ _ h => h) (Or.inl ⟨by kernel_rfl, ?_⟩) (HCS.out _ HK.out) ?_
         rotate_left
         · (intro wq _; first | (go_simp; done) | (go_simp; with_reducible rfl))
         try simp only [List.getElem_toArray, List.getElem_cons_zero, List.getElem_cons_succ, Act.put, List.setIfInBounds_toArray, List.set_cons_zero, List.set_cons_succ]
         refine wpAnyH_take (i := 5) (v := ?_) rfl (by kernel_rfl) (by kernel_rfl) (by kernel_rfl) (fun _ _ _ h => h) (Or.inl ⟨by kernel_rfl, ?_⟩) (HCS.out _ HK.out) ?_
         rotate_left
         · (intro wq _; first | (go_simp; done) | (go_simp; with_reducible rfl))
         try simp only [List.getElem_toArray, List.getElem_cons_zero, List.getElem_cons_succ, Act.put, List.setIfInBounds_toArray, List.set_cons_zero, List.set_cons_succ]))
  all_goals (
    refine wpAnyH_done (by kernel_rfl) ?_ _
    refine NoPanic.normal ?_
    go_wp2_with (go_at_call 55; have hre := rows_equal a1 a2 c1 c2 _ _ wc HP1.out HP2.out (packs_small HG1.out HN1.out) (packs_small HG2.out HN2.out) (by rw [packsF_len]; have := HLS1.out; omega) (by rw [packsF_len]; have := HLS2.out; omega); rw [packsF_len, packsF_len] at hre; refine hre.mono ?_; rintro E we ⟨rfl, hx⟩; have HXE := Lib.hid hx; clear hx hre)
    rw [HR.out]
    refine ⟨⟨_, rfl, ?_⟩, HX1.out.trans (HK.out.trans HXE.out)⟩
    rw [decide_eq_true_eq]
    exact packs_iff HG1.out HG2.out HN1.out HN2.out)
end Go.Proofs.YtnclibfhbngkjaaGreatDoor
