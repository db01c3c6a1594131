/- farrierref13.line, word, has: the document's answer to a line. -/
import Derived.Test.YtedfpoidggpkdaaDoorRef13
import Derived.Test.YtedfpoidggpkdaaDoorUnitTell
import Derived.Deep.DeepCutAuto
import Derived.Deep.CutBlock
import Derived.Outline
namespace Go.Proofs.YtedfpoidggpkdaaDoor
open Go.RowKit
/-- farrierref13.has. -/
theorem has_ref13 (a : Option Addr) (L : List Bs) (c : Nat) (s : Bs) (w : World) (hS : Strs w a L) (hL : L.length ≤ 1099511627776) :
    Calls Tryd.prog 85 #[.slice a L.length c, .string (bs s)] w fun e w' => e = .returned (.bool (decide (s ∈ L))) ∧ w = w' := by
  have HS := Lib.hid hS; clear hS
  obtain ⟨R, hR⟩ : ∃ R : Ending → World → Prop, R = fun e w' => e = .returned (.bool (decide (s ∈ L))) ∧ w = w' := ⟨_, rfl⟩
  rw [← hR]
  have HR := Lib.hid hR; clear hR
  go_enter Tryd.func85, Tryd.ntmps85
  go_wp2_with fail
  go_loop [5] (fun i => ∃ m : Nat, i = .int .i64 m ∧ m ≤ L.length ∧ Hid (s ∉ L.take m)) (fun i => L.length - (intOf i).toNat)
  case atStart => exact ⟨0, rfl, Nat.zero_le _, Lib.hid (by simp)⟩
  case round =>
    obtain ⟨m, rfl, hm, hno⟩ := hrel
    by_cases hlt : m < L.length
    · obtain ⟨g, off, rfl, _, hc⟩ := HS.out.at (by intro e; rw [e] at hlt; simp at hlt)
      have h1 := hc m hlt
      clear hc
      obtain ⟨p, hp⟩ : ∃ p, p = L.getD m [] := ⟨_, rfl⟩
      rw [← hp] at h1
      have HP := Lib.hid hp; clear hp
      by_cases hps : p = s
      · have hm : s ∈ L := by
          rw [← hps, HP.out, List.getD_eq_getElem?_getD, List.getElem?_eq_getElem hlt]
          exact List.getElem_mem hlt
        have HM := Lib.hid hm; clear hm
        have hq := bs_beq_eq hps
        clear hps
        go_wp2_with fail
        rw [HR.out]
        exact ⟨ret_bool (by simp [HM.out]), rfl⟩
      · have hq := bs_beq_ne hps
        have HN := Lib.hid (take_mem hlt hno.out (by rw [← HP.out]; exact hps))
        clear hps
        go_wp2_with fail
        go_round
        case rel => exact ⟨m + 1, by go_num, by omega, HN⟩
        case measure => simp [intOf]; omega
    · have hkk : m = L.length := by omega
      have hn := hno.out
      rw [hkk, List.take_length] at hn
      have HN := Lib.hid hn; clear hn hkk
      go_wp2_with fail
      rw [HR.out]
      exact ⟨ret_bool (by simp [HN.out]), rfl⟩
/-- A word's number in the document's list. -/
def wordI (w : Bs) : Int := if wordN w = 0 then -1 else (wordN w : Int) - 2
theorem wordI_at (k : Nat) (h : k < 5) : wordI (wordOf (k + 2)) = k := by
  have hf : k = 0 ∨ k = 1 ∨ k = 2 ∨ k = 3 ∨ k = 4 := by omega
  rcases hf with rfl | rfl | rfl | rfl | rfl <;> decide
theorem wordI_no (w : Bs) (h : ∀ j, j < 5 → wordOf (j + 2) ≠ w) : wordI w = -1 := by
  unfold wordI
  by_cases h0 : wordN w = 0
  · rw [if_pos h0]
  · have h1 := wordN_ne1 w
    have h6 := wordN_le w
    have := h (wordN w - 2) (by omega)
    rw [show wordN w - 2 + 2 = wordN w by omega, wordOf_N w h0] at this
    exact absurd rfl this
theorem cell_words {w : World} {B : Nat} {t : TypeId} (h : w.heap[B]? = some (.cells wordsV t (0, 0))) (k : Nat) (hk : k < 5) : w.cell? ⟨B, k, none⟩ = some (.string (bs (wordOf (k + 2)))) := blk_cell h k _ (wordsV_at k hk)
theorem word_ref13 (s : Bs) (w : World) :
    Calls Tryd.prog 86 #[.string (bs s)] w fun e w' => e = .returned (.int .i64 (wordI s)) ∧ Ext w w' := by
  obtain ⟨R, hR⟩ : ∃ R : Ending → World → Prop, R = fun e w' => e = .returned (.int .i64 (wordI s)) ∧ Ext w w' := ⟨_, rfl⟩
  rw [← hR]
  have HR := Lib.hid hR; clear hR
  have hb := heap_alloc_new w (.cells wordsV 9)
  have HB := Lib.hid hb; clear hb
  have HX := Lib.hid (Ext.alloc w (.cells wordsV 9))
  unfold wordsV at HB HX
  go_enter Tryd.func86, Tryd.ntmps86
  go_wp2_with fail
  go_loop [4] (fun i => ∃ m : Nat, i = .int .i64 m ∧ m ≤ 5 ∧ Hid (∀ j, j < m → wordOf (j + 2) ≠ s)) (fun i => 5 - (intOf i).toNat)
  case atStart => exact ⟨0, rfl, by omega, Lib.hid (fun j hj => by omega)⟩
  case round =>
    obtain ⟨m, rfl, hm, hno⟩ := hrel
    by_cases hlt : m < 5
    · have h1 := cell_words HB.out m hlt
      obtain ⟨p, hp⟩ : ∃ p, p = wordOf (m + 2) := ⟨_, rfl⟩
      rw [← hp] at h1
      have HP := Lib.hid hp; clear hp
      by_cases hps : p = s
      · have hq := bs_beq_eq hps
        have HM := Lib.hid hps
        clear hps
        go_wp2_with fail
        rw [HR.out]
        exact ⟨ret_int (by rw [← HM.out, HP.out, wordI_at m hlt]), HX.out⟩
      · have hq := bs_beq_ne hps
        have HN : Hid (∀ j, j < m + 1 → wordOf (j + 2) ≠ s) := Lib.hid (fun j hj => by
          by_cases hjm : j < m
          · exact hno.out j hjm
          · have : j = m := by omega
            subst this; rw [← HP.out]; exact hps)
        clear hps
        go_wp2_with fail
        go_round
        case rel => exact ⟨m + 1, by go_num, by omega, HN⟩
        case measure => simp [intOf]; omega
    · have hkk : m = 5 := by omega
      have hn := hno.out
      rw [hkk] at hn
      have HN := Lib.hid hn; clear hn hkk
      go_wp2_with fail
      rw [HR.out]
      exact ⟨ret_int (by rw [wordI_no s HN.out]), HX.out⟩
/-- What a line makes of a unit, in memory. -/
def RLineR (A0 : Nat → Option Addr) (o : UnitD × Nat) (w : World) (e : Ending) (w' : World) : Prop := ∃ A C, e = .returned (.tuple #[unitV o.1 A C, .int .i64 (o.2 : Int)]) ∧ UnitR w' o.1 A ∧ (∀ f g off, A f = some ⟨g, off, none⟩ → A0 f = some ⟨g, off, none⟩ ∨ w.heap.size ≤ g) ∧ Ext w w'
theorem cutW_at {l : Bs} {k : Nat} (hk : k < l.length) (h : 32 ∉ l.take k) (h32 : l[k] = 32) : cutW l = (l.take k, l.drop (k + 1)) := by
  have e : l = l.take k ++ 32 :: l.drop (k + 1) := by
    conv => lhs; rw [← List.take_append_drop k l, List.drop_eq_getElem_cons hk, h32]
  unfold cutW
  conv => lhs; rw [e]
  rw [cut_some _ h]
theorem cutW_no {l : Bs} (h : 32 ∉ l) : cutW l = (l, []) := by unfold cutW; rw [cut_none h]
theorem digN_none {l : Bs} (h : l.length ≠ 1) : digN l = none := by
  unfold digN
  split
  · simp at h
  · rfl
/-- A list of the call's own, behind two stores elsewhere. -/
theorem OwnS.two {w1 w2 w3 : World} {base g cap R R' : Nat} {D : List Bs} (h : OwnS w1 base (some ⟨g, 0, none⟩) cap D) (hR : R < base ∧ R' < base) (k : But R w1 w2) (k' : But R' w2 w3) : Strs w3 (some ⟨g, 0, none⟩) D := by
  rcases h.strs.1 with h0 | ⟨g', off, ha, hg, hc⟩
  · exact Or.inl h0
  · have hgb : base ≤ g' := by
      rcases h.2 with ⟨e, _⟩ | ⟨g2, c, cur, e, hb, _⟩
      · cases e
      · simp only [Value.slice.injEq, Option.some.injEq, Addr.mk.injEq] at e ha
        omega
    exact Or.inr ⟨g', off, ha, Nat.lt_of_lt_of_le hg (Nat.le_trans k.size k'.size), fun i hi => k'.cell (by omega) (k.cell (by omega) (hc i hi))⟩
theorem OwnS.ge {w : World} {base g off cap : Nat} {D : List Bs} (h : OwnS w base (some ⟨g, off, none⟩) cap D) : base ≤ g := by
  rcases h.2 with ⟨e, _⟩ | ⟨g2, c, cur, e, hb, _⟩
  · cases e
  · simp only [Value.slice.injEq, Option.some.injEq, Addr.mk.injEq] at e
    omega
theorem at_put {n g : Nat} {A : Nat → Option Addr} (f : Nat) (h : n ≤ g) : ∀ j g' off, (fun j => if j = f then some (⟨g, 0, none⟩ : Addr) else A j) j = some ⟨g', off, none⟩ → A j = some ⟨g', off, none⟩ ∨ n ≤ g' := by
  intro j g' off e
  by_cases hj : j = f
  · simp only [if_pos hj, Option.some.injEq, Addr.mk.injEq] at e
    right; omega
  · simp only [if_neg hj] at e
    exact Or.inl e
theorem unitR_put {w w' : World} {u : UnitD} {A : Nat → Option Addr} (f : Nat) (h1 : 1 ≤ f) (h6 : f ≤ 6) {X : List Bs} {a : Option Addr} (h : UnitR w u A) (k : Ext w w') (hX : Strs w' a X) : UnitR w' (u.put f X) (fun j => if j = f then a else A j) := by
  intro j j1 j6
  rw [row_put u f j X h1 h6 j1 j6]
  by_cases e : j = f
  · simp only [if_pos e]; exact hX
  · simp only [if_neg e]; exact (h j j1 j6).ext k
set_option maxRecDepth 100000 in
set_option maxHeartbeats 3200000 in
theorem ref_line (u : UnitD) (A : Nat → Option Addr) (C : Nat → Nat) (l : Bs) (w : World) (hl : l.length ≤ 1000000) (hA : UnitR w u A) (h8 : ∀ f, 1 ≤ f → f ≤ 6 → (u.row f).length ≤ 8) :
    Calls Tryd.prog 68 #[unitV u A C, .string (bs l)] w (RLineR A (lineU u (cutW l).1 (cutW l).2) w) := by
  obtain ⟨R, hR⟩ : ∃ R, R = RLineR A (lineU u (cutW l).1 (cutW l).2) w := ⟨_, rfl⟩
  rw [← hR]
  have HR := Lib.hid hR; clear hR
  have HUR := Lib.hid hA; clear hA
  have H8 := Lib.hid h8; clear h8
  have hlz : (bs l).size ≤ 1000000 := by rw [bs_size]; exact hl
  unfold unitV
  go_enter Tryd.func68, Tryd.ntmps68
  go_upto_block 0 with fail
  go_cut [6, 7] (fun a b wx => a = .string (bs (cutW l).1) ∧ b = .string (bs (cutW l).2) ∧ wx = (w.alloc (.cells #[.string (bs u.name), .slice (A 1) u.files.length (C 1), .slice (A 2) u.after.length (C 2), .slice (A 3) u.before.length (C 3), .slice (A 4) u.reqs.length (C 4), .slice (A 5) u.wants.length (C 5), .slice (A 6) u.partof.length (C 6), .int .i64 u.retry] 61)).alloc (.cells #[.string ⟨#[]⟩, .slice none 0 0, .slice none 0 0, .slice none 0 0, .slice none 0 0, .slice none 0 0, .slice none 0 0, .int .i64 0] 61))
  case first =>
    go_wp2_with fail
    go_loop [6, 7, 8] (fun a b i => ∃ k : Nat, a = .string (bs l) ∧ b = .string ⟨#[]⟩ ∧ i = .int .i64 k ∧ k ≤ (bs l).size ∧ Hid (32 ∉ l.take k)) (fun _ _ i => (bs l).size - (intOf i).toNat)
    case atStart => exact ⟨0, rfl, rfl, rfl, Nat.zero_le _, Lib.hid (by simp)⟩
    case round =>
      obtain ⟨k, rfl, rfl, rfl, hk, hno⟩ := hrel
      by_cases hlt : k < (bs l).size
      · have hkl : k < l.length := by rw [← bs_size]; exact hlt
        by_cases h32 : l[k] = 32
        · have hq : ((((bs l)[k]'hlt).toNat : Int) == 32) = true := by
            have : ((bs l)[k]'hlt) = l[k] := rfl
            rw [this, h32]; rfl
          have HC := Lib.hid (cutW_at hkl hno.out h32); clear h32
          go_wp2_with fail
          all_goals try (exfalso; omega)
          go_meet
          refine ⟨?_, ?_, rfl⟩
          · rw [HC.out, extract_bs, bs_data]; simp
          · rw [HC.out, extract_bs, bs_data, bs_size, List.take_of_length_le (by simp)]
        · have hq : ((((bs l)[k]'hlt).toNat : Int) == 32) = false := by
            have e : ((bs l)[k]'hlt) = l[k] := rfl
            rw [e]
            have : l[k].toNat ≠ 32 := fun e => h32 (UInt8.toNat_inj.1 (by rw [e]; rfl))
            simp; omega
          have HN : Hid (32 ∉ l.take (k + 1)) := Lib.hid (by
            rw [List.take_succ_eq_append_getElem hkl]
            intro hm
            rcases List.mem_append.1 hm with hm | hm
            · exact hno.out hm
            · simp at hm; exact h32 hm.symm)
          clear h32
          go_wp2_with fail
          go_round
          case rel => exact ⟨k + 1, rfl, rfl, by go_num, by omega, HN⟩
          case measure => simp [intOf]; omega
      · have hkk : k = l.length := by rw [bs_size] at hk hlt; omega
        have hn := hno.out
        rw [hkk, List.take_length] at hn
        have HC := Lib.hid (cutW_no hn); clear hn hkk
        go_wp2_with fail
        go_meet
        exact ⟨by rw [HC.out], by rw [HC.out]; rfl, rfl⟩
  case rest =>
    obtain ⟨rfl, rfl, rfl⟩ := hcut
    have hcl := cutW_len l
    have hb0a := (Ext.alloc (w.alloc (.cells #[.string (bs u.name), .slice (A 1) u.files.length (C 1), .slice (A 2) u.after.length (C 2), .slice (A 3) u.before.length (C 3), .slice (A 4) u.reqs.length (C 4), .slice (A 5) u.wants.length (C 5), .slice (A 6) u.partof.length (C 6), .int .i64 u.retry] 61)) (.cells #[.string ⟨#[]⟩, .slice none 0 0, .slice none 0 0, .slice none 0 0, .slice none 0 0, .slice none 0 0, .slice none 0 0, .int .i64 0] 61)).heap (heap_alloc_new w (.cells #[.string (bs u.name), .slice (A 1) u.files.length (C 1), .slice (A 2) u.after.length (C 2), .slice (A 3) u.before.length (C 3), .slice (A 4) u.reqs.length (C 4), .slice (A 5) u.wants.length (C 5), .slice (A 6) u.partof.length (C 6), .int .i64 u.retry] 61))
    have hb1a := heap_alloc_new (w.alloc (.cells #[.string (bs u.name), .slice (A 1) u.files.length (C 1), .slice (A 2) u.after.length (C 2), .slice (A 3) u.before.length (C 3), .slice (A 4) u.reqs.length (C 4), .slice (A 5) u.wants.length (C 5), .slice (A 6) u.partof.length (C 6), .int .i64 u.retry] 61)) (.cells #[.string ⟨#[]⟩, .slice none 0 0, .slice none 0 0, .slice none 0 0, .slice none 0 0, .slice none 0 0, .slice none 0 0, .int .i64 0] 61)
    have hxa : Ext w ((w.alloc (.cells #[.string (bs u.name), .slice (A 1) u.files.length (C 1), .slice (A 2) u.after.length (C 2), .slice (A 3) u.before.length (C 3), .slice (A 4) u.reqs.length (C 4), .slice (A 5) u.wants.length (C 5), .slice (A 6) u.partof.length (C 6), .int .i64 u.retry] 61)).alloc (.cells #[.string ⟨#[]⟩, .slice none 0 0, .slice none 0 0, .slice none 0 0, .slice none 0 0, .slice none 0 0, .slice none 0 0, .int .i64 0] 61)) := (Ext.alloc _ _).trans (Ext.alloc _ _)
    rw [World.size_alloc] at hb1a
    generalize cutW l = cw at *
    obtain ⟨wd, rs⟩ := cw
    simp only at HR hcl
    have HSP := Lib.hid (fun W => split_weak rs W)
    have HNM : Hid (∀ W, Calls Tryd.prog 20 #[.string (bs rs)] W fun e w' => e = .returned (.bool (nameL rs)) ∧ W = w') := Lib.hid (fun W => by have := ref_name (bs rs) W; rwa [bs_data] at this)
    have HB0A := Lib.hid hb0a; clear hb0a
    have HB1A := Lib.hid hb1a; clear hb1a
    have HXA := Lib.hid hxa; clear hxa
    go_upto_region 10 with (go_at_call 16; refine (HSP.out _).mono ?_; rintro e W ⟨sa, sn, sc, sb, rfl, hsr, hxs⟩)
    have hb0 := hxs.heap HB0A.out
    have hb1 := hxs.heap HB1A.out
    have HXW := Lib.hid (HXA.out.trans hxs); clear hxs HB0A HB1A HXA HSP
    have HSR := Lib.hid hsr; clear hsr
    have hzw : w.heap.size + 1 < W.heap.size := (Array.getElem?_eq_some_iff.1 hb1).1
    by_cases h1 : wd = wUnit
    · have hq : ((bs wd).toList == [117, 110, 105, 116]) = true := word_eq h1
      have H1 := Lib.hid h1; clear h1
      cases hn : nameL rs with
      | false =>
        rw [hn] at HNM
        have HL : Hid (lineU u wd rs = (u, 14)) := Lib.hid (by unfold lineU; rw [if_pos H1.out, if_pos hn]); clear hn
        go_upto_region 12 with (go_at_call 20; refine (HNM.out _).mono ?_; rintro e w2 ⟨rfl, rfl⟩)
        have c0 := blk_cell hb0 0 _ rfl
        have c1 := blk_cell hb0 1 _ rfl
        have c2 := blk_cell hb0 2 _ rfl
        have c3 := blk_cell hb0 3 _ rfl
        have c4 := blk_cell hb0 4 _ rfl
        have c5 := blk_cell hb0 5 _ rfl
        have c6 := blk_cell hb0 6 _ rfl
        have c7 := blk_cell hb0 7 _ rfl
        have y0 := blk_cell hb1 0 _ rfl
        have f0 := blk_free hb1 0
        have y1 := blk_cell hb1 1 _ rfl
        have f1 := blk_free hb1 1
        have y2 := blk_cell hb1 2 _ rfl
        have f2 := blk_free hb1 2
        have y3 := blk_cell hb1 3 _ rfl
        have f3 := blk_free hb1 3
        have y4 := blk_cell hb1 4 _ rfl
        have f4 := blk_free hb1 4
        have y5 := blk_cell hb1 5 _ rfl
        have f5 := blk_free hb1 5
        have y6 := blk_cell hb1 6 _ rfl
        have f6 := blk_free hb1 6
        have y7 := blk_cell hb1 7 _ rfl
        have f7 := blk_free hb1 7
        have Hb1 := Lib.hid hb1; clear hb1
        have Hb0 := Lib.hid hb0; clear hb0
        go_wp2_with fail
        have hs8 := set8 Hb1.out (.string (bs u.name)) (.slice (A 1) u.files.length (C 1)) (.slice (A 2) u.after.length (C 2)) (.slice (A 3) u.before.length (C 3)) (.slice (A 4) u.reqs.length (C 4)) (.slice (A 5) u.wants.length (C 5)) (.slice (A 6) u.partof.length (C 6)) (.int .i64 u.retry)
        obtain ⟨hs8, hbut⟩ := hs8
        generalize ((((((((W.setCell ⟨w.heap.size + 1, 0, none⟩ (.string (bs u.name))).setCell ⟨w.heap.size + 1, 1, none⟩ (.slice (A 1) u.files.length (C 1))).setCell ⟨w.heap.size + 1, 2, none⟩ (.slice (A 2) u.after.length (C 2))).setCell ⟨w.heap.size + 1, 3, none⟩ (.slice (A 3) u.before.length (C 3))).setCell ⟨w.heap.size + 1, 4, none⟩ (.slice (A 4) u.reqs.length (C 4))).setCell ⟨w.heap.size + 1, 5, none⟩ (.slice (A 5) u.wants.length (C 5))).setCell ⟨w.heap.size + 1, 6, none⟩ (.slice (A 6) u.partof.length (C 6))).setCell ⟨w.heap.size + 1, 7, none⟩ (.int .i64 u.retry)) = wf at hs8 hbut ⊢
        have z0 := blk_cell hs8 0 _ rfl
        have z1 := blk_cell hs8 1 _ rfl
        have z2 := blk_cell hs8 2 _ rfl
        have z3 := blk_cell hs8 3 _ rfl
        have z4 := blk_cell hs8 4 _ rfl
        have z5 := blk_cell hs8 5 _ rfl
        have z6 := blk_cell hs8 6 _ rfl
        have z7 := blk_cell hs8 7 _ rfl
        refine bodyPost_ret (v := .tuple #[.agg #[.string (bs u.name), .slice (A 1) u.files.length (C 1), .slice (A 2) u.after.length (C 2), .slice (A 3) u.before.length (C 3), .slice (A 4) u.reqs.length (C 4), .slice (A 5) u.wants.length (C 5), .slice (A 6) u.partof.length (C 6), .int .i64 u.retry], .int .i64 14]) (by simp [results, Tryd.results68, go_sem, z0, z1, z2, z3, z4, z5, z6, z7]) rfl ?_
        rw [HR.out, HL.out]
        exact ⟨A, C, rfl, fun f a b => (HUR.out f a b).ext (hbut.ext (HXW.out) (by omega)), fun _ _ _ h => Or.inl h, hbut.ext (HXW.out) (by omega)⟩
      | true =>
        rw [hn] at HNM
        have d0 := blk_cell hb0 0 _ rfl
        by_cases h0 : u.name = []
        · have HL : Hid (lineU u wd rs = ({ u with name := rs }, 0)) := Lib.hid (by unfold lineU; rw [if_pos H1.out, if_neg (by rw [hn]; decide), if_neg (by rw [h0]; simp)]); clear hn
          have hq1 : ((bs u.name).toList.isEmpty) = true := by rw [bs_toList, h0]; rfl
          have hq2 : (!(bs u.name).toList.isEmpty) = false := by rw [bs_toList, h0]; rfl
          have H0 := Lib.hid h0; clear h0
          have e0 := blk_free hb0 0
          go_upto_region 16 with (go_at_call 20; refine (HNM.out _).mono ?_; rintro e w2 ⟨rfl, rfl⟩)
          clear d0 e0
          have hb0s : (W.setCell ⟨w.heap.size, 0, none⟩ (.string (bs rs))).heap[w.heap.size]? = some (.cells #[.string (bs rs), .slice (A 1) u.files.length (C 1), .slice (A 2) u.after.length (C 2), .slice (A 3) u.before.length (C 3), .slice (A 4) u.reqs.length (C 4), .slice (A 5) u.wants.length (C 5), .slice (A 6) u.partof.length (C 6), .int .i64 u.retry] 61 (0, 0)) := setCell_row (i := 0) hb0 _
          have hbt : But w.heap.size W (W.setCell ⟨w.heap.size, 0, none⟩ (.string (bs rs))) := (But.refl w.heap.size W).setCell 0 (.string (bs rs))
          have hb1s : (W.setCell ⟨w.heap.size, 0, none⟩ (.string (bs rs))).heap[w.heap.size + 1]? = some (.cells #[.string ⟨#[]⟩, .slice none 0 0, .slice none 0 0, .slice none 0 0, .slice none 0 0, .slice none 0 0, .slice none 0 0, .int .i64 0] 61 (0, 0)) := (hbt.block (w.heap.size + 1) (by omega) (by omega)).trans hb1
          have hxs2 : Ext w (W.setCell ⟨w.heap.size, 0, none⟩ (.string (bs rs))) := But.ext (HXW.out) hbt (Nat.le_refl _)
          have hsz2 : w.heap.size + 1 < (W.setCell ⟨w.heap.size, 0, none⟩ (.string (bs rs))).heap.size := by have := hbt.size; omega
          generalize W.setCell ⟨w.heap.size, 0, none⟩ (.string (bs rs)) = W2 at hb0s hb1s hxs2 hbt hsz2 ⊢
          have HX2 := Lib.hid hxs2; clear hxs2
          have HBT := Lib.hid hbt; clear hbt
          have c0 := blk_cell hb0s 0 _ rfl
          have c1 := blk_cell hb0s 1 _ rfl
          have c2 := blk_cell hb0s 2 _ rfl
          have c3 := blk_cell hb0s 3 _ rfl
          have c4 := blk_cell hb0s 4 _ rfl
          have c5 := blk_cell hb0s 5 _ rfl
          have c6 := blk_cell hb0s 6 _ rfl
          have c7 := blk_cell hb0s 7 _ rfl
          have y0 := blk_cell hb1s 0 _ rfl
          have f0 := blk_free hb1s 0
          have y1 := blk_cell hb1s 1 _ rfl
          have f1 := blk_free hb1s 1
          have y2 := blk_cell hb1s 2 _ rfl
          have f2 := blk_free hb1s 2
          have y3 := blk_cell hb1s 3 _ rfl
          have f3 := blk_free hb1s 3
          have y4 := blk_cell hb1s 4 _ rfl
          have f4 := blk_free hb1s 4
          have y5 := blk_cell hb1s 5 _ rfl
          have f5 := blk_free hb1s 5
          have y6 := blk_cell hb1s 6 _ rfl
          have f6 := blk_free hb1s 6
          have y7 := blk_cell hb1s 7 _ rfl
          have f7 := blk_free hb1s 7
          have Hb1 := Lib.hid hb1s; clear hb1s
          have Hb0 := Lib.hid hb0s; clear hb0s
          go_wp2_with fail
          have hs8 := set8 Hb1.out (.string (bs rs)) (.slice (A 1) u.files.length (C 1)) (.slice (A 2) u.after.length (C 2)) (.slice (A 3) u.before.length (C 3)) (.slice (A 4) u.reqs.length (C 4)) (.slice (A 5) u.wants.length (C 5)) (.slice (A 6) u.partof.length (C 6)) (.int .i64 u.retry)
          obtain ⟨hs8, hbut⟩ := hs8
          generalize ((((((((W2.setCell ⟨w.heap.size + 1, 0, none⟩ (.string (bs rs))).setCell ⟨w.heap.size + 1, 1, none⟩ (.slice (A 1) u.files.length (C 1))).setCell ⟨w.heap.size + 1, 2, none⟩ (.slice (A 2) u.after.length (C 2))).setCell ⟨w.heap.size + 1, 3, none⟩ (.slice (A 3) u.before.length (C 3))).setCell ⟨w.heap.size + 1, 4, none⟩ (.slice (A 4) u.reqs.length (C 4))).setCell ⟨w.heap.size + 1, 5, none⟩ (.slice (A 5) u.wants.length (C 5))).setCell ⟨w.heap.size + 1, 6, none⟩ (.slice (A 6) u.partof.length (C 6))).setCell ⟨w.heap.size + 1, 7, none⟩ (.int .i64 u.retry)) = wf at hs8 hbut ⊢
          have z0 := blk_cell hs8 0 _ rfl
          have z1 := blk_cell hs8 1 _ rfl
          have z2 := blk_cell hs8 2 _ rfl
          have z3 := blk_cell hs8 3 _ rfl
          have z4 := blk_cell hs8 4 _ rfl
          have z5 := blk_cell hs8 5 _ rfl
          have z6 := blk_cell hs8 6 _ rfl
          have z7 := blk_cell hs8 7 _ rfl
          refine bodyPost_ret (v := .tuple #[.agg #[.string (bs rs), .slice (A 1) u.files.length (C 1), .slice (A 2) u.after.length (C 2), .slice (A 3) u.before.length (C 3), .slice (A 4) u.reqs.length (C 4), .slice (A 5) u.wants.length (C 5), .slice (A 6) u.partof.length (C 6), .int .i64 u.retry], .int .i64 0]) (by simp [results, Tryd.results68, go_sem, z0, z1, z2, z3, z4, z5, z6, z7]) rfl ?_
          rw [HR.out, HL.out]
          exact ⟨A, C, rfl, fun f a b => by have := (HUR.out f a b).ext (hbut.ext (HX2.out) (by omega)); unfold UnitD.row at this ⊢; exact this, fun _ _ _ h => Or.inl h, hbut.ext (HX2.out) (by omega)⟩
        · have HL : Hid (lineU u wd rs = (u, 9)) := Lib.hid (by unfold lineU; rw [if_pos H1.out, if_neg (by rw [hn]; decide), if_pos h0]); clear hn
          have hq1 : ((bs u.name).toList.isEmpty) = false := by rw [bs_toList]; simpa using h0
          have hq2 : (!(bs u.name).toList.isEmpty) = true := by rw [bs_toList]; simpa using h0
          have H0 := Lib.hid h0; clear h0
          go_upto_region 14 with (go_at_call 20; refine (HNM.out _).mono ?_; rintro e w2 ⟨rfl, rfl⟩)
          have c0 := blk_cell hb0 0 _ rfl
          have c1 := blk_cell hb0 1 _ rfl
          have c2 := blk_cell hb0 2 _ rfl
          have c3 := blk_cell hb0 3 _ rfl
          have c4 := blk_cell hb0 4 _ rfl
          have c5 := blk_cell hb0 5 _ rfl
          have c6 := blk_cell hb0 6 _ rfl
          have c7 := blk_cell hb0 7 _ rfl
          have y0 := blk_cell hb1 0 _ rfl
          have f0 := blk_free hb1 0
          have y1 := blk_cell hb1 1 _ rfl
          have f1 := blk_free hb1 1
          have y2 := blk_cell hb1 2 _ rfl
          have f2 := blk_free hb1 2
          have y3 := blk_cell hb1 3 _ rfl
          have f3 := blk_free hb1 3
          have y4 := blk_cell hb1 4 _ rfl
          have f4 := blk_free hb1 4
          have y5 := blk_cell hb1 5 _ rfl
          have f5 := blk_free hb1 5
          have y6 := blk_cell hb1 6 _ rfl
          have f6 := blk_free hb1 6
          have y7 := blk_cell hb1 7 _ rfl
          have f7 := blk_free hb1 7
          have Hb1 := Lib.hid hb1; clear hb1
          have Hb0 := Lib.hid hb0; clear hb0
          go_wp2_with fail
          have hs8 := set8 Hb1.out (.string (bs u.name)) (.slice (A 1) u.files.length (C 1)) (.slice (A 2) u.after.length (C 2)) (.slice (A 3) u.before.length (C 3)) (.slice (A 4) u.reqs.length (C 4)) (.slice (A 5) u.wants.length (C 5)) (.slice (A 6) u.partof.length (C 6)) (.int .i64 u.retry)
          obtain ⟨hs8, hbut⟩ := hs8
          generalize ((((((((W.setCell ⟨w.heap.size + 1, 0, none⟩ (.string (bs u.name))).setCell ⟨w.heap.size + 1, 1, none⟩ (.slice (A 1) u.files.length (C 1))).setCell ⟨w.heap.size + 1, 2, none⟩ (.slice (A 2) u.after.length (C 2))).setCell ⟨w.heap.size + 1, 3, none⟩ (.slice (A 3) u.before.length (C 3))).setCell ⟨w.heap.size + 1, 4, none⟩ (.slice (A 4) u.reqs.length (C 4))).setCell ⟨w.heap.size + 1, 5, none⟩ (.slice (A 5) u.wants.length (C 5))).setCell ⟨w.heap.size + 1, 6, none⟩ (.slice (A 6) u.partof.length (C 6))).setCell ⟨w.heap.size + 1, 7, none⟩ (.int .i64 u.retry)) = wf at hs8 hbut ⊢
          have z0 := blk_cell hs8 0 _ rfl
          have z1 := blk_cell hs8 1 _ rfl
          have z2 := blk_cell hs8 2 _ rfl
          have z3 := blk_cell hs8 3 _ rfl
          have z4 := blk_cell hs8 4 _ rfl
          have z5 := blk_cell hs8 5 _ rfl
          have z6 := blk_cell hs8 6 _ rfl
          have z7 := blk_cell hs8 7 _ rfl
          refine bodyPost_ret (v := .tuple #[.agg #[.string (bs u.name), .slice (A 1) u.files.length (C 1), .slice (A 2) u.after.length (C 2), .slice (A 3) u.before.length (C 3), .slice (A 4) u.reqs.length (C 4), .slice (A 5) u.wants.length (C 5), .slice (A 6) u.partof.length (C 6), .int .i64 u.retry], .int .i64 9]) (by simp [results, Tryd.results68, go_sem, z0, z1, z2, z3, z4, z5, z6, z7]) rfl ?_
          rw [HR.out, HL.out]
          exact ⟨A, C, rfl, fun f a b => (HUR.out f a b).ext (hbut.ext (HXW.out) (by omega)), fun _ _ _ h => Or.inl h, hbut.ext (HXW.out) (by omega)⟩
    · have hq : ((bs wd).toList == [117, 110, 105, 116]) = false := word_ne h1
      by_cases h2 : wd = wFile
      · have hqf : ((bs wd).toList == [102, 105, 108, 101]) = true := word_eq h2
        cases hr : rightL rs with
        | false =>
          have HL : Hid (lineU u wd rs = (u, 14)) := Lib.hid (by unfold lineU; rw [if_neg h1, if_pos h2, if_pos hr])
          rw [hr] at HSR
          have H1 := Lib.hid h1; clear h1
          have H2 := Lib.hid h2; clear h2 hr
          cases sb with
          | false =>
            go_upto_region 19 with (fail)
            have c0 := blk_cell hb0 0 _ rfl
            have c1 := blk_cell hb0 1 _ rfl
            have c2 := blk_cell hb0 2 _ rfl
            have c3 := blk_cell hb0 3 _ rfl
            have c4 := blk_cell hb0 4 _ rfl
            have c5 := blk_cell hb0 5 _ rfl
            have c6 := blk_cell hb0 6 _ rfl
            have c7 := blk_cell hb0 7 _ rfl
            have y0 := blk_cell hb1 0 _ rfl
            have f0 := blk_free hb1 0
            have y1 := blk_cell hb1 1 _ rfl
            have f1 := blk_free hb1 1
            have y2 := blk_cell hb1 2 _ rfl
            have f2 := blk_free hb1 2
            have y3 := blk_cell hb1 3 _ rfl
            have f3 := blk_free hb1 3
            have y4 := blk_cell hb1 4 _ rfl
            have f4 := blk_free hb1 4
            have y5 := blk_cell hb1 5 _ rfl
            have f5 := blk_free hb1 5
            have y6 := blk_cell hb1 6 _ rfl
            have f6 := blk_free hb1 6
            have y7 := blk_cell hb1 7 _ rfl
            have f7 := blk_free hb1 7
            have Hb1 := Lib.hid hb1; clear hb1
            have Hb0 := Lib.hid hb0; clear hb0
            go_wp2_with fail
            have hs8 := set8 Hb1.out (.string (bs u.name)) (.slice (A 1) u.files.length (C 1)) (.slice (A 2) u.after.length (C 2)) (.slice (A 3) u.before.length (C 3)) (.slice (A 4) u.reqs.length (C 4)) (.slice (A 5) u.wants.length (C 5)) (.slice (A 6) u.partof.length (C 6)) (.int .i64 u.retry)
            obtain ⟨hs8, hbut⟩ := hs8
            generalize ((((((((W.setCell ⟨w.heap.size + 1, 0, none⟩ (.string (bs u.name))).setCell ⟨w.heap.size + 1, 1, none⟩ (.slice (A 1) u.files.length (C 1))).setCell ⟨w.heap.size + 1, 2, none⟩ (.slice (A 2) u.after.length (C 2))).setCell ⟨w.heap.size + 1, 3, none⟩ (.slice (A 3) u.before.length (C 3))).setCell ⟨w.heap.size + 1, 4, none⟩ (.slice (A 4) u.reqs.length (C 4))).setCell ⟨w.heap.size + 1, 5, none⟩ (.slice (A 5) u.wants.length (C 5))).setCell ⟨w.heap.size + 1, 6, none⟩ (.slice (A 6) u.partof.length (C 6))).setCell ⟨w.heap.size + 1, 7, none⟩ (.int .i64 u.retry)) = wf at hs8 hbut ⊢
            have z0 := blk_cell hs8 0 _ rfl
            have z1 := blk_cell hs8 1 _ rfl
            have z2 := blk_cell hs8 2 _ rfl
            have z3 := blk_cell hs8 3 _ rfl
            have z4 := blk_cell hs8 4 _ rfl
            have z5 := blk_cell hs8 5 _ rfl
            have z6 := blk_cell hs8 6 _ rfl
            have z7 := blk_cell hs8 7 _ rfl
            refine bodyPost_ret (v := .tuple #[.agg #[.string (bs u.name), .slice (A 1) u.files.length (C 1), .slice (A 2) u.after.length (C 2), .slice (A 3) u.before.length (C 3), .slice (A 4) u.reqs.length (C 4), .slice (A 5) u.wants.length (C 5), .slice (A 6) u.partof.length (C 6), .int .i64 u.retry], .int .i64 14]) (by simp [results, Tryd.results68, go_sem, z0, z1, z2, z3, z4, z5, z6, z7]) rfl ?_
            rw [HR.out, HL.out]
            exact ⟨A, C, rfl, fun f a b => (HUR.out f a b).ext (hbut.ext (HXW.out) (by omega)), fun _ _ _ h => Or.inl h, hbut.ext (HXW.out) (by omega)⟩
          | true =>
            have hs0 : sn = 0 := by have := HSR.out; simp at this; exact this
            subst hs0
            go_upto_region 19 with (fail)
            have c0 := blk_cell hb0 0 _ rfl
            have c1 := blk_cell hb0 1 _ rfl
            have c2 := blk_cell hb0 2 _ rfl
            have c3 := blk_cell hb0 3 _ rfl
            have c4 := blk_cell hb0 4 _ rfl
            have c5 := blk_cell hb0 5 _ rfl
            have c6 := blk_cell hb0 6 _ rfl
            have c7 := blk_cell hb0 7 _ rfl
            have y0 := blk_cell hb1 0 _ rfl
            have f0 := blk_free hb1 0
            have y1 := blk_cell hb1 1 _ rfl
            have f1 := blk_free hb1 1
            have y2 := blk_cell hb1 2 _ rfl
            have f2 := blk_free hb1 2
            have y3 := blk_cell hb1 3 _ rfl
            have f3 := blk_free hb1 3
            have y4 := blk_cell hb1 4 _ rfl
            have f4 := blk_free hb1 4
            have y5 := blk_cell hb1 5 _ rfl
            have f5 := blk_free hb1 5
            have y6 := blk_cell hb1 6 _ rfl
            have f6 := blk_free hb1 6
            have y7 := blk_cell hb1 7 _ rfl
            have f7 := blk_free hb1 7
            have Hb1 := Lib.hid hb1; clear hb1
            have Hb0 := Lib.hid hb0; clear hb0
            go_wp2_with fail
            have hs8 := set8 Hb1.out (.string (bs u.name)) (.slice (A 1) u.files.length (C 1)) (.slice (A 2) u.after.length (C 2)) (.slice (A 3) u.before.length (C 3)) (.slice (A 4) u.reqs.length (C 4)) (.slice (A 5) u.wants.length (C 5)) (.slice (A 6) u.partof.length (C 6)) (.int .i64 u.retry)
            obtain ⟨hs8, hbut⟩ := hs8
            generalize ((((((((W.setCell ⟨w.heap.size + 1, 0, none⟩ (.string (bs u.name))).setCell ⟨w.heap.size + 1, 1, none⟩ (.slice (A 1) u.files.length (C 1))).setCell ⟨w.heap.size + 1, 2, none⟩ (.slice (A 2) u.after.length (C 2))).setCell ⟨w.heap.size + 1, 3, none⟩ (.slice (A 3) u.before.length (C 3))).setCell ⟨w.heap.size + 1, 4, none⟩ (.slice (A 4) u.reqs.length (C 4))).setCell ⟨w.heap.size + 1, 5, none⟩ (.slice (A 5) u.wants.length (C 5))).setCell ⟨w.heap.size + 1, 6, none⟩ (.slice (A 6) u.partof.length (C 6))).setCell ⟨w.heap.size + 1, 7, none⟩ (.int .i64 u.retry)) = wf at hs8 hbut ⊢
            have z0 := blk_cell hs8 0 _ rfl
            have z1 := blk_cell hs8 1 _ rfl
            have z2 := blk_cell hs8 2 _ rfl
            have z3 := blk_cell hs8 3 _ rfl
            have z4 := blk_cell hs8 4 _ rfl
            have z5 := blk_cell hs8 5 _ rfl
            have z6 := blk_cell hs8 6 _ rfl
            have z7 := blk_cell hs8 7 _ rfl
            refine bodyPost_ret (v := .tuple #[.agg #[.string (bs u.name), .slice (A 1) u.files.length (C 1), .slice (A 2) u.after.length (C 2), .slice (A 3) u.before.length (C 3), .slice (A 4) u.reqs.length (C 4), .slice (A 5) u.wants.length (C 5), .slice (A 6) u.partof.length (C 6), .int .i64 u.retry], .int .i64 14]) (by simp [results, Tryd.results68, go_sem, z0, z1, z2, z3, z4, z5, z6, z7]) rfl ?_
            rw [HR.out, HL.out]
            exact ⟨A, C, rfl, fun f a b => (HUR.out f a b).ext (hbut.ext (HXW.out) (by omega)), fun _ _ _ h => Or.inl h, hbut.ext (HXW.out) (by omega)⟩
        | true =>
          have HL : Hid (lineU u wd rs = addU u 1 rs) := Lib.hid (by unfold lineU; rw [if_neg h1, if_pos h2, if_neg (by rw [hr]; decide)])
          rw [hr] at HSR
          have H1 := Lib.hid h1; clear h1
          have H2 := Lib.hid h2; clear h2 hr
          obtain ⟨hsb, hsn⟩ : sb = true ∧ 0 < sn := by have := HSR.out; simpa using this.symm
          subst hsb
          have hsn2 : ((sn : Int) == 0) = false := by simp; omega
          have d1 : W.cell? ⟨w.heap.size, 1, none⟩ = some (.slice (A 1) u.files.length (C 1)) := blk_cell hb0 1 _ rfl
          have hzw0 : w.heap.size < W.heap.size := by omega
          have hhas := has_ref13 (A 1) u.files (C 1) rs W ((HUR.out 1 (by omega) (by omega)).ext (HXW.out)) (by have := H8.out 1 (by omega) (by omega); have hrl : (u.row 1).length = u.files.length := rfl; omega)
          have hl8 : u.files.length ≤ 8 := H8.out 1 (by omega) (by omega)
          by_cases hm : rs ∈ u.files
          · rw [decide_eq_true hm] at hhas
            have HHAS := Lib.hid hhas; clear hhas
            have HL2 : Hid (lineU u wd rs = (u, 9)) := Lib.hid (by rw [HL.out]; exact if_pos hm); clear hm
            go_upto_region 21 with (first | (go_at_call 20; refine (HNM.out _).mono ?_; rintro e w2 ⟨rfl, rfl⟩) | (go_at_call 85; refine HHAS.out.mono ?_; rintro e w3 ⟨rfl, rfl⟩))
            have c0 := blk_cell hb0 0 _ rfl
            have c1 := blk_cell hb0 1 _ rfl
            have c2 := blk_cell hb0 2 _ rfl
            have c3 := blk_cell hb0 3 _ rfl
            have c4 := blk_cell hb0 4 _ rfl
            have c5 := blk_cell hb0 5 _ rfl
            have c6 := blk_cell hb0 6 _ rfl
            have c7 := blk_cell hb0 7 _ rfl
            have y0 := blk_cell hb1 0 _ rfl
            have f0 := blk_free hb1 0
            have y1 := blk_cell hb1 1 _ rfl
            have f1 := blk_free hb1 1
            have y2 := blk_cell hb1 2 _ rfl
            have f2 := blk_free hb1 2
            have y3 := blk_cell hb1 3 _ rfl
            have f3 := blk_free hb1 3
            have y4 := blk_cell hb1 4 _ rfl
            have f4 := blk_free hb1 4
            have y5 := blk_cell hb1 5 _ rfl
            have f5 := blk_free hb1 5
            have y6 := blk_cell hb1 6 _ rfl
            have f6 := blk_free hb1 6
            have y7 := blk_cell hb1 7 _ rfl
            have f7 := blk_free hb1 7
            have Hb1 := Lib.hid hb1; clear hb1
            have Hb0 := Lib.hid hb0; clear hb0
            go_wp2_with fail
            have hs8 := set8 Hb1.out (.string (bs u.name)) (.slice (A 1) u.files.length (C 1)) (.slice (A 2) u.after.length (C 2)) (.slice (A 3) u.before.length (C 3)) (.slice (A 4) u.reqs.length (C 4)) (.slice (A 5) u.wants.length (C 5)) (.slice (A 6) u.partof.length (C 6)) (.int .i64 u.retry)
            obtain ⟨hs8, hbut⟩ := hs8
            generalize ((((((((W.setCell ⟨w.heap.size + 1, 0, none⟩ (.string (bs u.name))).setCell ⟨w.heap.size + 1, 1, none⟩ (.slice (A 1) u.files.length (C 1))).setCell ⟨w.heap.size + 1, 2, none⟩ (.slice (A 2) u.after.length (C 2))).setCell ⟨w.heap.size + 1, 3, none⟩ (.slice (A 3) u.before.length (C 3))).setCell ⟨w.heap.size + 1, 4, none⟩ (.slice (A 4) u.reqs.length (C 4))).setCell ⟨w.heap.size + 1, 5, none⟩ (.slice (A 5) u.wants.length (C 5))).setCell ⟨w.heap.size + 1, 6, none⟩ (.slice (A 6) u.partof.length (C 6))).setCell ⟨w.heap.size + 1, 7, none⟩ (.int .i64 u.retry)) = wf at hs8 hbut ⊢
            have z0 := blk_cell hs8 0 _ rfl
            have z1 := blk_cell hs8 1 _ rfl
            have z2 := blk_cell hs8 2 _ rfl
            have z3 := blk_cell hs8 3 _ rfl
            have z4 := blk_cell hs8 4 _ rfl
            have z5 := blk_cell hs8 5 _ rfl
            have z6 := blk_cell hs8 6 _ rfl
            have z7 := blk_cell hs8 7 _ rfl
            refine bodyPost_ret (v := .tuple #[.agg #[.string (bs u.name), .slice (A 1) u.files.length (C 1), .slice (A 2) u.after.length (C 2), .slice (A 3) u.before.length (C 3), .slice (A 4) u.reqs.length (C 4), .slice (A 5) u.wants.length (C 5), .slice (A 6) u.partof.length (C 6), .int .i64 u.retry], .int .i64 9]) (by simp [results, Tryd.results68, go_sem, z0, z1, z2, z3, z4, z5, z6, z7]) rfl ?_
            rw [HR.out, HL2.out]
            exact ⟨A, C, rfl, fun f a b => (HUR.out f a b).ext (hbut.ext (HXW.out) (by omega)), fun _ _ _ h => Or.inl h, hbut.ext (HXW.out) (by omega)⟩
          · rw [decide_eq_false hm] at hhas
            have HHAS := Lib.hid hhas; clear hhas
            by_cases h88 : u.files.length = 8
            · have HL2 : Hid (lineU u wd rs = (u, 22)) := Lib.hid (by rw [HL.out]; exact (if_neg hm).trans (if_pos h88)); clear hm
              have h88b : ((u.files.length : Int) == 8) = true := by simp; omega
              have H88 := Lib.hid h88; clear h88
              go_upto_region 23 with (first | (go_at_call 20; refine (HNM.out _).mono ?_; rintro e w2 ⟨rfl, rfl⟩) | (go_at_call 85; refine HHAS.out.mono ?_; rintro e w3 ⟨rfl, rfl⟩))
              have c0 := blk_cell hb0 0 _ rfl
              have c1 := blk_cell hb0 1 _ rfl
              have c2 := blk_cell hb0 2 _ rfl
              have c3 := blk_cell hb0 3 _ rfl
              have c4 := blk_cell hb0 4 _ rfl
              have c5 := blk_cell hb0 5 _ rfl
              have c6 := blk_cell hb0 6 _ rfl
              have c7 := blk_cell hb0 7 _ rfl
              have y0 := blk_cell hb1 0 _ rfl
              have f0 := blk_free hb1 0
              have y1 := blk_cell hb1 1 _ rfl
              have f1 := blk_free hb1 1
              have y2 := blk_cell hb1 2 _ rfl
              have f2 := blk_free hb1 2
              have y3 := blk_cell hb1 3 _ rfl
              have f3 := blk_free hb1 3
              have y4 := blk_cell hb1 4 _ rfl
              have f4 := blk_free hb1 4
              have y5 := blk_cell hb1 5 _ rfl
              have f5 := blk_free hb1 5
              have y6 := blk_cell hb1 6 _ rfl
              have f6 := blk_free hb1 6
              have y7 := blk_cell hb1 7 _ rfl
              have f7 := blk_free hb1 7
              have Hb1 := Lib.hid hb1; clear hb1
              have Hb0 := Lib.hid hb0; clear hb0
              go_wp2_with fail
              have hs8 := set8 Hb1.out (.string (bs u.name)) (.slice (A 1) u.files.length (C 1)) (.slice (A 2) u.after.length (C 2)) (.slice (A 3) u.before.length (C 3)) (.slice (A 4) u.reqs.length (C 4)) (.slice (A 5) u.wants.length (C 5)) (.slice (A 6) u.partof.length (C 6)) (.int .i64 u.retry)
              obtain ⟨hs8, hbut⟩ := hs8
              generalize ((((((((W.setCell ⟨w.heap.size + 1, 0, none⟩ (.string (bs u.name))).setCell ⟨w.heap.size + 1, 1, none⟩ (.slice (A 1) u.files.length (C 1))).setCell ⟨w.heap.size + 1, 2, none⟩ (.slice (A 2) u.after.length (C 2))).setCell ⟨w.heap.size + 1, 3, none⟩ (.slice (A 3) u.before.length (C 3))).setCell ⟨w.heap.size + 1, 4, none⟩ (.slice (A 4) u.reqs.length (C 4))).setCell ⟨w.heap.size + 1, 5, none⟩ (.slice (A 5) u.wants.length (C 5))).setCell ⟨w.heap.size + 1, 6, none⟩ (.slice (A 6) u.partof.length (C 6))).setCell ⟨w.heap.size + 1, 7, none⟩ (.int .i64 u.retry)) = wf at hs8 hbut ⊢
              have z0 := blk_cell hs8 0 _ rfl
              have z1 := blk_cell hs8 1 _ rfl
              have z2 := blk_cell hs8 2 _ rfl
              have z3 := blk_cell hs8 3 _ rfl
              have z4 := blk_cell hs8 4 _ rfl
              have z5 := blk_cell hs8 5 _ rfl
              have z6 := blk_cell hs8 6 _ rfl
              have z7 := blk_cell hs8 7 _ rfl
              refine bodyPost_ret (v := .tuple #[.agg #[.string (bs u.name), .slice (A 1) u.files.length (C 1), .slice (A 2) u.after.length (C 2), .slice (A 3) u.before.length (C 3), .slice (A 4) u.reqs.length (C 4), .slice (A 5) u.wants.length (C 5), .slice (A 6) u.partof.length (C 6), .int .i64 u.retry], .int .i64 22]) (by simp [results, Tryd.results68, go_sem, z0, z1, z2, z3, z4, z5, z6, z7]) rfl ?_
              rw [HR.out, HL2.out]
              exact ⟨A, C, rfl, fun f a b => (HUR.out f a b).ext (hbut.ext (HXW.out) (by omega)), fun _ _ _ h => Or.inl h, hbut.ext (HXW.out) (by omega)⟩
            · have HL2 : Hid (lineU u wd rs = (u.put 1 (u.files ++ [rs]), 0)) := Lib.hid (by rw [HL.out]; exact (if_neg hm).trans (if_neg h88)); clear hm
              have h88b : ((u.files.length : Int) == 8) = false := by simp; omega
              have H88 := Lib.hid h88; clear h88
              have HFS : Hid (Strs W (A 1) u.files) := Lib.hid ((HUR.out 1 (by omega) (by omega)).ext (HXW.out))
              have H0 := Lib.hid hb0; clear hb0
              have H1B := Lib.hid hb1; clear hb1
              go_upto_region 25 with (first | (go_at_call 20; refine (HNM.out _).mono ?_; rintro e w2 ⟨rfl, rfl⟩) | (go_at_call 85; refine HHAS.out.mono ?_; rintro e w3 ⟨rfl, rfl⟩) | (at_builtin; refine append_row rfl (.tmp 68) (.tmp 70) 23 9 (.string ⟨#[]⟩) 16 rfl Tryd.underlying23 info_string rfl W.heap.size (some ⟨W.heap.size, 0, none⟩) 0 0 [] (by rfl) (ownsRow_empty W _) (A 1) u.files.length (C 1) (textV u.files) (by rfl) (textV_len _) (Strs.row (HFS.out.ext (Ext.alloc _ _))) (textV_one _) (by omega) (by decide) (by simp) u.files.length (Nat.zero_add _) ?_; intro ad cap3 w3 hown3 hk3 hb3; have hx3 : Hid (Ext W w3) := Lib.hid (Below.trans (Ext.alloc W _) hb3); have hz3 := hx3.out.size; clear hk3 hb3; have hown3 := Lib.hid hown3) | (at_builtin; refine append_text rfl (.tmp 71) (.tmp 73) rfl W.heap.size ad cap3 u.files rs (by rfl) hown3.out (by rfl) (by omega) hz3 ?_; intro g cap4 w4 hown4 hb4; have hx4 : Hid (Ext W w4) := Lib.hid (Below.trans hx3.out hb4); have hz4 := hx4.out.size; have g0 := hx4.out.heap H0.out; have m0 := blk_cell g0 1 _ rfl; have m1 := blk_free g0 1; have hown4 := Lib.hid hown4; have hb4 := Lib.hid hb4; have g0 := Lib.hid g0))
              have g0x := g0.out
              have g1x := hx4.out.heap H1B.out
              have hb0s : (w4.setCell ⟨w.heap.size, 1, none⟩ (.slice (some ⟨g, 0, none⟩) (u.files.length + 1) cap4)).heap[w.heap.size]? = some (.cells #[.string (bs u.name), .slice (some ⟨g, 0, none⟩) (u.files.length + 1) cap4, .slice (A 2) u.after.length (C 2), .slice (A 3) u.before.length (C 3), .slice (A 4) u.reqs.length (C 4), .slice (A 5) u.wants.length (C 5), .slice (A 6) u.partof.length (C 6), .int .i64 u.retry] 61 (0, 0)) := setCell_row (i := 1) g0x _
              have hbt : But w.heap.size w4 (w4.setCell ⟨w.heap.size, 1, none⟩ (.slice (some ⟨g, 0, none⟩) (u.files.length + 1) cap4)) := (But.refl w.heap.size w4).setCell 1 (.slice (some ⟨g, 0, none⟩) (u.files.length + 1) cap4)
              have hb1s : (w4.setCell ⟨w.heap.size, 1, none⟩ (.slice (some ⟨g, 0, none⟩) (u.files.length + 1) cap4)).heap[w.heap.size + 1]? = some (.cells #[.string ⟨#[]⟩, .slice none 0 0, .slice none 0 0, .slice none 0 0, .slice none 0 0, .slice none 0 0, .slice none 0 0, .int .i64 0] 61 (0, 0)) := (hbt.block (w.heap.size + 1) (by omega) (by omega)).trans g1x
              have hxs2 : Ext w (w4.setCell ⟨w.heap.size, 1, none⟩ (.slice (some ⟨g, 0, none⟩) (u.files.length + 1) cap4)) := But.ext ((HXW.out).trans hx4.out) hbt (Nat.le_refl _)
              have hsz2 : w.heap.size + 1 < (w4.setCell ⟨w.heap.size, 1, none⟩ (.slice (some ⟨g, 0, none⟩) (u.files.length + 1) cap4)).heap.size := by have := hbt.size; omega
              generalize w4.setCell ⟨w.heap.size, 1, none⟩ (.slice (some ⟨g, 0, none⟩) (u.files.length + 1) cap4) = W2 at hb0s hb1s hxs2 hbt hsz2 ⊢
              have HX2 := Lib.hid hxs2; clear hxs2
              have HBT := Lib.hid hbt; clear hbt
              have hst := fun (X : World) (q : But (w.heap.size + 1) W2 X) => OwnS.two hown4.out ⟨by omega, by omega⟩ HBT.out q
              have HST := Lib.hid hst; clear hst m0 m1 g0x g1x
              have hgge := Lib.hid hown4.out.ge
              have c0 := blk_cell hb0s 0 _ rfl
              have c1 := blk_cell hb0s 1 _ rfl
              have c2 := blk_cell hb0s 2 _ rfl
              have c3 := blk_cell hb0s 3 _ rfl
              have c4 := blk_cell hb0s 4 _ rfl
              have c5 := blk_cell hb0s 5 _ rfl
              have c6 := blk_cell hb0s 6 _ rfl
              have c7 := blk_cell hb0s 7 _ rfl
              have y0 := blk_cell hb1s 0 _ rfl
              have f0 := blk_free hb1s 0
              have y1 := blk_cell hb1s 1 _ rfl
              have f1 := blk_free hb1s 1
              have y2 := blk_cell hb1s 2 _ rfl
              have f2 := blk_free hb1s 2
              have y3 := blk_cell hb1s 3 _ rfl
              have f3 := blk_free hb1s 3
              have y4 := blk_cell hb1s 4 _ rfl
              have f4 := blk_free hb1s 4
              have y5 := blk_cell hb1s 5 _ rfl
              have f5 := blk_free hb1s 5
              have y6 := blk_cell hb1s 6 _ rfl
              have f6 := blk_free hb1s 6
              have y7 := blk_cell hb1s 7 _ rfl
              have f7 := blk_free hb1s 7
              have Hb1 := Lib.hid hb1s; clear hb1s
              have Hb0 := Lib.hid hb0s; clear hb0s
              go_wp2_with fail
              have hs8 := set8 Hb1.out (.string (bs u.name)) (.slice (some ⟨g, 0, none⟩) (u.files.length + 1) cap4) (.slice (A 2) u.after.length (C 2)) (.slice (A 3) u.before.length (C 3)) (.slice (A 4) u.reqs.length (C 4)) (.slice (A 5) u.wants.length (C 5)) (.slice (A 6) u.partof.length (C 6)) (.int .i64 u.retry)
              obtain ⟨hs8, hbut⟩ := hs8
              generalize ((((((((W2.setCell ⟨w.heap.size + 1, 0, none⟩ (.string (bs u.name))).setCell ⟨w.heap.size + 1, 1, none⟩ (.slice (some ⟨g, 0, none⟩) (u.files.length + 1) cap4)).setCell ⟨w.heap.size + 1, 2, none⟩ (.slice (A 2) u.after.length (C 2))).setCell ⟨w.heap.size + 1, 3, none⟩ (.slice (A 3) u.before.length (C 3))).setCell ⟨w.heap.size + 1, 4, none⟩ (.slice (A 4) u.reqs.length (C 4))).setCell ⟨w.heap.size + 1, 5, none⟩ (.slice (A 5) u.wants.length (C 5))).setCell ⟨w.heap.size + 1, 6, none⟩ (.slice (A 6) u.partof.length (C 6))).setCell ⟨w.heap.size + 1, 7, none⟩ (.int .i64 u.retry)) = wf at hs8 hbut ⊢
              have z0 := blk_cell hs8 0 _ rfl
              have z1 := blk_cell hs8 1 _ rfl
              have z2 := blk_cell hs8 2 _ rfl
              have z3 := blk_cell hs8 3 _ rfl
              have z4 := blk_cell hs8 4 _ rfl
              have z5 := blk_cell hs8 5 _ rfl
              have z6 := blk_cell hs8 6 _ rfl
              have z7 := blk_cell hs8 7 _ rfl
              refine bodyPost_ret (v := .tuple #[.agg #[.string (bs u.name), .slice (some ⟨g, 0, none⟩) (u.files.length + 1) cap4, .slice (A 2) u.after.length (C 2), .slice (A 3) u.before.length (C 3), .slice (A 4) u.reqs.length (C 4), .slice (A 5) u.wants.length (C 5), .slice (A 6) u.partof.length (C 6), .int .i64 u.retry], .int .i64 0]) (by simp [results, Tryd.results68, go_sem, z0, z1, z2, z3, z4, z5, z6, z7]) rfl ?_
              rw [HR.out, HL2.out]
              exact ⟨(fun j => if j = 1 then some ⟨g, 0, none⟩ else A j), (fun j => if j = 1 then cap4 else C j), (by simp [unitV, UnitD.put]), unitR_put 1 (by omega) (by omega) HUR.out (hbut.ext (HX2.out) (by omega)) (HST.out _ hbut), at_put 1 (Nat.le_trans HXW.out.size (hgge.out)), hbut.ext (HX2.out) (by omega)⟩
      · have hqf : ((bs wd).toList == [102, 105, 108, 101]) = false := word_ne h2
        by_cases h3 : wd = wRetry
        · have hqr : ((bs wd).toList == [114, 101, 116, 114, 121]) = true := word_eq h3
          have hlr : lineU u wd rs = (match digN rs with | none => (u, 2) | some n => if 0 ≤ u.retry then (u, 9) else ({ u with retry := (n : Int) }, 0)) := by unfold lineU; rw [if_neg h1, if_neg h2, if_pos h3]; cases digN rs <;> rfl
          have HLR := Lib.hid hlr; clear hlr
          have H1 := Lib.hid h1; clear h1
          have H2 := Lib.hid h2; clear h2
          have H3 := Lib.hid h3; clear h3
          by_cases hz : rs.length = 1
          · obtain ⟨b, hb⟩ : ∃ b, rs = [b] := List.length_eq_one_iff.1 hz
            have hz0 : 0 < (bs rs).size := by rw [bs_size]; omega
            have hz1 : (((bs rs).size : Int) != 1) = false := by rw [bs_size, hz]; rfl
            have hbi : (bs rs)[0]'hz0 = b := by subst hb; rfl
            have HB := Lib.hid hb; clear hb hz
            have d7 : W.cell? ⟨w.heap.size, 7, none⟩ = some (.int .i64 u.retry) := blk_cell hb0 7 _ rfl
            by_cases h48 : b.toNat < 48
            · have HL : Hid (lineU u wd rs = (u, 2)) := Lib.hid (by have hd : digN rs = none := (by rw [HB.out]; simp [digN]; omega); rw [HLR.out, hd])
              have t48 : decide ((b.toNat : Int) < 48) = true := decide_eq_true (by omega)
              clear d7
              go_upto_region 28 with (fail)
              have c0 := blk_cell hb0 0 _ rfl
              have c1 := blk_cell hb0 1 _ rfl
              have c2 := blk_cell hb0 2 _ rfl
              have c3 := blk_cell hb0 3 _ rfl
              have c4 := blk_cell hb0 4 _ rfl
              have c5 := blk_cell hb0 5 _ rfl
              have c6 := blk_cell hb0 6 _ rfl
              have c7 := blk_cell hb0 7 _ rfl
              have y0 := blk_cell hb1 0 _ rfl
              have f0 := blk_free hb1 0
              have y1 := blk_cell hb1 1 _ rfl
              have f1 := blk_free hb1 1
              have y2 := blk_cell hb1 2 _ rfl
              have f2 := blk_free hb1 2
              have y3 := blk_cell hb1 3 _ rfl
              have f3 := blk_free hb1 3
              have y4 := blk_cell hb1 4 _ rfl
              have f4 := blk_free hb1 4
              have y5 := blk_cell hb1 5 _ rfl
              have f5 := blk_free hb1 5
              have y6 := blk_cell hb1 6 _ rfl
              have f6 := blk_free hb1 6
              have y7 := blk_cell hb1 7 _ rfl
              have f7 := blk_free hb1 7
              have Hb1 := Lib.hid hb1; clear hb1
              have Hb0 := Lib.hid hb0; clear hb0
              go_wp2_with fail
              have hs8 := set8 Hb1.out (.string (bs u.name)) (.slice (A 1) u.files.length (C 1)) (.slice (A 2) u.after.length (C 2)) (.slice (A 3) u.before.length (C 3)) (.slice (A 4) u.reqs.length (C 4)) (.slice (A 5) u.wants.length (C 5)) (.slice (A 6) u.partof.length (C 6)) (.int .i64 u.retry)
              obtain ⟨hs8, hbut⟩ := hs8
              generalize ((((((((W.setCell ⟨w.heap.size + 1, 0, none⟩ (.string (bs u.name))).setCell ⟨w.heap.size + 1, 1, none⟩ (.slice (A 1) u.files.length (C 1))).setCell ⟨w.heap.size + 1, 2, none⟩ (.slice (A 2) u.after.length (C 2))).setCell ⟨w.heap.size + 1, 3, none⟩ (.slice (A 3) u.before.length (C 3))).setCell ⟨w.heap.size + 1, 4, none⟩ (.slice (A 4) u.reqs.length (C 4))).setCell ⟨w.heap.size + 1, 5, none⟩ (.slice (A 5) u.wants.length (C 5))).setCell ⟨w.heap.size + 1, 6, none⟩ (.slice (A 6) u.partof.length (C 6))).setCell ⟨w.heap.size + 1, 7, none⟩ (.int .i64 u.retry)) = wf at hs8 hbut ⊢
              have z0 := blk_cell hs8 0 _ rfl
              have z1 := blk_cell hs8 1 _ rfl
              have z2 := blk_cell hs8 2 _ rfl
              have z3 := blk_cell hs8 3 _ rfl
              have z4 := blk_cell hs8 4 _ rfl
              have z5 := blk_cell hs8 5 _ rfl
              have z6 := blk_cell hs8 6 _ rfl
              have z7 := blk_cell hs8 7 _ rfl
              refine bodyPost_ret (v := .tuple #[.agg #[.string (bs u.name), .slice (A 1) u.files.length (C 1), .slice (A 2) u.after.length (C 2), .slice (A 3) u.before.length (C 3), .slice (A 4) u.reqs.length (C 4), .slice (A 5) u.wants.length (C 5), .slice (A 6) u.partof.length (C 6), .int .i64 u.retry], .int .i64 2]) (by simp [results, Tryd.results68, go_sem, z0, z1, z2, z3, z4, z5, z6, z7]) rfl ?_
              rw [HR.out, HL.out]
              exact ⟨A, C, rfl, fun f a b => (HUR.out f a b).ext (hbut.ext (HXW.out) (by omega)), fun _ _ _ h => Or.inl h, hbut.ext (HXW.out) (by omega)⟩
            · have t48 : decide ((b.toNat : Int) < 48) = false := decide_eq_false (by omega)
              by_cases h51 : 51 < b.toNat
              · have HL : Hid (lineU u wd rs = (u, 2)) := Lib.hid (by have hd : digN rs = none := (by rw [HB.out]; simp [digN]; omega); rw [HLR.out, hd])
                have t51 : decide (51 < (b.toNat : Int)) = true := decide_eq_true (by omega)
                clear d7
                go_upto_region 28 with (fail)
                have c0 := blk_cell hb0 0 _ rfl
                have c1 := blk_cell hb0 1 _ rfl
                have c2 := blk_cell hb0 2 _ rfl
                have c3 := blk_cell hb0 3 _ rfl
                have c4 := blk_cell hb0 4 _ rfl
                have c5 := blk_cell hb0 5 _ rfl
                have c6 := blk_cell hb0 6 _ rfl
                have c7 := blk_cell hb0 7 _ rfl
                have y0 := blk_cell hb1 0 _ rfl
                have f0 := blk_free hb1 0
                have y1 := blk_cell hb1 1 _ rfl
                have f1 := blk_free hb1 1
                have y2 := blk_cell hb1 2 _ rfl
                have f2 := blk_free hb1 2
                have y3 := blk_cell hb1 3 _ rfl
                have f3 := blk_free hb1 3
                have y4 := blk_cell hb1 4 _ rfl
                have f4 := blk_free hb1 4
                have y5 := blk_cell hb1 5 _ rfl
                have f5 := blk_free hb1 5
                have y6 := blk_cell hb1 6 _ rfl
                have f6 := blk_free hb1 6
                have y7 := blk_cell hb1 7 _ rfl
                have f7 := blk_free hb1 7
                have Hb1 := Lib.hid hb1; clear hb1
                have Hb0 := Lib.hid hb0; clear hb0
                go_wp2_with fail
                have hs8 := set8 Hb1.out (.string (bs u.name)) (.slice (A 1) u.files.length (C 1)) (.slice (A 2) u.after.length (C 2)) (.slice (A 3) u.before.length (C 3)) (.slice (A 4) u.reqs.length (C 4)) (.slice (A 5) u.wants.length (C 5)) (.slice (A 6) u.partof.length (C 6)) (.int .i64 u.retry)
                obtain ⟨hs8, hbut⟩ := hs8
                generalize ((((((((W.setCell ⟨w.heap.size + 1, 0, none⟩ (.string (bs u.name))).setCell ⟨w.heap.size + 1, 1, none⟩ (.slice (A 1) u.files.length (C 1))).setCell ⟨w.heap.size + 1, 2, none⟩ (.slice (A 2) u.after.length (C 2))).setCell ⟨w.heap.size + 1, 3, none⟩ (.slice (A 3) u.before.length (C 3))).setCell ⟨w.heap.size + 1, 4, none⟩ (.slice (A 4) u.reqs.length (C 4))).setCell ⟨w.heap.size + 1, 5, none⟩ (.slice (A 5) u.wants.length (C 5))).setCell ⟨w.heap.size + 1, 6, none⟩ (.slice (A 6) u.partof.length (C 6))).setCell ⟨w.heap.size + 1, 7, none⟩ (.int .i64 u.retry)) = wf at hs8 hbut ⊢
                have z0 := blk_cell hs8 0 _ rfl
                have z1 := blk_cell hs8 1 _ rfl
                have z2 := blk_cell hs8 2 _ rfl
                have z3 := blk_cell hs8 3 _ rfl
                have z4 := blk_cell hs8 4 _ rfl
                have z5 := blk_cell hs8 5 _ rfl
                have z6 := blk_cell hs8 6 _ rfl
                have z7 := blk_cell hs8 7 _ rfl
                refine bodyPost_ret (v := .tuple #[.agg #[.string (bs u.name), .slice (A 1) u.files.length (C 1), .slice (A 2) u.after.length (C 2), .slice (A 3) u.before.length (C 3), .slice (A 4) u.reqs.length (C 4), .slice (A 5) u.wants.length (C 5), .slice (A 6) u.partof.length (C 6), .int .i64 u.retry], .int .i64 2]) (by simp [results, Tryd.results68, go_sem, z0, z1, z2, z3, z4, z5, z6, z7]) rfl ?_
                rw [HR.out, HL.out]
                exact ⟨A, C, rfl, fun f a b => (HUR.out f a b).ext (hbut.ext (HXW.out) (by omega)), fun _ _ _ h => Or.inl h, hbut.ext (HXW.out) (by omega)⟩
              · have t51 : decide (51 < (b.toNat : Int)) = false := decide_eq_false (by omega)
                have HD : Hid (digN rs = some (b.toNat - 48)) := Lib.hid (by rw [HB.out]; simp [digN]; omega)
                by_cases h0 : 0 ≤ u.retry
                · have HL : Hid (lineU u wd rs = (u, 9)) := Lib.hid (by rw [HLR.out, HD.out]; exact if_pos h0)
                  go_upto_region 30 with (fail)
                  clear d7
                  have c0 := blk_cell hb0 0 _ rfl
                  have c1 := blk_cell hb0 1 _ rfl
                  have c2 := blk_cell hb0 2 _ rfl
                  have c3 := blk_cell hb0 3 _ rfl
                  have c4 := blk_cell hb0 4 _ rfl
                  have c5 := blk_cell hb0 5 _ rfl
                  have c6 := blk_cell hb0 6 _ rfl
                  have c7 := blk_cell hb0 7 _ rfl
                  have y0 := blk_cell hb1 0 _ rfl
                  have f0 := blk_free hb1 0
                  have y1 := blk_cell hb1 1 _ rfl
                  have f1 := blk_free hb1 1
                  have y2 := blk_cell hb1 2 _ rfl
                  have f2 := blk_free hb1 2
                  have y3 := blk_cell hb1 3 _ rfl
                  have f3 := blk_free hb1 3
                  have y4 := blk_cell hb1 4 _ rfl
                  have f4 := blk_free hb1 4
                  have y5 := blk_cell hb1 5 _ rfl
                  have f5 := blk_free hb1 5
                  have y6 := blk_cell hb1 6 _ rfl
                  have f6 := blk_free hb1 6
                  have y7 := blk_cell hb1 7 _ rfl
                  have f7 := blk_free hb1 7
                  have Hb1 := Lib.hid hb1; clear hb1
                  have Hb0 := Lib.hid hb0; clear hb0
                  go_wp2_with fail
                  have hs8 := set8 Hb1.out (.string (bs u.name)) (.slice (A 1) u.files.length (C 1)) (.slice (A 2) u.after.length (C 2)) (.slice (A 3) u.before.length (C 3)) (.slice (A 4) u.reqs.length (C 4)) (.slice (A 5) u.wants.length (C 5)) (.slice (A 6) u.partof.length (C 6)) (.int .i64 u.retry)
                  obtain ⟨hs8, hbut⟩ := hs8
                  generalize ((((((((W.setCell ⟨w.heap.size + 1, 0, none⟩ (.string (bs u.name))).setCell ⟨w.heap.size + 1, 1, none⟩ (.slice (A 1) u.files.length (C 1))).setCell ⟨w.heap.size + 1, 2, none⟩ (.slice (A 2) u.after.length (C 2))).setCell ⟨w.heap.size + 1, 3, none⟩ (.slice (A 3) u.before.length (C 3))).setCell ⟨w.heap.size + 1, 4, none⟩ (.slice (A 4) u.reqs.length (C 4))).setCell ⟨w.heap.size + 1, 5, none⟩ (.slice (A 5) u.wants.length (C 5))).setCell ⟨w.heap.size + 1, 6, none⟩ (.slice (A 6) u.partof.length (C 6))).setCell ⟨w.heap.size + 1, 7, none⟩ (.int .i64 u.retry)) = wf at hs8 hbut ⊢
                  have z0 := blk_cell hs8 0 _ rfl
                  have z1 := blk_cell hs8 1 _ rfl
                  have z2 := blk_cell hs8 2 _ rfl
                  have z3 := blk_cell hs8 3 _ rfl
                  have z4 := blk_cell hs8 4 _ rfl
                  have z5 := blk_cell hs8 5 _ rfl
                  have z6 := blk_cell hs8 6 _ rfl
                  have z7 := blk_cell hs8 7 _ rfl
                  refine bodyPost_ret (v := .tuple #[.agg #[.string (bs u.name), .slice (A 1) u.files.length (C 1), .slice (A 2) u.after.length (C 2), .slice (A 3) u.before.length (C 3), .slice (A 4) u.reqs.length (C 4), .slice (A 5) u.wants.length (C 5), .slice (A 6) u.partof.length (C 6), .int .i64 u.retry], .int .i64 9]) (by simp [results, Tryd.results68, go_sem, z0, z1, z2, z3, z4, z5, z6, z7]) rfl ?_
                  rw [HR.out, HL.out]
                  exact ⟨A, C, rfl, fun f a b => (HUR.out f a b).ext (hbut.ext (HXW.out) (by omega)), fun _ _ _ h => Or.inl h, hbut.ext (HXW.out) (by omega)⟩
                · have HL : Hid (lineU u wd rs = ({ u with retry := ((b.toNat - 48 : Nat) : Int) }, 0)) := Lib.hid (by rw [HLR.out, HD.out]; exact if_neg h0)
                  have h0b : decide (0 ≤ u.retry) = false := decide_eq_false h0
                  have e7 := blk_free hb0 7
                  go_upto_region 32 with (fail)
                  clear d7 e7
                  have hb0s : (W.setCell ⟨w.heap.size, 7, none⟩ (.int .i64 ((b.toNat : Int) - 48))).heap[w.heap.size]? = some (.cells #[.string (bs u.name), .slice (A 1) u.files.length (C 1), .slice (A 2) u.after.length (C 2), .slice (A 3) u.before.length (C 3), .slice (A 4) u.reqs.length (C 4), .slice (A 5) u.wants.length (C 5), .slice (A 6) u.partof.length (C 6), .int .i64 ((b.toNat : Int) - 48)] 61 (0, 0)) := setCell_row (i := 7) hb0 _
                  have hbt : But w.heap.size W (W.setCell ⟨w.heap.size, 7, none⟩ (.int .i64 ((b.toNat : Int) - 48))) := (But.refl w.heap.size W).setCell 7 (.int .i64 ((b.toNat : Int) - 48))
                  have hb1s : (W.setCell ⟨w.heap.size, 7, none⟩ (.int .i64 ((b.toNat : Int) - 48))).heap[w.heap.size + 1]? = some (.cells #[.string ⟨#[]⟩, .slice none 0 0, .slice none 0 0, .slice none 0 0, .slice none 0 0, .slice none 0 0, .slice none 0 0, .int .i64 0] 61 (0, 0)) := (hbt.block (w.heap.size + 1) (by omega) (by omega)).trans hb1
                  have hxs2 : Ext w (W.setCell ⟨w.heap.size, 7, none⟩ (.int .i64 ((b.toNat : Int) - 48))) := But.ext (HXW.out) hbt (Nat.le_refl _)
                  have hsz2 : w.heap.size + 1 < (W.setCell ⟨w.heap.size, 7, none⟩ (.int .i64 ((b.toNat : Int) - 48))).heap.size := by have := hbt.size; omega
                  generalize W.setCell ⟨w.heap.size, 7, none⟩ (.int .i64 ((b.toNat : Int) - 48)) = W2 at hb0s hb1s hxs2 hbt hsz2 ⊢
                  have HX2 := Lib.hid hxs2; clear hxs2
                  have HBT := Lib.hid hbt; clear hbt
                  have c0 := blk_cell hb0s 0 _ rfl
                  have c1 := blk_cell hb0s 1 _ rfl
                  have c2 := blk_cell hb0s 2 _ rfl
                  have c3 := blk_cell hb0s 3 _ rfl
                  have c4 := blk_cell hb0s 4 _ rfl
                  have c5 := blk_cell hb0s 5 _ rfl
                  have c6 := blk_cell hb0s 6 _ rfl
                  have c7 := blk_cell hb0s 7 _ rfl
                  have y0 := blk_cell hb1s 0 _ rfl
                  have f0 := blk_free hb1s 0
                  have y1 := blk_cell hb1s 1 _ rfl
                  have f1 := blk_free hb1s 1
                  have y2 := blk_cell hb1s 2 _ rfl
                  have f2 := blk_free hb1s 2
                  have y3 := blk_cell hb1s 3 _ rfl
                  have f3 := blk_free hb1s 3
                  have y4 := blk_cell hb1s 4 _ rfl
                  have f4 := blk_free hb1s 4
                  have y5 := blk_cell hb1s 5 _ rfl
                  have f5 := blk_free hb1s 5
                  have y6 := blk_cell hb1s 6 _ rfl
                  have f6 := blk_free hb1s 6
                  have y7 := blk_cell hb1s 7 _ rfl
                  have f7 := blk_free hb1s 7
                  have Hb1 := Lib.hid hb1s; clear hb1s
                  have Hb0 := Lib.hid hb0s; clear hb0s
                  go_wp2_with fail
                  have hs8 := set8 Hb1.out (.string (bs u.name)) (.slice (A 1) u.files.length (C 1)) (.slice (A 2) u.after.length (C 2)) (.slice (A 3) u.before.length (C 3)) (.slice (A 4) u.reqs.length (C 4)) (.slice (A 5) u.wants.length (C 5)) (.slice (A 6) u.partof.length (C 6)) (.int .i64 ((b.toNat : Int) - 48))
                  obtain ⟨hs8, hbut⟩ := hs8
                  generalize ((((((((W2.setCell ⟨w.heap.size + 1, 0, none⟩ (.string (bs u.name))).setCell ⟨w.heap.size + 1, 1, none⟩ (.slice (A 1) u.files.length (C 1))).setCell ⟨w.heap.size + 1, 2, none⟩ (.slice (A 2) u.after.length (C 2))).setCell ⟨w.heap.size + 1, 3, none⟩ (.slice (A 3) u.before.length (C 3))).setCell ⟨w.heap.size + 1, 4, none⟩ (.slice (A 4) u.reqs.length (C 4))).setCell ⟨w.heap.size + 1, 5, none⟩ (.slice (A 5) u.wants.length (C 5))).setCell ⟨w.heap.size + 1, 6, none⟩ (.slice (A 6) u.partof.length (C 6))).setCell ⟨w.heap.size + 1, 7, none⟩ (.int .i64 ((b.toNat : Int) - 48))) = wf at hs8 hbut ⊢
                  have z0 := blk_cell hs8 0 _ rfl
                  have z1 := blk_cell hs8 1 _ rfl
                  have z2 := blk_cell hs8 2 _ rfl
                  have z3 := blk_cell hs8 3 _ rfl
                  have z4 := blk_cell hs8 4 _ rfl
                  have z5 := blk_cell hs8 5 _ rfl
                  have z6 := blk_cell hs8 6 _ rfl
                  have z7 := blk_cell hs8 7 _ rfl
                  refine bodyPost_ret (v := .tuple #[.agg #[.string (bs u.name), .slice (A 1) u.files.length (C 1), .slice (A 2) u.after.length (C 2), .slice (A 3) u.before.length (C 3), .slice (A 4) u.reqs.length (C 4), .slice (A 5) u.wants.length (C 5), .slice (A 6) u.partof.length (C 6), .int .i64 ((b.toNat : Int) - 48)], .int .i64 0]) (by simp [results, Tryd.results68, go_sem, z0, z1, z2, z3, z4, z5, z6, z7]) rfl ?_
                  rw [HR.out, HL.out]
                  exact ⟨A, C, (by have : ((b.toNat - 48 : Nat) : Int) = (b.toNat : Int) - 48 := (by omega); simp [unitV, this]), fun f a b => by have := (HUR.out f a b).ext (hbut.ext (HX2.out) (by omega)); unfold UnitD.row at this ⊢; exact this, fun _ _ _ h => Or.inl h, hbut.ext (HX2.out) (by omega)⟩
          · have HL : Hid (lineU u wd rs = (u, 2)) := Lib.hid (by rw [HLR.out, digN_none hz])
            have hz1 : (((bs rs).size : Int) != 1) = true := by rw [bs_size]; simp; omega
            clear hz
            go_upto_region 28 with (fail)
            have c0 := blk_cell hb0 0 _ rfl
            have c1 := blk_cell hb0 1 _ rfl
            have c2 := blk_cell hb0 2 _ rfl
            have c3 := blk_cell hb0 3 _ rfl
            have c4 := blk_cell hb0 4 _ rfl
            have c5 := blk_cell hb0 5 _ rfl
            have c6 := blk_cell hb0 6 _ rfl
            have c7 := blk_cell hb0 7 _ rfl
            have y0 := blk_cell hb1 0 _ rfl
            have f0 := blk_free hb1 0
            have y1 := blk_cell hb1 1 _ rfl
            have f1 := blk_free hb1 1
            have y2 := blk_cell hb1 2 _ rfl
            have f2 := blk_free hb1 2
            have y3 := blk_cell hb1 3 _ rfl
            have f3 := blk_free hb1 3
            have y4 := blk_cell hb1 4 _ rfl
            have f4 := blk_free hb1 4
            have y5 := blk_cell hb1 5 _ rfl
            have f5 := blk_free hb1 5
            have y6 := blk_cell hb1 6 _ rfl
            have f6 := blk_free hb1 6
            have y7 := blk_cell hb1 7 _ rfl
            have f7 := blk_free hb1 7
            have Hb1 := Lib.hid hb1; clear hb1
            have Hb0 := Lib.hid hb0; clear hb0
            go_wp2_with fail
            have hs8 := set8 Hb1.out (.string (bs u.name)) (.slice (A 1) u.files.length (C 1)) (.slice (A 2) u.after.length (C 2)) (.slice (A 3) u.before.length (C 3)) (.slice (A 4) u.reqs.length (C 4)) (.slice (A 5) u.wants.length (C 5)) (.slice (A 6) u.partof.length (C 6)) (.int .i64 u.retry)
            obtain ⟨hs8, hbut⟩ := hs8
            generalize ((((((((W.setCell ⟨w.heap.size + 1, 0, none⟩ (.string (bs u.name))).setCell ⟨w.heap.size + 1, 1, none⟩ (.slice (A 1) u.files.length (C 1))).setCell ⟨w.heap.size + 1, 2, none⟩ (.slice (A 2) u.after.length (C 2))).setCell ⟨w.heap.size + 1, 3, none⟩ (.slice (A 3) u.before.length (C 3))).setCell ⟨w.heap.size + 1, 4, none⟩ (.slice (A 4) u.reqs.length (C 4))).setCell ⟨w.heap.size + 1, 5, none⟩ (.slice (A 5) u.wants.length (C 5))).setCell ⟨w.heap.size + 1, 6, none⟩ (.slice (A 6) u.partof.length (C 6))).setCell ⟨w.heap.size + 1, 7, none⟩ (.int .i64 u.retry)) = wf at hs8 hbut ⊢
            have z0 := blk_cell hs8 0 _ rfl
            have z1 := blk_cell hs8 1 _ rfl
            have z2 := blk_cell hs8 2 _ rfl
            have z3 := blk_cell hs8 3 _ rfl
            have z4 := blk_cell hs8 4 _ rfl
            have z5 := blk_cell hs8 5 _ rfl
            have z6 := blk_cell hs8 6 _ rfl
            have z7 := blk_cell hs8 7 _ rfl
            refine bodyPost_ret (v := .tuple #[.agg #[.string (bs u.name), .slice (A 1) u.files.length (C 1), .slice (A 2) u.after.length (C 2), .slice (A 3) u.before.length (C 3), .slice (A 4) u.reqs.length (C 4), .slice (A 5) u.wants.length (C 5), .slice (A 6) u.partof.length (C 6), .int .i64 u.retry], .int .i64 2]) (by simp [results, Tryd.results68, go_sem, z0, z1, z2, z3, z4, z5, z6, z7]) rfl ?_
            rw [HR.out, HL.out]
            exact ⟨A, C, rfl, fun f a b => (HUR.out f a b).ext (hbut.ext (HXW.out) (by omega)), fun _ _ _ h => Or.inl h, hbut.ext (HXW.out) (by omega)⟩
        · have hqr : ((bs wd).toList == [114, 101, 116, 114, 121]) = false := word_ne h3
          have hlo : lineU u wd rs = if wordN wd = 0 then (u, 4) else if nameL rs = false then (u, 14) else addU u (wordN wd) rs := by unfold lineU; rw [if_neg h1, if_neg h2, if_neg h3]
          have HLO := Lib.hid hlo; clear hlo
          have H1 := Lib.hid h1; clear h1
          have H2 := Lib.hid h2; clear h2
          have H3 := Lib.hid h3; clear h3
          have hwd := word_ref13 wd W
          by_cases hw0 : wordN wd = 0
          · have HL : Hid (lineU u wd rs = (u, 4)) := Lib.hid (by rw [HLO.out]; exact if_pos hw0)
            have hwi : wordI wd = -1 := if_pos hw0
            rw [hwi] at hwd
            have HWD := Lib.hid hwd; clear hwd hw0 hwi
            go_upto_region 35 with (go_at_call 86; refine HWD.out.mono ?_; rintro e W1 ⟨rfl, hxw⟩)
            have hb0w := hxw.heap hb0
            have hb1w := hxw.heap hb1
            have HXW1 := Lib.hid (HXW.out.trans hxw)
            clear hb0 hb1 hxw
            have hzw1 : w.heap.size + 1 < W1.heap.size := (Array.getElem?_eq_some_iff.1 hb1w).1
            have c0 := blk_cell hb0w 0 _ rfl
            have c1 := blk_cell hb0w 1 _ rfl
            have c2 := blk_cell hb0w 2 _ rfl
            have c3 := blk_cell hb0w 3 _ rfl
            have c4 := blk_cell hb0w 4 _ rfl
            have c5 := blk_cell hb0w 5 _ rfl
            have c6 := blk_cell hb0w 6 _ rfl
            have c7 := blk_cell hb0w 7 _ rfl
            have y0 := blk_cell hb1w 0 _ rfl
            have f0 := blk_free hb1w 0
            have y1 := blk_cell hb1w 1 _ rfl
            have f1 := blk_free hb1w 1
            have y2 := blk_cell hb1w 2 _ rfl
            have f2 := blk_free hb1w 2
            have y3 := blk_cell hb1w 3 _ rfl
            have f3 := blk_free hb1w 3
            have y4 := blk_cell hb1w 4 _ rfl
            have f4 := blk_free hb1w 4
            have y5 := blk_cell hb1w 5 _ rfl
            have f5 := blk_free hb1w 5
            have y6 := blk_cell hb1w 6 _ rfl
            have f6 := blk_free hb1w 6
            have y7 := blk_cell hb1w 7 _ rfl
            have f7 := blk_free hb1w 7
            have Hb1 := Lib.hid hb1w; clear hb1w
            have Hb0 := Lib.hid hb0w; clear hb0w
            go_wp2_with fail
            have hs8 := set8 Hb1.out (.string (bs u.name)) (.slice (A 1) u.files.length (C 1)) (.slice (A 2) u.after.length (C 2)) (.slice (A 3) u.before.length (C 3)) (.slice (A 4) u.reqs.length (C 4)) (.slice (A 5) u.wants.length (C 5)) (.slice (A 6) u.partof.length (C 6)) (.int .i64 u.retry)
            obtain ⟨hs8, hbut⟩ := hs8
            generalize ((((((((W1.setCell ⟨w.heap.size + 1, 0, none⟩ (.string (bs u.name))).setCell ⟨w.heap.size + 1, 1, none⟩ (.slice (A 1) u.files.length (C 1))).setCell ⟨w.heap.size + 1, 2, none⟩ (.slice (A 2) u.after.length (C 2))).setCell ⟨w.heap.size + 1, 3, none⟩ (.slice (A 3) u.before.length (C 3))).setCell ⟨w.heap.size + 1, 4, none⟩ (.slice (A 4) u.reqs.length (C 4))).setCell ⟨w.heap.size + 1, 5, none⟩ (.slice (A 5) u.wants.length (C 5))).setCell ⟨w.heap.size + 1, 6, none⟩ (.slice (A 6) u.partof.length (C 6))).setCell ⟨w.heap.size + 1, 7, none⟩ (.int .i64 u.retry)) = wf at hs8 hbut ⊢
            have z0 := blk_cell hs8 0 _ rfl
            have z1 := blk_cell hs8 1 _ rfl
            have z2 := blk_cell hs8 2 _ rfl
            have z3 := blk_cell hs8 3 _ rfl
            have z4 := blk_cell hs8 4 _ rfl
            have z5 := blk_cell hs8 5 _ rfl
            have z6 := blk_cell hs8 6 _ rfl
            have z7 := blk_cell hs8 7 _ rfl
            refine bodyPost_ret (v := .tuple #[.agg #[.string (bs u.name), .slice (A 1) u.files.length (C 1), .slice (A 2) u.after.length (C 2), .slice (A 3) u.before.length (C 3), .slice (A 4) u.reqs.length (C 4), .slice (A 5) u.wants.length (C 5), .slice (A 6) u.partof.length (C 6), .int .i64 u.retry], .int .i64 4]) (by simp [results, Tryd.results68, go_sem, z0, z1, z2, z3, z4, z5, z6, z7]) rfl ?_
            rw [HR.out, HL.out]
            exact ⟨A, C, rfl, fun f a b => (HUR.out f a b).ext (hbut.ext (HXW1.out) (by omega)), fun _ _ _ h => Or.inl h, hbut.ext (HXW1.out) (by omega)⟩
          · cases hn : nameL rs with
            | false =>
              rw [hn] at HNM
              have HL : Hid (lineU u wd rs = (u, 14)) := Lib.hid (by rw [HLO.out]; exact (if_neg hw0).trans (if_pos hn)); clear hn
              have hwi : wordI wd = (wordN wd : Int) - 2 := if_neg hw0
              have hwp : 0 ≤ wordI wd := by have := wordN_ne1 wd; omega
              obtain ⟨wi, hwi2⟩ : ∃ wi, wi = wordI wd := ⟨_, rfl⟩
              rw [← hwi2] at hwd hwp
              have HWD := Lib.hid hwd; clear hwd hw0 hwi hwi2
              have hwn : decide (wi < 0) = false := decide_eq_false (by omega)
              go_upto_region 34 with (go_at_call 86; refine HWD.out.mono ?_; rintro e W1 ⟨rfl, hxw⟩)
              have hb0w := hxw.heap hb0
              have hb1w := hxw.heap hb1
              have HXW1 := Lib.hid (HXW.out.trans hxw)
              clear hb0 hb1 hxw
              have hzw1 : w.heap.size + 1 < W1.heap.size := (Array.getElem?_eq_some_iff.1 hb1w).1
              go_upto_region 37 with (go_at_call 20; refine (HNM.out _).mono ?_; rintro e w2 ⟨rfl, rfl⟩)
              have c0 := blk_cell hb0w 0 _ rfl
              have c1 := blk_cell hb0w 1 _ rfl
              have c2 := blk_cell hb0w 2 _ rfl
              have c3 := blk_cell hb0w 3 _ rfl
              have c4 := blk_cell hb0w 4 _ rfl
              have c5 := blk_cell hb0w 5 _ rfl
              have c6 := blk_cell hb0w 6 _ rfl
              have c7 := blk_cell hb0w 7 _ rfl
              have y0 := blk_cell hb1w 0 _ rfl
              have f0 := blk_free hb1w 0
              have y1 := blk_cell hb1w 1 _ rfl
              have f1 := blk_free hb1w 1
              have y2 := blk_cell hb1w 2 _ rfl
              have f2 := blk_free hb1w 2
              have y3 := blk_cell hb1w 3 _ rfl
              have f3 := blk_free hb1w 3
              have y4 := blk_cell hb1w 4 _ rfl
              have f4 := blk_free hb1w 4
              have y5 := blk_cell hb1w 5 _ rfl
              have f5 := blk_free hb1w 5
              have y6 := blk_cell hb1w 6 _ rfl
              have f6 := blk_free hb1w 6
              have y7 := blk_cell hb1w 7 _ rfl
              have f7 := blk_free hb1w 7
              have Hb1 := Lib.hid hb1w; clear hb1w
              have Hb0 := Lib.hid hb0w; clear hb0w
              go_wp2_with fail
              have hs8 := set8 Hb1.out (.string (bs u.name)) (.slice (A 1) u.files.length (C 1)) (.slice (A 2) u.after.length (C 2)) (.slice (A 3) u.before.length (C 3)) (.slice (A 4) u.reqs.length (C 4)) (.slice (A 5) u.wants.length (C 5)) (.slice (A 6) u.partof.length (C 6)) (.int .i64 u.retry)
              obtain ⟨hs8, hbut⟩ := hs8
              generalize ((((((((W1.setCell ⟨w.heap.size + 1, 0, none⟩ (.string (bs u.name))).setCell ⟨w.heap.size + 1, 1, none⟩ (.slice (A 1) u.files.length (C 1))).setCell ⟨w.heap.size + 1, 2, none⟩ (.slice (A 2) u.after.length (C 2))).setCell ⟨w.heap.size + 1, 3, none⟩ (.slice (A 3) u.before.length (C 3))).setCell ⟨w.heap.size + 1, 4, none⟩ (.slice (A 4) u.reqs.length (C 4))).setCell ⟨w.heap.size + 1, 5, none⟩ (.slice (A 5) u.wants.length (C 5))).setCell ⟨w.heap.size + 1, 6, none⟩ (.slice (A 6) u.partof.length (C 6))).setCell ⟨w.heap.size + 1, 7, none⟩ (.int .i64 u.retry)) = wf at hs8 hbut ⊢
              have z0 := blk_cell hs8 0 _ rfl
              have z1 := blk_cell hs8 1 _ rfl
              have z2 := blk_cell hs8 2 _ rfl
              have z3 := blk_cell hs8 3 _ rfl
              have z4 := blk_cell hs8 4 _ rfl
              have z5 := blk_cell hs8 5 _ rfl
              have z6 := blk_cell hs8 6 _ rfl
              have z7 := blk_cell hs8 7 _ rfl
              refine bodyPost_ret (v := .tuple #[.agg #[.string (bs u.name), .slice (A 1) u.files.length (C 1), .slice (A 2) u.after.length (C 2), .slice (A 3) u.before.length (C 3), .slice (A 4) u.reqs.length (C 4), .slice (A 5) u.wants.length (C 5), .slice (A 6) u.partof.length (C 6), .int .i64 u.retry], .int .i64 14]) (by simp [results, Tryd.results68, go_sem, z0, z1, z2, z3, z4, z5, z6, z7]) rfl ?_
              rw [HR.out, HL.out]
              exact ⟨A, C, rfl, fun f a b => (HUR.out f a b).ext (hbut.ext (HXW1.out) (by omega)), fun _ _ _ h => Or.inl h, hbut.ext (HXW1.out) (by omega)⟩
            | true =>
              rw [hn] at HNM
              have hl := HLO.out
              rw [if_neg hw0, if_neg (by rw [hn]; decide)] at hl
              have hwi : wordI wd = (wordN wd : Int) - 2 := if_neg hw0
              have h26 : wordN wd = 2 ∨ wordN wd = 3 ∨ wordN wd = 4 ∨ wordN wd = 5 ∨ wordN wd = 6 := by have := wordN_ne1 wd; have := wordN_le wd; omega
              clear hn hw0 HLO
              rcases h26 with h26 | h26 | h26 | h26 | h26
              · rw [hwi, h26] at hwd
                rw [h26] at hl
                have hwd : Calls Tryd.prog 86 #[.string (bs wd)] W fun e w' => e = .returned (.int .i64 0) ∧ Ext W w' := hwd
                have HWD := Lib.hid hwd; clear hwd hwi h26
                have HL : Hid (lineU u wd rs = addU u 2 rs) := Lib.hid hl; clear hl
                go_upto_region 34 with (go_at_call 86; refine HWD.out.mono ?_; rintro e W1 ⟨rfl, hxw⟩)
                have hb0w := hxw.heap hb0
                have hb1w := hxw.heap hb1
                have HXW1 := Lib.hid (HXW.out.trans hxw)
                clear hb0 hb1 hxw
                have hzw1 : w.heap.size + 1 < W1.heap.size := (Array.getElem?_eq_some_iff.1 hb1w).1
                have d2 : W1.cell? ⟨w.heap.size, 2, none⟩ = some (.slice (A 2) u.after.length (C 2)) := blk_cell hb0w 2 _ rfl
                have hzw0 : w.heap.size < W1.heap.size := by omega
                have hhas := has_ref13 (A 2) u.after (C 2) rs W1 ((HUR.out 2 (by omega) (by omega)).ext (HXW1.out)) (by have := H8.out 2 (by omega) (by omega); have hrl : (u.row 2).length = u.after.length := rfl; omega)
                have hl8 : u.after.length ≤ 8 := H8.out 2 (by omega) (by omega)
                by_cases hm : rs ∈ u.after
                · rw [decide_eq_true hm] at hhas
                  have HHAS := Lib.hid hhas; clear hhas
                  have HL2 : Hid (lineU u wd rs = (u, 9)) := Lib.hid (by rw [HL.out]; exact if_pos hm); clear hm
                  go_upto_region 39 with (first | (go_at_call 20; refine (HNM.out _).mono ?_; rintro e w2 ⟨rfl, rfl⟩) | (go_at_call 85; refine HHAS.out.mono ?_; rintro e w3 ⟨rfl, rfl⟩))
                  have c0 := blk_cell hb0w 0 _ rfl
                  have c1 := blk_cell hb0w 1 _ rfl
                  have c2 := blk_cell hb0w 2 _ rfl
                  have c3 := blk_cell hb0w 3 _ rfl
                  have c4 := blk_cell hb0w 4 _ rfl
                  have c5 := blk_cell hb0w 5 _ rfl
                  have c6 := blk_cell hb0w 6 _ rfl
                  have c7 := blk_cell hb0w 7 _ rfl
                  have y0 := blk_cell hb1w 0 _ rfl
                  have f0 := blk_free hb1w 0
                  have y1 := blk_cell hb1w 1 _ rfl
                  have f1 := blk_free hb1w 1
                  have y2 := blk_cell hb1w 2 _ rfl
                  have f2 := blk_free hb1w 2
                  have y3 := blk_cell hb1w 3 _ rfl
                  have f3 := blk_free hb1w 3
                  have y4 := blk_cell hb1w 4 _ rfl
                  have f4 := blk_free hb1w 4
                  have y5 := blk_cell hb1w 5 _ rfl
                  have f5 := blk_free hb1w 5
                  have y6 := blk_cell hb1w 6 _ rfl
                  have f6 := blk_free hb1w 6
                  have y7 := blk_cell hb1w 7 _ rfl
                  have f7 := blk_free hb1w 7
                  have Hb1 := Lib.hid hb1w; clear hb1w
                  have Hb0 := Lib.hid hb0w; clear hb0w
                  go_wp2_with fail
                  have hs8 := set8 Hb1.out (.string (bs u.name)) (.slice (A 1) u.files.length (C 1)) (.slice (A 2) u.after.length (C 2)) (.slice (A 3) u.before.length (C 3)) (.slice (A 4) u.reqs.length (C 4)) (.slice (A 5) u.wants.length (C 5)) (.slice (A 6) u.partof.length (C 6)) (.int .i64 u.retry)
                  obtain ⟨hs8, hbut⟩ := hs8
                  generalize ((((((((W1.setCell ⟨w.heap.size + 1, 0, none⟩ (.string (bs u.name))).setCell ⟨w.heap.size + 1, 1, none⟩ (.slice (A 1) u.files.length (C 1))).setCell ⟨w.heap.size + 1, 2, none⟩ (.slice (A 2) u.after.length (C 2))).setCell ⟨w.heap.size + 1, 3, none⟩ (.slice (A 3) u.before.length (C 3))).setCell ⟨w.heap.size + 1, 4, none⟩ (.slice (A 4) u.reqs.length (C 4))).setCell ⟨w.heap.size + 1, 5, none⟩ (.slice (A 5) u.wants.length (C 5))).setCell ⟨w.heap.size + 1, 6, none⟩ (.slice (A 6) u.partof.length (C 6))).setCell ⟨w.heap.size + 1, 7, none⟩ (.int .i64 u.retry)) = wf at hs8 hbut ⊢
                  have z0 := blk_cell hs8 0 _ rfl
                  have z1 := blk_cell hs8 1 _ rfl
                  have z2 := blk_cell hs8 2 _ rfl
                  have z3 := blk_cell hs8 3 _ rfl
                  have z4 := blk_cell hs8 4 _ rfl
                  have z5 := blk_cell hs8 5 _ rfl
                  have z6 := blk_cell hs8 6 _ rfl
                  have z7 := blk_cell hs8 7 _ rfl
                  refine bodyPost_ret (v := .tuple #[.agg #[.string (bs u.name), .slice (A 1) u.files.length (C 1), .slice (A 2) u.after.length (C 2), .slice (A 3) u.before.length (C 3), .slice (A 4) u.reqs.length (C 4), .slice (A 5) u.wants.length (C 5), .slice (A 6) u.partof.length (C 6), .int .i64 u.retry], .int .i64 9]) (by simp [results, Tryd.results68, go_sem, z0, z1, z2, z3, z4, z5, z6, z7]) rfl ?_
                  rw [HR.out, HL2.out]
                  exact ⟨A, C, rfl, fun f a b => (HUR.out f a b).ext (hbut.ext (HXW1.out) (by omega)), fun _ _ _ h => Or.inl h, hbut.ext (HXW1.out) (by omega)⟩
                · rw [decide_eq_false hm] at hhas
                  have HHAS := Lib.hid hhas; clear hhas
                  by_cases h88 : u.after.length = 8
                  · have HL2 : Hid (lineU u wd rs = (u, 22)) := Lib.hid (by rw [HL.out]; exact (if_neg hm).trans (if_pos h88)); clear hm
                    have h88b : ((u.after.length : Int) == 8) = true := by simp; omega
                    have H88 := Lib.hid h88; clear h88
                    go_upto_region 41 with (first | (go_at_call 20; refine (HNM.out _).mono ?_; rintro e w2 ⟨rfl, rfl⟩) | (go_at_call 85; refine HHAS.out.mono ?_; rintro e w3 ⟨rfl, rfl⟩))
                    have c0 := blk_cell hb0w 0 _ rfl
                    have c1 := blk_cell hb0w 1 _ rfl
                    have c2 := blk_cell hb0w 2 _ rfl
                    have c3 := blk_cell hb0w 3 _ rfl
                    have c4 := blk_cell hb0w 4 _ rfl
                    have c5 := blk_cell hb0w 5 _ rfl
                    have c6 := blk_cell hb0w 6 _ rfl
                    have c7 := blk_cell hb0w 7 _ rfl
                    have y0 := blk_cell hb1w 0 _ rfl
                    have f0 := blk_free hb1w 0
                    have y1 := blk_cell hb1w 1 _ rfl
                    have f1 := blk_free hb1w 1
                    have y2 := blk_cell hb1w 2 _ rfl
                    have f2 := blk_free hb1w 2
                    have y3 := blk_cell hb1w 3 _ rfl
                    have f3 := blk_free hb1w 3
                    have y4 := blk_cell hb1w 4 _ rfl
                    have f4 := blk_free hb1w 4
                    have y5 := blk_cell hb1w 5 _ rfl
                    have f5 := blk_free hb1w 5
                    have y6 := blk_cell hb1w 6 _ rfl
                    have f6 := blk_free hb1w 6
                    have y7 := blk_cell hb1w 7 _ rfl
                    have f7 := blk_free hb1w 7
                    have Hb1 := Lib.hid hb1w; clear hb1w
                    have Hb0 := Lib.hid hb0w; clear hb0w
                    go_wp2_with fail
                    have hs8 := set8 Hb1.out (.string (bs u.name)) (.slice (A 1) u.files.length (C 1)) (.slice (A 2) u.after.length (C 2)) (.slice (A 3) u.before.length (C 3)) (.slice (A 4) u.reqs.length (C 4)) (.slice (A 5) u.wants.length (C 5)) (.slice (A 6) u.partof.length (C 6)) (.int .i64 u.retry)
                    obtain ⟨hs8, hbut⟩ := hs8
                    generalize ((((((((W1.setCell ⟨w.heap.size + 1, 0, none⟩ (.string (bs u.name))).setCell ⟨w.heap.size + 1, 1, none⟩ (.slice (A 1) u.files.length (C 1))).setCell ⟨w.heap.size + 1, 2, none⟩ (.slice (A 2) u.after.length (C 2))).setCell ⟨w.heap.size + 1, 3, none⟩ (.slice (A 3) u.before.length (C 3))).setCell ⟨w.heap.size + 1, 4, none⟩ (.slice (A 4) u.reqs.length (C 4))).setCell ⟨w.heap.size + 1, 5, none⟩ (.slice (A 5) u.wants.length (C 5))).setCell ⟨w.heap.size + 1, 6, none⟩ (.slice (A 6) u.partof.length (C 6))).setCell ⟨w.heap.size + 1, 7, none⟩ (.int .i64 u.retry)) = wf at hs8 hbut ⊢
                    have z0 := blk_cell hs8 0 _ rfl
                    have z1 := blk_cell hs8 1 _ rfl
                    have z2 := blk_cell hs8 2 _ rfl
                    have z3 := blk_cell hs8 3 _ rfl
                    have z4 := blk_cell hs8 4 _ rfl
                    have z5 := blk_cell hs8 5 _ rfl
                    have z6 := blk_cell hs8 6 _ rfl
                    have z7 := blk_cell hs8 7 _ rfl
                    refine bodyPost_ret (v := .tuple #[.agg #[.string (bs u.name), .slice (A 1) u.files.length (C 1), .slice (A 2) u.after.length (C 2), .slice (A 3) u.before.length (C 3), .slice (A 4) u.reqs.length (C 4), .slice (A 5) u.wants.length (C 5), .slice (A 6) u.partof.length (C 6), .int .i64 u.retry], .int .i64 22]) (by simp [results, Tryd.results68, go_sem, z0, z1, z2, z3, z4, z5, z6, z7]) rfl ?_
                    rw [HR.out, HL2.out]
                    exact ⟨A, C, rfl, fun f a b => (HUR.out f a b).ext (hbut.ext (HXW1.out) (by omega)), fun _ _ _ h => Or.inl h, hbut.ext (HXW1.out) (by omega)⟩
                  · have HL2 : Hid (lineU u wd rs = (u.put 2 (u.after ++ [rs]), 0)) := Lib.hid (by rw [HL.out]; exact (if_neg hm).trans (if_neg h88)); clear hm
                    have h88b : ((u.after.length : Int) == 8) = false := by simp; omega
                    have H88 := Lib.hid h88; clear h88
                    have HFS : Hid (Strs W1 (A 2) u.after) := Lib.hid ((HUR.out 2 (by omega) (by omega)).ext (HXW1.out))
                    have H0 := Lib.hid hb0w; clear hb0w
                    have H1B := Lib.hid hb1w; clear hb1w
                    go_upto_region 43 with (first | (go_at_call 20; refine (HNM.out _).mono ?_; rintro e w2 ⟨rfl, rfl⟩) | (go_at_call 85; refine HHAS.out.mono ?_; rintro e w3 ⟨rfl, rfl⟩) | (at_builtin; refine append_row rfl (.tmp 127) (.tmp 131) 23 9 (.string ⟨#[]⟩) 16 rfl Tryd.underlying23 info_string rfl W1.heap.size (some ⟨W1.heap.size, 0, none⟩) 0 0 [] (by rfl) (ownsRow_empty W1 _) (A 2) u.after.length (C 2) (textV u.after) (by rfl) (textV_len _) (Strs.row (HFS.out.ext (Ext.alloc _ _))) (textV_one _) (by omega) (by decide) (by simp) u.after.length (Nat.zero_add _) ?_; intro ad cap3 w3 hown3 hk3 hb3; have hx3 : Hid (Ext W1 w3) := Lib.hid (Below.trans (Ext.alloc W1 _) hb3); have hz3 := hx3.out.size; clear hk3 hb3; have hown3 := Lib.hid hown3) | (at_builtin; refine append_text rfl (.tmp 132) (.tmp 134) rfl W1.heap.size ad cap3 u.after rs (by rfl) hown3.out (by rfl) (by omega) hz3 ?_; intro g cap4 w4 hown4 hb4; have hx4 : Hid (Ext W1 w4) := Lib.hid (Below.trans hx3.out hb4); have hz4 := hx4.out.size; have g0 := hx4.out.heap H0.out; have m0 := blk_cell g0 2 _ rfl; have m1 := blk_free g0 2; have hown4 := Lib.hid hown4; have hb4 := Lib.hid hb4; have g0 := Lib.hid g0))
                    have g0x := g0.out
                    have g1x := hx4.out.heap H1B.out
                    have hb0s : (w4.setCell ⟨w.heap.size, 2, none⟩ (.slice (some ⟨g, 0, none⟩) (u.after.length + 1) cap4)).heap[w.heap.size]? = some (.cells #[.string (bs u.name), .slice (A 1) u.files.length (C 1), .slice (some ⟨g, 0, none⟩) (u.after.length + 1) cap4, .slice (A 3) u.before.length (C 3), .slice (A 4) u.reqs.length (C 4), .slice (A 5) u.wants.length (C 5), .slice (A 6) u.partof.length (C 6), .int .i64 u.retry] 61 (0, 0)) := setCell_row (i := 2) g0x _
                    have hbt : But w.heap.size w4 (w4.setCell ⟨w.heap.size, 2, none⟩ (.slice (some ⟨g, 0, none⟩) (u.after.length + 1) cap4)) := (But.refl w.heap.size w4).setCell 2 (.slice (some ⟨g, 0, none⟩) (u.after.length + 1) cap4)
                    have hb1s : (w4.setCell ⟨w.heap.size, 2, none⟩ (.slice (some ⟨g, 0, none⟩) (u.after.length + 1) cap4)).heap[w.heap.size + 1]? = some (.cells #[.string ⟨#[]⟩, .slice none 0 0, .slice none 0 0, .slice none 0 0, .slice none 0 0, .slice none 0 0, .slice none 0 0, .int .i64 0] 61 (0, 0)) := (hbt.block (w.heap.size + 1) (by omega) (by omega)).trans g1x
                    have hxs2 : Ext w (w4.setCell ⟨w.heap.size, 2, none⟩ (.slice (some ⟨g, 0, none⟩) (u.after.length + 1) cap4)) := But.ext ((HXW1.out).trans hx4.out) hbt (Nat.le_refl _)
                    have hsz2 : w.heap.size + 1 < (w4.setCell ⟨w.heap.size, 2, none⟩ (.slice (some ⟨g, 0, none⟩) (u.after.length + 1) cap4)).heap.size := by have := hbt.size; omega
                    generalize w4.setCell ⟨w.heap.size, 2, none⟩ (.slice (some ⟨g, 0, none⟩) (u.after.length + 1) cap4) = W2 at hb0s hb1s hxs2 hbt hsz2 ⊢
                    have HX2 := Lib.hid hxs2; clear hxs2
                    have HBT := Lib.hid hbt; clear hbt
                    have hst := fun (X : World) (q : But (w.heap.size + 1) W2 X) => OwnS.two hown4.out ⟨by omega, by omega⟩ HBT.out q
                    have HST := Lib.hid hst; clear hst m0 m1 g0x g1x
                    have hgge := Lib.hid hown4.out.ge
                    have c0 := blk_cell hb0s 0 _ rfl
                    have c1 := blk_cell hb0s 1 _ rfl
                    have c2 := blk_cell hb0s 2 _ rfl
                    have c3 := blk_cell hb0s 3 _ rfl
                    have c4 := blk_cell hb0s 4 _ rfl
                    have c5 := blk_cell hb0s 5 _ rfl
                    have c6 := blk_cell hb0s 6 _ rfl
                    have c7 := blk_cell hb0s 7 _ rfl
                    have y0 := blk_cell hb1s 0 _ rfl
                    have f0 := blk_free hb1s 0
                    have y1 := blk_cell hb1s 1 _ rfl
                    have f1 := blk_free hb1s 1
                    have y2 := blk_cell hb1s 2 _ rfl
                    have f2 := blk_free hb1s 2
                    have y3 := blk_cell hb1s 3 _ rfl
                    have f3 := blk_free hb1s 3
                    have y4 := blk_cell hb1s 4 _ rfl
                    have f4 := blk_free hb1s 4
                    have y5 := blk_cell hb1s 5 _ rfl
                    have f5 := blk_free hb1s 5
                    have y6 := blk_cell hb1s 6 _ rfl
                    have f6 := blk_free hb1s 6
                    have y7 := blk_cell hb1s 7 _ rfl
                    have f7 := blk_free hb1s 7
                    have Hb1 := Lib.hid hb1s; clear hb1s
                    have Hb0 := Lib.hid hb0s; clear hb0s
                    go_wp2_with fail
                    have hs8 := set8 Hb1.out (.string (bs u.name)) (.slice (A 1) u.files.length (C 1)) (.slice (some ⟨g, 0, none⟩) (u.after.length + 1) cap4) (.slice (A 3) u.before.length (C 3)) (.slice (A 4) u.reqs.length (C 4)) (.slice (A 5) u.wants.length (C 5)) (.slice (A 6) u.partof.length (C 6)) (.int .i64 u.retry)
                    obtain ⟨hs8, hbut⟩ := hs8
                    generalize ((((((((W2.setCell ⟨w.heap.size + 1, 0, none⟩ (.string (bs u.name))).setCell ⟨w.heap.size + 1, 1, none⟩ (.slice (A 1) u.files.length (C 1))).setCell ⟨w.heap.size + 1, 2, none⟩ (.slice (some ⟨g, 0, none⟩) (u.after.length + 1) cap4)).setCell ⟨w.heap.size + 1, 3, none⟩ (.slice (A 3) u.before.length (C 3))).setCell ⟨w.heap.size + 1, 4, none⟩ (.slice (A 4) u.reqs.length (C 4))).setCell ⟨w.heap.size + 1, 5, none⟩ (.slice (A 5) u.wants.length (C 5))).setCell ⟨w.heap.size + 1, 6, none⟩ (.slice (A 6) u.partof.length (C 6))).setCell ⟨w.heap.size + 1, 7, none⟩ (.int .i64 u.retry)) = wf at hs8 hbut ⊢
                    have z0 := blk_cell hs8 0 _ rfl
                    have z1 := blk_cell hs8 1 _ rfl
                    have z2 := blk_cell hs8 2 _ rfl
                    have z3 := blk_cell hs8 3 _ rfl
                    have z4 := blk_cell hs8 4 _ rfl
                    have z5 := blk_cell hs8 5 _ rfl
                    have z6 := blk_cell hs8 6 _ rfl
                    have z7 := blk_cell hs8 7 _ rfl
                    refine bodyPost_ret (v := .tuple #[.agg #[.string (bs u.name), .slice (A 1) u.files.length (C 1), .slice (some ⟨g, 0, none⟩) (u.after.length + 1) cap4, .slice (A 3) u.before.length (C 3), .slice (A 4) u.reqs.length (C 4), .slice (A 5) u.wants.length (C 5), .slice (A 6) u.partof.length (C 6), .int .i64 u.retry], .int .i64 0]) (by simp [results, Tryd.results68, go_sem, z0, z1, z2, z3, z4, z5, z6, z7]) rfl ?_
                    rw [HR.out, HL2.out]
                    exact ⟨(fun j => if j = 2 then some ⟨g, 0, none⟩ else A j), (fun j => if j = 2 then cap4 else C j), (by simp [unitV, UnitD.put]), unitR_put 2 (by omega) (by omega) HUR.out (hbut.ext (HX2.out) (by omega)) (HST.out _ hbut), at_put 2 (Nat.le_trans HXW1.out.size (hgge.out)), hbut.ext (HX2.out) (by omega)⟩
              · rw [hwi, h26] at hwd
                rw [h26] at hl
                have hwd : Calls Tryd.prog 86 #[.string (bs wd)] W fun e w' => e = .returned (.int .i64 1) ∧ Ext W w' := hwd
                have HWD := Lib.hid hwd; clear hwd hwi h26
                have HL : Hid (lineU u wd rs = addU u 3 rs) := Lib.hid hl; clear hl
                go_upto_region 34 with (go_at_call 86; refine HWD.out.mono ?_; rintro e W1 ⟨rfl, hxw⟩)
                have hb0w := hxw.heap hb0
                have hb1w := hxw.heap hb1
                have HXW1 := Lib.hid (HXW.out.trans hxw)
                clear hb0 hb1 hxw
                have hzw1 : w.heap.size + 1 < W1.heap.size := (Array.getElem?_eq_some_iff.1 hb1w).1
                have d3 : W1.cell? ⟨w.heap.size, 3, none⟩ = some (.slice (A 3) u.before.length (C 3)) := blk_cell hb0w 3 _ rfl
                have hzw0 : w.heap.size < W1.heap.size := by omega
                have hhas := has_ref13 (A 3) u.before (C 3) rs W1 ((HUR.out 3 (by omega) (by omega)).ext (HXW1.out)) (by have := H8.out 3 (by omega) (by omega); have hrl : (u.row 3).length = u.before.length := rfl; omega)
                have hl8 : u.before.length ≤ 8 := H8.out 3 (by omega) (by omega)
                by_cases hm : rs ∈ u.before
                · rw [decide_eq_true hm] at hhas
                  have HHAS := Lib.hid hhas; clear hhas
                  have HL2 : Hid (lineU u wd rs = (u, 9)) := Lib.hid (by rw [HL.out]; exact if_pos hm); clear hm
                  go_upto_region 39 with (first | (go_at_call 20; refine (HNM.out _).mono ?_; rintro e w2 ⟨rfl, rfl⟩) | (go_at_call 85; refine HHAS.out.mono ?_; rintro e w3 ⟨rfl, rfl⟩))
                  have c0 := blk_cell hb0w 0 _ rfl
                  have c1 := blk_cell hb0w 1 _ rfl
                  have c2 := blk_cell hb0w 2 _ rfl
                  have c3 := blk_cell hb0w 3 _ rfl
                  have c4 := blk_cell hb0w 4 _ rfl
                  have c5 := blk_cell hb0w 5 _ rfl
                  have c6 := blk_cell hb0w 6 _ rfl
                  have c7 := blk_cell hb0w 7 _ rfl
                  have y0 := blk_cell hb1w 0 _ rfl
                  have f0 := blk_free hb1w 0
                  have y1 := blk_cell hb1w 1 _ rfl
                  have f1 := blk_free hb1w 1
                  have y2 := blk_cell hb1w 2 _ rfl
                  have f2 := blk_free hb1w 2
                  have y3 := blk_cell hb1w 3 _ rfl
                  have f3 := blk_free hb1w 3
                  have y4 := blk_cell hb1w 4 _ rfl
                  have f4 := blk_free hb1w 4
                  have y5 := blk_cell hb1w 5 _ rfl
                  have f5 := blk_free hb1w 5
                  have y6 := blk_cell hb1w 6 _ rfl
                  have f6 := blk_free hb1w 6
                  have y7 := blk_cell hb1w 7 _ rfl
                  have f7 := blk_free hb1w 7
                  have Hb1 := Lib.hid hb1w; clear hb1w
                  have Hb0 := Lib.hid hb0w; clear hb0w
                  go_wp2_with fail
                  have hs8 := set8 Hb1.out (.string (bs u.name)) (.slice (A 1) u.files.length (C 1)) (.slice (A 2) u.after.length (C 2)) (.slice (A 3) u.before.length (C 3)) (.slice (A 4) u.reqs.length (C 4)) (.slice (A 5) u.wants.length (C 5)) (.slice (A 6) u.partof.length (C 6)) (.int .i64 u.retry)
                  obtain ⟨hs8, hbut⟩ := hs8
                  generalize ((((((((W1.setCell ⟨w.heap.size + 1, 0, none⟩ (.string (bs u.name))).setCell ⟨w.heap.size + 1, 1, none⟩ (.slice (A 1) u.files.length (C 1))).setCell ⟨w.heap.size + 1, 2, none⟩ (.slice (A 2) u.after.length (C 2))).setCell ⟨w.heap.size + 1, 3, none⟩ (.slice (A 3) u.before.length (C 3))).setCell ⟨w.heap.size + 1, 4, none⟩ (.slice (A 4) u.reqs.length (C 4))).setCell ⟨w.heap.size + 1, 5, none⟩ (.slice (A 5) u.wants.length (C 5))).setCell ⟨w.heap.size + 1, 6, none⟩ (.slice (A 6) u.partof.length (C 6))).setCell ⟨w.heap.size + 1, 7, none⟩ (.int .i64 u.retry)) = wf at hs8 hbut ⊢
                  have z0 := blk_cell hs8 0 _ rfl
                  have z1 := blk_cell hs8 1 _ rfl
                  have z2 := blk_cell hs8 2 _ rfl
                  have z3 := blk_cell hs8 3 _ rfl
                  have z4 := blk_cell hs8 4 _ rfl
                  have z5 := blk_cell hs8 5 _ rfl
                  have z6 := blk_cell hs8 6 _ rfl
                  have z7 := blk_cell hs8 7 _ rfl
                  refine bodyPost_ret (v := .tuple #[.agg #[.string (bs u.name), .slice (A 1) u.files.length (C 1), .slice (A 2) u.after.length (C 2), .slice (A 3) u.before.length (C 3), .slice (A 4) u.reqs.length (C 4), .slice (A 5) u.wants.length (C 5), .slice (A 6) u.partof.length (C 6), .int .i64 u.retry], .int .i64 9]) (by simp [results, Tryd.results68, go_sem, z0, z1, z2, z3, z4, z5, z6, z7]) rfl ?_
                  rw [HR.out, HL2.out]
                  exact ⟨A, C, rfl, fun f a b => (HUR.out f a b).ext (hbut.ext (HXW1.out) (by omega)), fun _ _ _ h => Or.inl h, hbut.ext (HXW1.out) (by omega)⟩
                · rw [decide_eq_false hm] at hhas
                  have HHAS := Lib.hid hhas; clear hhas
                  by_cases h88 : u.before.length = 8
                  · have HL2 : Hid (lineU u wd rs = (u, 22)) := Lib.hid (by rw [HL.out]; exact (if_neg hm).trans (if_pos h88)); clear hm
                    have h88b : ((u.before.length : Int) == 8) = true := by simp; omega
                    have H88 := Lib.hid h88; clear h88
                    go_upto_region 41 with (first | (go_at_call 20; refine (HNM.out _).mono ?_; rintro e w2 ⟨rfl, rfl⟩) | (go_at_call 85; refine HHAS.out.mono ?_; rintro e w3 ⟨rfl, rfl⟩))
                    have c0 := blk_cell hb0w 0 _ rfl
                    have c1 := blk_cell hb0w 1 _ rfl
                    have c2 := blk_cell hb0w 2 _ rfl
                    have c3 := blk_cell hb0w 3 _ rfl
                    have c4 := blk_cell hb0w 4 _ rfl
                    have c5 := blk_cell hb0w 5 _ rfl
                    have c6 := blk_cell hb0w 6 _ rfl
                    have c7 := blk_cell hb0w 7 _ rfl
                    have y0 := blk_cell hb1w 0 _ rfl
                    have f0 := blk_free hb1w 0
                    have y1 := blk_cell hb1w 1 _ rfl
                    have f1 := blk_free hb1w 1
                    have y2 := blk_cell hb1w 2 _ rfl
                    have f2 := blk_free hb1w 2
                    have y3 := blk_cell hb1w 3 _ rfl
                    have f3 := blk_free hb1w 3
                    have y4 := blk_cell hb1w 4 _ rfl
                    have f4 := blk_free hb1w 4
                    have y5 := blk_cell hb1w 5 _ rfl
                    have f5 := blk_free hb1w 5
                    have y6 := blk_cell hb1w 6 _ rfl
                    have f6 := blk_free hb1w 6
                    have y7 := blk_cell hb1w 7 _ rfl
                    have f7 := blk_free hb1w 7
                    have Hb1 := Lib.hid hb1w; clear hb1w
                    have Hb0 := Lib.hid hb0w; clear hb0w
                    go_wp2_with fail
                    have hs8 := set8 Hb1.out (.string (bs u.name)) (.slice (A 1) u.files.length (C 1)) (.slice (A 2) u.after.length (C 2)) (.slice (A 3) u.before.length (C 3)) (.slice (A 4) u.reqs.length (C 4)) (.slice (A 5) u.wants.length (C 5)) (.slice (A 6) u.partof.length (C 6)) (.int .i64 u.retry)
                    obtain ⟨hs8, hbut⟩ := hs8
                    generalize ((((((((W1.setCell ⟨w.heap.size + 1, 0, none⟩ (.string (bs u.name))).setCell ⟨w.heap.size + 1, 1, none⟩ (.slice (A 1) u.files.length (C 1))).setCell ⟨w.heap.size + 1, 2, none⟩ (.slice (A 2) u.after.length (C 2))).setCell ⟨w.heap.size + 1, 3, none⟩ (.slice (A 3) u.before.length (C 3))).setCell ⟨w.heap.size + 1, 4, none⟩ (.slice (A 4) u.reqs.length (C 4))).setCell ⟨w.heap.size + 1, 5, none⟩ (.slice (A 5) u.wants.length (C 5))).setCell ⟨w.heap.size + 1, 6, none⟩ (.slice (A 6) u.partof.length (C 6))).setCell ⟨w.heap.size + 1, 7, none⟩ (.int .i64 u.retry)) = wf at hs8 hbut ⊢
                    have z0 := blk_cell hs8 0 _ rfl
                    have z1 := blk_cell hs8 1 _ rfl
                    have z2 := blk_cell hs8 2 _ rfl
                    have z3 := blk_cell hs8 3 _ rfl
                    have z4 := blk_cell hs8 4 _ rfl
                    have z5 := blk_cell hs8 5 _ rfl
                    have z6 := blk_cell hs8 6 _ rfl
                    have z7 := blk_cell hs8 7 _ rfl
                    refine bodyPost_ret (v := .tuple #[.agg #[.string (bs u.name), .slice (A 1) u.files.length (C 1), .slice (A 2) u.after.length (C 2), .slice (A 3) u.before.length (C 3), .slice (A 4) u.reqs.length (C 4), .slice (A 5) u.wants.length (C 5), .slice (A 6) u.partof.length (C 6), .int .i64 u.retry], .int .i64 22]) (by simp [results, Tryd.results68, go_sem, z0, z1, z2, z3, z4, z5, z6, z7]) rfl ?_
                    rw [HR.out, HL2.out]
                    exact ⟨A, C, rfl, fun f a b => (HUR.out f a b).ext (hbut.ext (HXW1.out) (by omega)), fun _ _ _ h => Or.inl h, hbut.ext (HXW1.out) (by omega)⟩
                  · have HL2 : Hid (lineU u wd rs = (u.put 3 (u.before ++ [rs]), 0)) := Lib.hid (by rw [HL.out]; exact (if_neg hm).trans (if_neg h88)); clear hm
                    have h88b : ((u.before.length : Int) == 8) = false := by simp; omega
                    have H88 := Lib.hid h88; clear h88
                    have HFS : Hid (Strs W1 (A 3) u.before) := Lib.hid ((HUR.out 3 (by omega) (by omega)).ext (HXW1.out))
                    have H0 := Lib.hid hb0w; clear hb0w
                    have H1B := Lib.hid hb1w; clear hb1w
                    go_upto_region 43 with (first | (go_at_call 20; refine (HNM.out _).mono ?_; rintro e w2 ⟨rfl, rfl⟩) | (go_at_call 85; refine HHAS.out.mono ?_; rintro e w3 ⟨rfl, rfl⟩) | (at_builtin; refine append_row rfl (.tmp 127) (.tmp 131) 23 9 (.string ⟨#[]⟩) 16 rfl Tryd.underlying23 info_string rfl W1.heap.size (some ⟨W1.heap.size, 0, none⟩) 0 0 [] (by rfl) (ownsRow_empty W1 _) (A 3) u.before.length (C 3) (textV u.before) (by rfl) (textV_len _) (Strs.row (HFS.out.ext (Ext.alloc _ _))) (textV_one _) (by omega) (by decide) (by simp) u.before.length (Nat.zero_add _) ?_; intro ad cap3 w3 hown3 hk3 hb3; have hx3 : Hid (Ext W1 w3) := Lib.hid (Below.trans (Ext.alloc W1 _) hb3); have hz3 := hx3.out.size; clear hk3 hb3; have hown3 := Lib.hid hown3) | (at_builtin; refine append_text rfl (.tmp 132) (.tmp 134) rfl W1.heap.size ad cap3 u.before rs (by rfl) hown3.out (by rfl) (by omega) hz3 ?_; intro g cap4 w4 hown4 hb4; have hx4 : Hid (Ext W1 w4) := Lib.hid (Below.trans hx3.out hb4); have hz4 := hx4.out.size; have g0 := hx4.out.heap H0.out; have m0 := blk_cell g0 3 _ rfl; have m1 := blk_free g0 3; have hown4 := Lib.hid hown4; have hb4 := Lib.hid hb4; have g0 := Lib.hid g0))
                    have g0x := g0.out
                    have g1x := hx4.out.heap H1B.out
                    have hb0s : (w4.setCell ⟨w.heap.size, 3, none⟩ (.slice (some ⟨g, 0, none⟩) (u.before.length + 1) cap4)).heap[w.heap.size]? = some (.cells #[.string (bs u.name), .slice (A 1) u.files.length (C 1), .slice (A 2) u.after.length (C 2), .slice (some ⟨g, 0, none⟩) (u.before.length + 1) cap4, .slice (A 4) u.reqs.length (C 4), .slice (A 5) u.wants.length (C 5), .slice (A 6) u.partof.length (C 6), .int .i64 u.retry] 61 (0, 0)) := setCell_row (i := 3) g0x _
                    have hbt : But w.heap.size w4 (w4.setCell ⟨w.heap.size, 3, none⟩ (.slice (some ⟨g, 0, none⟩) (u.before.length + 1) cap4)) := (But.refl w.heap.size w4).setCell 3 (.slice (some ⟨g, 0, none⟩) (u.before.length + 1) cap4)
                    have hb1s : (w4.setCell ⟨w.heap.size, 3, none⟩ (.slice (some ⟨g, 0, none⟩) (u.before.length + 1) cap4)).heap[w.heap.size + 1]? = some (.cells #[.string ⟨#[]⟩, .slice none 0 0, .slice none 0 0, .slice none 0 0, .slice none 0 0, .slice none 0 0, .slice none 0 0, .int .i64 0] 61 (0, 0)) := (hbt.block (w.heap.size + 1) (by omega) (by omega)).trans g1x
                    have hxs2 : Ext w (w4.setCell ⟨w.heap.size, 3, none⟩ (.slice (some ⟨g, 0, none⟩) (u.before.length + 1) cap4)) := But.ext ((HXW1.out).trans hx4.out) hbt (Nat.le_refl _)
                    have hsz2 : w.heap.size + 1 < (w4.setCell ⟨w.heap.size, 3, none⟩ (.slice (some ⟨g, 0, none⟩) (u.before.length + 1) cap4)).heap.size := by have := hbt.size; omega
                    generalize w4.setCell ⟨w.heap.size, 3, none⟩ (.slice (some ⟨g, 0, none⟩) (u.before.length + 1) cap4) = W2 at hb0s hb1s hxs2 hbt hsz2 ⊢
                    have HX2 := Lib.hid hxs2; clear hxs2
                    have HBT := Lib.hid hbt; clear hbt
                    have hst := fun (X : World) (q : But (w.heap.size + 1) W2 X) => OwnS.two hown4.out ⟨by omega, by omega⟩ HBT.out q
                    have HST := Lib.hid hst; clear hst m0 m1 g0x g1x
                    have hgge := Lib.hid hown4.out.ge
                    have c0 := blk_cell hb0s 0 _ rfl
                    have c1 := blk_cell hb0s 1 _ rfl
                    have c2 := blk_cell hb0s 2 _ rfl
                    have c3 := blk_cell hb0s 3 _ rfl
                    have c4 := blk_cell hb0s 4 _ rfl
                    have c5 := blk_cell hb0s 5 _ rfl
                    have c6 := blk_cell hb0s 6 _ rfl
                    have c7 := blk_cell hb0s 7 _ rfl
                    have y0 := blk_cell hb1s 0 _ rfl
                    have f0 := blk_free hb1s 0
                    have y1 := blk_cell hb1s 1 _ rfl
                    have f1 := blk_free hb1s 1
                    have y2 := blk_cell hb1s 2 _ rfl
                    have f2 := blk_free hb1s 2
                    have y3 := blk_cell hb1s 3 _ rfl
                    have f3 := blk_free hb1s 3
                    have y4 := blk_cell hb1s 4 _ rfl
                    have f4 := blk_free hb1s 4
                    have y5 := blk_cell hb1s 5 _ rfl
                    have f5 := blk_free hb1s 5
                    have y6 := blk_cell hb1s 6 _ rfl
                    have f6 := blk_free hb1s 6
                    have y7 := blk_cell hb1s 7 _ rfl
                    have f7 := blk_free hb1s 7
                    have Hb1 := Lib.hid hb1s; clear hb1s
                    have Hb0 := Lib.hid hb0s; clear hb0s
                    go_wp2_with fail
                    have hs8 := set8 Hb1.out (.string (bs u.name)) (.slice (A 1) u.files.length (C 1)) (.slice (A 2) u.after.length (C 2)) (.slice (some ⟨g, 0, none⟩) (u.before.length + 1) cap4) (.slice (A 4) u.reqs.length (C 4)) (.slice (A 5) u.wants.length (C 5)) (.slice (A 6) u.partof.length (C 6)) (.int .i64 u.retry)
                    obtain ⟨hs8, hbut⟩ := hs8
                    generalize ((((((((W2.setCell ⟨w.heap.size + 1, 0, none⟩ (.string (bs u.name))).setCell ⟨w.heap.size + 1, 1, none⟩ (.slice (A 1) u.files.length (C 1))).setCell ⟨w.heap.size + 1, 2, none⟩ (.slice (A 2) u.after.length (C 2))).setCell ⟨w.heap.size + 1, 3, none⟩ (.slice (some ⟨g, 0, none⟩) (u.before.length + 1) cap4)).setCell ⟨w.heap.size + 1, 4, none⟩ (.slice (A 4) u.reqs.length (C 4))).setCell ⟨w.heap.size + 1, 5, none⟩ (.slice (A 5) u.wants.length (C 5))).setCell ⟨w.heap.size + 1, 6, none⟩ (.slice (A 6) u.partof.length (C 6))).setCell ⟨w.heap.size + 1, 7, none⟩ (.int .i64 u.retry)) = wf at hs8 hbut ⊢
                    have z0 := blk_cell hs8 0 _ rfl
                    have z1 := blk_cell hs8 1 _ rfl
                    have z2 := blk_cell hs8 2 _ rfl
                    have z3 := blk_cell hs8 3 _ rfl
                    have z4 := blk_cell hs8 4 _ rfl
                    have z5 := blk_cell hs8 5 _ rfl
                    have z6 := blk_cell hs8 6 _ rfl
                    have z7 := blk_cell hs8 7 _ rfl
                    refine bodyPost_ret (v := .tuple #[.agg #[.string (bs u.name), .slice (A 1) u.files.length (C 1), .slice (A 2) u.after.length (C 2), .slice (some ⟨g, 0, none⟩) (u.before.length + 1) cap4, .slice (A 4) u.reqs.length (C 4), .slice (A 5) u.wants.length (C 5), .slice (A 6) u.partof.length (C 6), .int .i64 u.retry], .int .i64 0]) (by simp [results, Tryd.results68, go_sem, z0, z1, z2, z3, z4, z5, z6, z7]) rfl ?_
                    rw [HR.out, HL2.out]
                    exact ⟨(fun j => if j = 3 then some ⟨g, 0, none⟩ else A j), (fun j => if j = 3 then cap4 else C j), (by simp [unitV, UnitD.put]), unitR_put 3 (by omega) (by omega) HUR.out (hbut.ext (HX2.out) (by omega)) (HST.out _ hbut), at_put 3 (Nat.le_trans HXW1.out.size (hgge.out)), hbut.ext (HX2.out) (by omega)⟩
              · rw [hwi, h26] at hwd
                rw [h26] at hl
                have hwd : Calls Tryd.prog 86 #[.string (bs wd)] W fun e w' => e = .returned (.int .i64 2) ∧ Ext W w' := hwd
                have HWD := Lib.hid hwd; clear hwd hwi h26
                have HL : Hid (lineU u wd rs = addU u 4 rs) := Lib.hid hl; clear hl
                go_upto_region 34 with (go_at_call 86; refine HWD.out.mono ?_; rintro e W1 ⟨rfl, hxw⟩)
                have hb0w := hxw.heap hb0
                have hb1w := hxw.heap hb1
                have HXW1 := Lib.hid (HXW.out.trans hxw)
                clear hb0 hb1 hxw
                have hzw1 : w.heap.size + 1 < W1.heap.size := (Array.getElem?_eq_some_iff.1 hb1w).1
                have d4 : W1.cell? ⟨w.heap.size, 4, none⟩ = some (.slice (A 4) u.reqs.length (C 4)) := blk_cell hb0w 4 _ rfl
                have hzw0 : w.heap.size < W1.heap.size := by omega
                have hhas := has_ref13 (A 4) u.reqs (C 4) rs W1 ((HUR.out 4 (by omega) (by omega)).ext (HXW1.out)) (by have := H8.out 4 (by omega) (by omega); have hrl : (u.row 4).length = u.reqs.length := rfl; omega)
                have hl8 : u.reqs.length ≤ 8 := H8.out 4 (by omega) (by omega)
                by_cases hm : rs ∈ u.reqs
                · rw [decide_eq_true hm] at hhas
                  have HHAS := Lib.hid hhas; clear hhas
                  have HL2 : Hid (lineU u wd rs = (u, 9)) := Lib.hid (by rw [HL.out]; exact if_pos hm); clear hm
                  go_upto_region 39 with (first | (go_at_call 20; refine (HNM.out _).mono ?_; rintro e w2 ⟨rfl, rfl⟩) | (go_at_call 85; refine HHAS.out.mono ?_; rintro e w3 ⟨rfl, rfl⟩))
                  have c0 := blk_cell hb0w 0 _ rfl
                  have c1 := blk_cell hb0w 1 _ rfl
                  have c2 := blk_cell hb0w 2 _ rfl
                  have c3 := blk_cell hb0w 3 _ rfl
                  have c4 := blk_cell hb0w 4 _ rfl
                  have c5 := blk_cell hb0w 5 _ rfl
                  have c6 := blk_cell hb0w 6 _ rfl
                  have c7 := blk_cell hb0w 7 _ rfl
                  have y0 := blk_cell hb1w 0 _ rfl
                  have f0 := blk_free hb1w 0
                  have y1 := blk_cell hb1w 1 _ rfl
                  have f1 := blk_free hb1w 1
                  have y2 := blk_cell hb1w 2 _ rfl
                  have f2 := blk_free hb1w 2
                  have y3 := blk_cell hb1w 3 _ rfl
                  have f3 := blk_free hb1w 3
                  have y4 := blk_cell hb1w 4 _ rfl
                  have f4 := blk_free hb1w 4
                  have y5 := blk_cell hb1w 5 _ rfl
                  have f5 := blk_free hb1w 5
                  have y6 := blk_cell hb1w 6 _ rfl
                  have f6 := blk_free hb1w 6
                  have y7 := blk_cell hb1w 7 _ rfl
                  have f7 := blk_free hb1w 7
                  have Hb1 := Lib.hid hb1w; clear hb1w
                  have Hb0 := Lib.hid hb0w; clear hb0w
                  go_wp2_with fail
                  have hs8 := set8 Hb1.out (.string (bs u.name)) (.slice (A 1) u.files.length (C 1)) (.slice (A 2) u.after.length (C 2)) (.slice (A 3) u.before.length (C 3)) (.slice (A 4) u.reqs.length (C 4)) (.slice (A 5) u.wants.length (C 5)) (.slice (A 6) u.partof.length (C 6)) (.int .i64 u.retry)
                  obtain ⟨hs8, hbut⟩ := hs8
                  generalize ((((((((W1.setCell ⟨w.heap.size + 1, 0, none⟩ (.string (bs u.name))).setCell ⟨w.heap.size + 1, 1, none⟩ (.slice (A 1) u.files.length (C 1))).setCell ⟨w.heap.size + 1, 2, none⟩ (.slice (A 2) u.after.length (C 2))).setCell ⟨w.heap.size + 1, 3, none⟩ (.slice (A 3) u.before.length (C 3))).setCell ⟨w.heap.size + 1, 4, none⟩ (.slice (A 4) u.reqs.length (C 4))).setCell ⟨w.heap.size + 1, 5, none⟩ (.slice (A 5) u.wants.length (C 5))).setCell ⟨w.heap.size + 1, 6, none⟩ (.slice (A 6) u.partof.length (C 6))).setCell ⟨w.heap.size + 1, 7, none⟩ (.int .i64 u.retry)) = wf at hs8 hbut ⊢
                  have z0 := blk_cell hs8 0 _ rfl
                  have z1 := blk_cell hs8 1 _ rfl
                  have z2 := blk_cell hs8 2 _ rfl
                  have z3 := blk_cell hs8 3 _ rfl
                  have z4 := blk_cell hs8 4 _ rfl
                  have z5 := blk_cell hs8 5 _ rfl
                  have z6 := blk_cell hs8 6 _ rfl
                  have z7 := blk_cell hs8 7 _ rfl
                  refine bodyPost_ret (v := .tuple #[.agg #[.string (bs u.name), .slice (A 1) u.files.length (C 1), .slice (A 2) u.after.length (C 2), .slice (A 3) u.before.length (C 3), .slice (A 4) u.reqs.length (C 4), .slice (A 5) u.wants.length (C 5), .slice (A 6) u.partof.length (C 6), .int .i64 u.retry], .int .i64 9]) (by simp [results, Tryd.results68, go_sem, z0, z1, z2, z3, z4, z5, z6, z7]) rfl ?_
                  rw [HR.out, HL2.out]
                  exact ⟨A, C, rfl, fun f a b => (HUR.out f a b).ext (hbut.ext (HXW1.out) (by omega)), fun _ _ _ h => Or.inl h, hbut.ext (HXW1.out) (by omega)⟩
                · rw [decide_eq_false hm] at hhas
                  have HHAS := Lib.hid hhas; clear hhas
                  by_cases h88 : u.reqs.length = 8
                  · have HL2 : Hid (lineU u wd rs = (u, 22)) := Lib.hid (by rw [HL.out]; exact (if_neg hm).trans (if_pos h88)); clear hm
                    have h88b : ((u.reqs.length : Int) == 8) = true := by simp; omega
                    have H88 := Lib.hid h88; clear h88
                    go_upto_region 41 with (first | (go_at_call 20; refine (HNM.out _).mono ?_; rintro e w2 ⟨rfl, rfl⟩) | (go_at_call 85; refine HHAS.out.mono ?_; rintro e w3 ⟨rfl, rfl⟩))
                    have c0 := blk_cell hb0w 0 _ rfl
                    have c1 := blk_cell hb0w 1 _ rfl
                    have c2 := blk_cell hb0w 2 _ rfl
                    have c3 := blk_cell hb0w 3 _ rfl
                    have c4 := blk_cell hb0w 4 _ rfl
                    have c5 := blk_cell hb0w 5 _ rfl
                    have c6 := blk_cell hb0w 6 _ rfl
                    have c7 := blk_cell hb0w 7 _ rfl
                    have y0 := blk_cell hb1w 0 _ rfl
                    have f0 := blk_free hb1w 0
                    have y1 := blk_cell hb1w 1 _ rfl
                    have f1 := blk_free hb1w 1
                    have y2 := blk_cell hb1w 2 _ rfl
                    have f2 := blk_free hb1w 2
                    have y3 := blk_cell hb1w 3 _ rfl
                    have f3 := blk_free hb1w 3
                    have y4 := blk_cell hb1w 4 _ rfl
                    have f4 := blk_free hb1w 4
                    have y5 := blk_cell hb1w 5 _ rfl
                    have f5 := blk_free hb1w 5
                    have y6 := blk_cell hb1w 6 _ rfl
                    have f6 := blk_free hb1w 6
                    have y7 := blk_cell hb1w 7 _ rfl
                    have f7 := blk_free hb1w 7
                    have Hb1 := Lib.hid hb1w; clear hb1w
                    have Hb0 := Lib.hid hb0w; clear hb0w
                    go_wp2_with fail
                    have hs8 := set8 Hb1.out (.string (bs u.name)) (.slice (A 1) u.files.length (C 1)) (.slice (A 2) u.after.length (C 2)) (.slice (A 3) u.before.length (C 3)) (.slice (A 4) u.reqs.length (C 4)) (.slice (A 5) u.wants.length (C 5)) (.slice (A 6) u.partof.length (C 6)) (.int .i64 u.retry)
                    obtain ⟨hs8, hbut⟩ := hs8
                    generalize ((((((((W1.setCell ⟨w.heap.size + 1, 0, none⟩ (.string (bs u.name))).setCell ⟨w.heap.size + 1, 1, none⟩ (.slice (A 1) u.files.length (C 1))).setCell ⟨w.heap.size + 1, 2, none⟩ (.slice (A 2) u.after.length (C 2))).setCell ⟨w.heap.size + 1, 3, none⟩ (.slice (A 3) u.before.length (C 3))).setCell ⟨w.heap.size + 1, 4, none⟩ (.slice (A 4) u.reqs.length (C 4))).setCell ⟨w.heap.size + 1, 5, none⟩ (.slice (A 5) u.wants.length (C 5))).setCell ⟨w.heap.size + 1, 6, none⟩ (.slice (A 6) u.partof.length (C 6))).setCell ⟨w.heap.size + 1, 7, none⟩ (.int .i64 u.retry)) = wf at hs8 hbut ⊢
                    have z0 := blk_cell hs8 0 _ rfl
                    have z1 := blk_cell hs8 1 _ rfl
                    have z2 := blk_cell hs8 2 _ rfl
                    have z3 := blk_cell hs8 3 _ rfl
                    have z4 := blk_cell hs8 4 _ rfl
                    have z5 := blk_cell hs8 5 _ rfl
                    have z6 := blk_cell hs8 6 _ rfl
                    have z7 := blk_cell hs8 7 _ rfl
                    refine bodyPost_ret (v := .tuple #[.agg #[.string (bs u.name), .slice (A 1) u.files.length (C 1), .slice (A 2) u.after.length (C 2), .slice (A 3) u.before.length (C 3), .slice (A 4) u.reqs.length (C 4), .slice (A 5) u.wants.length (C 5), .slice (A 6) u.partof.length (C 6), .int .i64 u.retry], .int .i64 22]) (by simp [results, Tryd.results68, go_sem, z0, z1, z2, z3, z4, z5, z6, z7]) rfl ?_
                    rw [HR.out, HL2.out]
                    exact ⟨A, C, rfl, fun f a b => (HUR.out f a b).ext (hbut.ext (HXW1.out) (by omega)), fun _ _ _ h => Or.inl h, hbut.ext (HXW1.out) (by omega)⟩
                  · have HL2 : Hid (lineU u wd rs = (u.put 4 (u.reqs ++ [rs]), 0)) := Lib.hid (by rw [HL.out]; exact (if_neg hm).trans (if_neg h88)); clear hm
                    have h88b : ((u.reqs.length : Int) == 8) = false := by simp; omega
                    have H88 := Lib.hid h88; clear h88
                    have HFS : Hid (Strs W1 (A 4) u.reqs) := Lib.hid ((HUR.out 4 (by omega) (by omega)).ext (HXW1.out))
                    have H0 := Lib.hid hb0w; clear hb0w
                    have H1B := Lib.hid hb1w; clear hb1w
                    go_upto_region 43 with (first | (go_at_call 20; refine (HNM.out _).mono ?_; rintro e w2 ⟨rfl, rfl⟩) | (go_at_call 85; refine HHAS.out.mono ?_; rintro e w3 ⟨rfl, rfl⟩) | (at_builtin; refine append_row rfl (.tmp 127) (.tmp 131) 23 9 (.string ⟨#[]⟩) 16 rfl Tryd.underlying23 info_string rfl W1.heap.size (some ⟨W1.heap.size, 0, none⟩) 0 0 [] (by rfl) (ownsRow_empty W1 _) (A 4) u.reqs.length (C 4) (textV u.reqs) (by rfl) (textV_len _) (Strs.row (HFS.out.ext (Ext.alloc _ _))) (textV_one _) (by omega) (by decide) (by simp) u.reqs.length (Nat.zero_add _) ?_; intro ad cap3 w3 hown3 hk3 hb3; have hx3 : Hid (Ext W1 w3) := Lib.hid (Below.trans (Ext.alloc W1 _) hb3); have hz3 := hx3.out.size; clear hk3 hb3; have hown3 := Lib.hid hown3) | (at_builtin; refine append_text rfl (.tmp 132) (.tmp 134) rfl W1.heap.size ad cap3 u.reqs rs (by rfl) hown3.out (by rfl) (by omega) hz3 ?_; intro g cap4 w4 hown4 hb4; have hx4 : Hid (Ext W1 w4) := Lib.hid (Below.trans hx3.out hb4); have hz4 := hx4.out.size; have g0 := hx4.out.heap H0.out; have m0 := blk_cell g0 4 _ rfl; have m1 := blk_free g0 4; have hown4 := Lib.hid hown4; have hb4 := Lib.hid hb4; have g0 := Lib.hid g0))
                    have g0x := g0.out
                    have g1x := hx4.out.heap H1B.out
                    have hb0s : (w4.setCell ⟨w.heap.size, 4, none⟩ (.slice (some ⟨g, 0, none⟩) (u.reqs.length + 1) cap4)).heap[w.heap.size]? = some (.cells #[.string (bs u.name), .slice (A 1) u.files.length (C 1), .slice (A 2) u.after.length (C 2), .slice (A 3) u.before.length (C 3), .slice (some ⟨g, 0, none⟩) (u.reqs.length + 1) cap4, .slice (A 5) u.wants.length (C 5), .slice (A 6) u.partof.length (C 6), .int .i64 u.retry] 61 (0, 0)) := setCell_row (i := 4) g0x _
                    have hbt : But w.heap.size w4 (w4.setCell ⟨w.heap.size, 4, none⟩ (.slice (some ⟨g, 0, none⟩) (u.reqs.length + 1) cap4)) := (But.refl w.heap.size w4).setCell 4 (.slice (some ⟨g, 0, none⟩) (u.reqs.length + 1) cap4)
                    have hb1s : (w4.setCell ⟨w.heap.size, 4, none⟩ (.slice (some ⟨g, 0, none⟩) (u.reqs.length + 1) cap4)).heap[w.heap.size + 1]? = some (.cells #[.string ⟨#[]⟩, .slice none 0 0, .slice none 0 0, .slice none 0 0, .slice none 0 0, .slice none 0 0, .slice none 0 0, .int .i64 0] 61 (0, 0)) := (hbt.block (w.heap.size + 1) (by omega) (by omega)).trans g1x
                    have hxs2 : Ext w (w4.setCell ⟨w.heap.size, 4, none⟩ (.slice (some ⟨g, 0, none⟩) (u.reqs.length + 1) cap4)) := But.ext ((HXW1.out).trans hx4.out) hbt (Nat.le_refl _)
                    have hsz2 : w.heap.size + 1 < (w4.setCell ⟨w.heap.size, 4, none⟩ (.slice (some ⟨g, 0, none⟩) (u.reqs.length + 1) cap4)).heap.size := by have := hbt.size; omega
                    generalize w4.setCell ⟨w.heap.size, 4, none⟩ (.slice (some ⟨g, 0, none⟩) (u.reqs.length + 1) cap4) = W2 at hb0s hb1s hxs2 hbt hsz2 ⊢
                    have HX2 := Lib.hid hxs2; clear hxs2
                    have HBT := Lib.hid hbt; clear hbt
                    have hst := fun (X : World) (q : But (w.heap.size + 1) W2 X) => OwnS.two hown4.out ⟨by omega, by omega⟩ HBT.out q
                    have HST := Lib.hid hst; clear hst m0 m1 g0x g1x
                    have hgge := Lib.hid hown4.out.ge
                    have c0 := blk_cell hb0s 0 _ rfl
                    have c1 := blk_cell hb0s 1 _ rfl
                    have c2 := blk_cell hb0s 2 _ rfl
                    have c3 := blk_cell hb0s 3 _ rfl
                    have c4 := blk_cell hb0s 4 _ rfl
                    have c5 := blk_cell hb0s 5 _ rfl
                    have c6 := blk_cell hb0s 6 _ rfl
                    have c7 := blk_cell hb0s 7 _ rfl
                    have y0 := blk_cell hb1s 0 _ rfl
                    have f0 := blk_free hb1s 0
                    have y1 := blk_cell hb1s 1 _ rfl
                    have f1 := blk_free hb1s 1
                    have y2 := blk_cell hb1s 2 _ rfl
                    have f2 := blk_free hb1s 2
                    have y3 := blk_cell hb1s 3 _ rfl
                    have f3 := blk_free hb1s 3
                    have y4 := blk_cell hb1s 4 _ rfl
                    have f4 := blk_free hb1s 4
                    have y5 := blk_cell hb1s 5 _ rfl
                    have f5 := blk_free hb1s 5
                    have y6 := blk_cell hb1s 6 _ rfl
                    have f6 := blk_free hb1s 6
                    have y7 := blk_cell hb1s 7 _ rfl
                    have f7 := blk_free hb1s 7
                    have Hb1 := Lib.hid hb1s; clear hb1s
                    have Hb0 := Lib.hid hb0s; clear hb0s
                    go_wp2_with fail
                    have hs8 := set8 Hb1.out (.string (bs u.name)) (.slice (A 1) u.files.length (C 1)) (.slice (A 2) u.after.length (C 2)) (.slice (A 3) u.before.length (C 3)) (.slice (some ⟨g, 0, none⟩) (u.reqs.length + 1) cap4) (.slice (A 5) u.wants.length (C 5)) (.slice (A 6) u.partof.length (C 6)) (.int .i64 u.retry)
                    obtain ⟨hs8, hbut⟩ := hs8
                    generalize ((((((((W2.setCell ⟨w.heap.size + 1, 0, none⟩ (.string (bs u.name))).setCell ⟨w.heap.size + 1, 1, none⟩ (.slice (A 1) u.files.length (C 1))).setCell ⟨w.heap.size + 1, 2, none⟩ (.slice (A 2) u.after.length (C 2))).setCell ⟨w.heap.size + 1, 3, none⟩ (.slice (A 3) u.before.length (C 3))).setCell ⟨w.heap.size + 1, 4, none⟩ (.slice (some ⟨g, 0, none⟩) (u.reqs.length + 1) cap4)).setCell ⟨w.heap.size + 1, 5, none⟩ (.slice (A 5) u.wants.length (C 5))).setCell ⟨w.heap.size + 1, 6, none⟩ (.slice (A 6) u.partof.length (C 6))).setCell ⟨w.heap.size + 1, 7, none⟩ (.int .i64 u.retry)) = wf at hs8 hbut ⊢
                    have z0 := blk_cell hs8 0 _ rfl
                    have z1 := blk_cell hs8 1 _ rfl
                    have z2 := blk_cell hs8 2 _ rfl
                    have z3 := blk_cell hs8 3 _ rfl
                    have z4 := blk_cell hs8 4 _ rfl
                    have z5 := blk_cell hs8 5 _ rfl
                    have z6 := blk_cell hs8 6 _ rfl
                    have z7 := blk_cell hs8 7 _ rfl
                    refine bodyPost_ret (v := .tuple #[.agg #[.string (bs u.name), .slice (A 1) u.files.length (C 1), .slice (A 2) u.after.length (C 2), .slice (A 3) u.before.length (C 3), .slice (some ⟨g, 0, none⟩) (u.reqs.length + 1) cap4, .slice (A 5) u.wants.length (C 5), .slice (A 6) u.partof.length (C 6), .int .i64 u.retry], .int .i64 0]) (by simp [results, Tryd.results68, go_sem, z0, z1, z2, z3, z4, z5, z6, z7]) rfl ?_
                    rw [HR.out, HL2.out]
                    exact ⟨(fun j => if j = 4 then some ⟨g, 0, none⟩ else A j), (fun j => if j = 4 then cap4 else C j), (by simp [unitV, UnitD.put]), unitR_put 4 (by omega) (by omega) HUR.out (hbut.ext (HX2.out) (by omega)) (HST.out _ hbut), at_put 4 (Nat.le_trans HXW1.out.size (hgge.out)), hbut.ext (HX2.out) (by omega)⟩
              · rw [hwi, h26] at hwd
                rw [h26] at hl
                have hwd : Calls Tryd.prog 86 #[.string (bs wd)] W fun e w' => e = .returned (.int .i64 3) ∧ Ext W w' := hwd
                have HWD := Lib.hid hwd; clear hwd hwi h26
                have HL : Hid (lineU u wd rs = addU u 5 rs) := Lib.hid hl; clear hl
                go_upto_region 34 with (go_at_call 86; refine HWD.out.mono ?_; rintro e W1 ⟨rfl, hxw⟩)
                have hb0w := hxw.heap hb0
                have hb1w := hxw.heap hb1
                have HXW1 := Lib.hid (HXW.out.trans hxw)
                clear hb0 hb1 hxw
                have hzw1 : w.heap.size + 1 < W1.heap.size := (Array.getElem?_eq_some_iff.1 hb1w).1
                have d5 : W1.cell? ⟨w.heap.size, 5, none⟩ = some (.slice (A 5) u.wants.length (C 5)) := blk_cell hb0w 5 _ rfl
                have hzw0 : w.heap.size < W1.heap.size := by omega
                have hhas := has_ref13 (A 5) u.wants (C 5) rs W1 ((HUR.out 5 (by omega) (by omega)).ext (HXW1.out)) (by have := H8.out 5 (by omega) (by omega); have hrl : (u.row 5).length = u.wants.length := rfl; omega)
                have hl8 : u.wants.length ≤ 8 := H8.out 5 (by omega) (by omega)
                by_cases hm : rs ∈ u.wants
                · rw [decide_eq_true hm] at hhas
                  have HHAS := Lib.hid hhas; clear hhas
                  have HL2 : Hid (lineU u wd rs = (u, 9)) := Lib.hid (by rw [HL.out]; exact if_pos hm); clear hm
                  go_upto_region 39 with (first | (go_at_call 20; refine (HNM.out _).mono ?_; rintro e w2 ⟨rfl, rfl⟩) | (go_at_call 85; refine HHAS.out.mono ?_; rintro e w3 ⟨rfl, rfl⟩))
                  have c0 := blk_cell hb0w 0 _ rfl
                  have c1 := blk_cell hb0w 1 _ rfl
                  have c2 := blk_cell hb0w 2 _ rfl
                  have c3 := blk_cell hb0w 3 _ rfl
                  have c4 := blk_cell hb0w 4 _ rfl
                  have c5 := blk_cell hb0w 5 _ rfl
                  have c6 := blk_cell hb0w 6 _ rfl
                  have c7 := blk_cell hb0w 7 _ rfl
                  have y0 := blk_cell hb1w 0 _ rfl
                  have f0 := blk_free hb1w 0
                  have y1 := blk_cell hb1w 1 _ rfl
                  have f1 := blk_free hb1w 1
                  have y2 := blk_cell hb1w 2 _ rfl
                  have f2 := blk_free hb1w 2
                  have y3 := blk_cell hb1w 3 _ rfl
                  have f3 := blk_free hb1w 3
                  have y4 := blk_cell hb1w 4 _ rfl
                  have f4 := blk_free hb1w 4
                  have y5 := blk_cell hb1w 5 _ rfl
                  have f5 := blk_free hb1w 5
                  have y6 := blk_cell hb1w 6 _ rfl
                  have f6 := blk_free hb1w 6
                  have y7 := blk_cell hb1w 7 _ rfl
                  have f7 := blk_free hb1w 7
                  have Hb1 := Lib.hid hb1w; clear hb1w
                  have Hb0 := Lib.hid hb0w; clear hb0w
                  go_wp2_with fail
                  have hs8 := set8 Hb1.out (.string (bs u.name)) (.slice (A 1) u.files.length (C 1)) (.slice (A 2) u.after.length (C 2)) (.slice (A 3) u.before.length (C 3)) (.slice (A 4) u.reqs.length (C 4)) (.slice (A 5) u.wants.length (C 5)) (.slice (A 6) u.partof.length (C 6)) (.int .i64 u.retry)
                  obtain ⟨hs8, hbut⟩ := hs8
                  generalize ((((((((W1.setCell ⟨w.heap.size + 1, 0, none⟩ (.string (bs u.name))).setCell ⟨w.heap.size + 1, 1, none⟩ (.slice (A 1) u.files.length (C 1))).setCell ⟨w.heap.size + 1, 2, none⟩ (.slice (A 2) u.after.length (C 2))).setCell ⟨w.heap.size + 1, 3, none⟩ (.slice (A 3) u.before.length (C 3))).setCell ⟨w.heap.size + 1, 4, none⟩ (.slice (A 4) u.reqs.length (C 4))).setCell ⟨w.heap.size + 1, 5, none⟩ (.slice (A 5) u.wants.length (C 5))).setCell ⟨w.heap.size + 1, 6, none⟩ (.slice (A 6) u.partof.length (C 6))).setCell ⟨w.heap.size + 1, 7, none⟩ (.int .i64 u.retry)) = wf at hs8 hbut ⊢
                  have z0 := blk_cell hs8 0 _ rfl
                  have z1 := blk_cell hs8 1 _ rfl
                  have z2 := blk_cell hs8 2 _ rfl
                  have z3 := blk_cell hs8 3 _ rfl
                  have z4 := blk_cell hs8 4 _ rfl
                  have z5 := blk_cell hs8 5 _ rfl
                  have z6 := blk_cell hs8 6 _ rfl
                  have z7 := blk_cell hs8 7 _ rfl
                  refine bodyPost_ret (v := .tuple #[.agg #[.string (bs u.name), .slice (A 1) u.files.length (C 1), .slice (A 2) u.after.length (C 2), .slice (A 3) u.before.length (C 3), .slice (A 4) u.reqs.length (C 4), .slice (A 5) u.wants.length (C 5), .slice (A 6) u.partof.length (C 6), .int .i64 u.retry], .int .i64 9]) (by simp [results, Tryd.results68, go_sem, z0, z1, z2, z3, z4, z5, z6, z7]) rfl ?_
                  rw [HR.out, HL2.out]
                  exact ⟨A, C, rfl, fun f a b => (HUR.out f a b).ext (hbut.ext (HXW1.out) (by omega)), fun _ _ _ h => Or.inl h, hbut.ext (HXW1.out) (by omega)⟩
                · rw [decide_eq_false hm] at hhas
                  have HHAS := Lib.hid hhas; clear hhas
                  by_cases h88 : u.wants.length = 8
                  · have HL2 : Hid (lineU u wd rs = (u, 22)) := Lib.hid (by rw [HL.out]; exact (if_neg hm).trans (if_pos h88)); clear hm
                    have h88b : ((u.wants.length : Int) == 8) = true := by simp; omega
                    have H88 := Lib.hid h88; clear h88
                    go_upto_region 41 with (first | (go_at_call 20; refine (HNM.out _).mono ?_; rintro e w2 ⟨rfl, rfl⟩) | (go_at_call 85; refine HHAS.out.mono ?_; rintro e w3 ⟨rfl, rfl⟩))
                    have c0 := blk_cell hb0w 0 _ rfl
                    have c1 := blk_cell hb0w 1 _ rfl
                    have c2 := blk_cell hb0w 2 _ rfl
                    have c3 := blk_cell hb0w 3 _ rfl
                    have c4 := blk_cell hb0w 4 _ rfl
                    have c5 := blk_cell hb0w 5 _ rfl
                    have c6 := blk_cell hb0w 6 _ rfl
                    have c7 := blk_cell hb0w 7 _ rfl
                    have y0 := blk_cell hb1w 0 _ rfl
                    have f0 := blk_free hb1w 0
                    have y1 := blk_cell hb1w 1 _ rfl
                    have f1 := blk_free hb1w 1
                    have y2 := blk_cell hb1w 2 _ rfl
                    have f2 := blk_free hb1w 2
                    have y3 := blk_cell hb1w 3 _ rfl
                    have f3 := blk_free hb1w 3
                    have y4 := blk_cell hb1w 4 _ rfl
                    have f4 := blk_free hb1w 4
                    have y5 := blk_cell hb1w 5 _ rfl
                    have f5 := blk_free hb1w 5
                    have y6 := blk_cell hb1w 6 _ rfl
                    have f6 := blk_free hb1w 6
                    have y7 := blk_cell hb1w 7 _ rfl
                    have f7 := blk_free hb1w 7
                    have Hb1 := Lib.hid hb1w; clear hb1w
                    have Hb0 := Lib.hid hb0w; clear hb0w
                    go_wp2_with fail
                    have hs8 := set8 Hb1.out (.string (bs u.name)) (.slice (A 1) u.files.length (C 1)) (.slice (A 2) u.after.length (C 2)) (.slice (A 3) u.before.length (C 3)) (.slice (A 4) u.reqs.length (C 4)) (.slice (A 5) u.wants.length (C 5)) (.slice (A 6) u.partof.length (C 6)) (.int .i64 u.retry)
                    obtain ⟨hs8, hbut⟩ := hs8
                    generalize ((((((((W1.setCell ⟨w.heap.size + 1, 0, none⟩ (.string (bs u.name))).setCell ⟨w.heap.size + 1, 1, none⟩ (.slice (A 1) u.files.length (C 1))).setCell ⟨w.heap.size + 1, 2, none⟩ (.slice (A 2) u.after.length (C 2))).setCell ⟨w.heap.size + 1, 3, none⟩ (.slice (A 3) u.before.length (C 3))).setCell ⟨w.heap.size + 1, 4, none⟩ (.slice (A 4) u.reqs.length (C 4))).setCell ⟨w.heap.size + 1, 5, none⟩ (.slice (A 5) u.wants.length (C 5))).setCell ⟨w.heap.size + 1, 6, none⟩ (.slice (A 6) u.partof.length (C 6))).setCell ⟨w.heap.size + 1, 7, none⟩ (.int .i64 u.retry)) = wf at hs8 hbut ⊢
                    have z0 := blk_cell hs8 0 _ rfl
                    have z1 := blk_cell hs8 1 _ rfl
                    have z2 := blk_cell hs8 2 _ rfl
                    have z3 := blk_cell hs8 3 _ rfl
                    have z4 := blk_cell hs8 4 _ rfl
                    have z5 := blk_cell hs8 5 _ rfl
                    have z6 := blk_cell hs8 6 _ rfl
                    have z7 := blk_cell hs8 7 _ rfl
                    refine bodyPost_ret (v := .tuple #[.agg #[.string (bs u.name), .slice (A 1) u.files.length (C 1), .slice (A 2) u.after.length (C 2), .slice (A 3) u.before.length (C 3), .slice (A 4) u.reqs.length (C 4), .slice (A 5) u.wants.length (C 5), .slice (A 6) u.partof.length (C 6), .int .i64 u.retry], .int .i64 22]) (by simp [results, Tryd.results68, go_sem, z0, z1, z2, z3, z4, z5, z6, z7]) rfl ?_
                    rw [HR.out, HL2.out]
                    exact ⟨A, C, rfl, fun f a b => (HUR.out f a b).ext (hbut.ext (HXW1.out) (by omega)), fun _ _ _ h => Or.inl h, hbut.ext (HXW1.out) (by omega)⟩
                  · have HL2 : Hid (lineU u wd rs = (u.put 5 (u.wants ++ [rs]), 0)) := Lib.hid (by rw [HL.out]; exact (if_neg hm).trans (if_neg h88)); clear hm
                    have h88b : ((u.wants.length : Int) == 8) = false := by simp; omega
                    have H88 := Lib.hid h88; clear h88
                    have HFS : Hid (Strs W1 (A 5) u.wants) := Lib.hid ((HUR.out 5 (by omega) (by omega)).ext (HXW1.out))
                    have H0 := Lib.hid hb0w; clear hb0w
                    have H1B := Lib.hid hb1w; clear hb1w
                    go_upto_region 43 with (first | (go_at_call 20; refine (HNM.out _).mono ?_; rintro e w2 ⟨rfl, rfl⟩) | (go_at_call 85; refine HHAS.out.mono ?_; rintro e w3 ⟨rfl, rfl⟩) | (at_builtin; refine append_row rfl (.tmp 127) (.tmp 131) 23 9 (.string ⟨#[]⟩) 16 rfl Tryd.underlying23 info_string rfl W1.heap.size (some ⟨W1.heap.size, 0, none⟩) 0 0 [] (by rfl) (ownsRow_empty W1 _) (A 5) u.wants.length (C 5) (textV u.wants) (by rfl) (textV_len _) (Strs.row (HFS.out.ext (Ext.alloc _ _))) (textV_one _) (by omega) (by decide) (by simp) u.wants.length (Nat.zero_add _) ?_; intro ad cap3 w3 hown3 hk3 hb3; have hx3 : Hid (Ext W1 w3) := Lib.hid (Below.trans (Ext.alloc W1 _) hb3); have hz3 := hx3.out.size; clear hk3 hb3; have hown3 := Lib.hid hown3) | (at_builtin; refine append_text rfl (.tmp 132) (.tmp 134) rfl W1.heap.size ad cap3 u.wants rs (by rfl) hown3.out (by rfl) (by omega) hz3 ?_; intro g cap4 w4 hown4 hb4; have hx4 : Hid (Ext W1 w4) := Lib.hid (Below.trans hx3.out hb4); have hz4 := hx4.out.size; have g0 := hx4.out.heap H0.out; have m0 := blk_cell g0 5 _ rfl; have m1 := blk_free g0 5; have hown4 := Lib.hid hown4; have hb4 := Lib.hid hb4; have g0 := Lib.hid g0))
                    have g0x := g0.out
                    have g1x := hx4.out.heap H1B.out
                    have hb0s : (w4.setCell ⟨w.heap.size, 5, none⟩ (.slice (some ⟨g, 0, none⟩) (u.wants.length + 1) cap4)).heap[w.heap.size]? = some (.cells #[.string (bs u.name), .slice (A 1) u.files.length (C 1), .slice (A 2) u.after.length (C 2), .slice (A 3) u.before.length (C 3), .slice (A 4) u.reqs.length (C 4), .slice (some ⟨g, 0, none⟩) (u.wants.length + 1) cap4, .slice (A 6) u.partof.length (C 6), .int .i64 u.retry] 61 (0, 0)) := setCell_row (i := 5) g0x _
                    have hbt : But w.heap.size w4 (w4.setCell ⟨w.heap.size, 5, none⟩ (.slice (some ⟨g, 0, none⟩) (u.wants.length + 1) cap4)) := (But.refl w.heap.size w4).setCell 5 (.slice (some ⟨g, 0, none⟩) (u.wants.length + 1) cap4)
                    have hb1s : (w4.setCell ⟨w.heap.size, 5, none⟩ (.slice (some ⟨g, 0, none⟩) (u.wants.length + 1) cap4)).heap[w.heap.size + 1]? = some (.cells #[.string ⟨#[]⟩, .slice none 0 0, .slice none 0 0, .slice none 0 0, .slice none 0 0, .slice none 0 0, .slice none 0 0, .int .i64 0] 61 (0, 0)) := (hbt.block (w.heap.size + 1) (by omega) (by omega)).trans g1x
                    have hxs2 : Ext w (w4.setCell ⟨w.heap.size, 5, none⟩ (.slice (some ⟨g, 0, none⟩) (u.wants.length + 1) cap4)) := But.ext ((HXW1.out).trans hx4.out) hbt (Nat.le_refl _)
                    have hsz2 : w.heap.size + 1 < (w4.setCell ⟨w.heap.size, 5, none⟩ (.slice (some ⟨g, 0, none⟩) (u.wants.length + 1) cap4)).heap.size := by have := hbt.size; omega
                    generalize w4.setCell ⟨w.heap.size, 5, none⟩ (.slice (some ⟨g, 0, none⟩) (u.wants.length + 1) cap4) = W2 at hb0s hb1s hxs2 hbt hsz2 ⊢
                    have HX2 := Lib.hid hxs2; clear hxs2
                    have HBT := Lib.hid hbt; clear hbt
                    have hst := fun (X : World) (q : But (w.heap.size + 1) W2 X) => OwnS.two hown4.out ⟨by omega, by omega⟩ HBT.out q
                    have HST := Lib.hid hst; clear hst m0 m1 g0x g1x
                    have hgge := Lib.hid hown4.out.ge
                    have c0 := blk_cell hb0s 0 _ rfl
                    have c1 := blk_cell hb0s 1 _ rfl
                    have c2 := blk_cell hb0s 2 _ rfl
                    have c3 := blk_cell hb0s 3 _ rfl
                    have c4 := blk_cell hb0s 4 _ rfl
                    have c5 := blk_cell hb0s 5 _ rfl
                    have c6 := blk_cell hb0s 6 _ rfl
                    have c7 := blk_cell hb0s 7 _ rfl
                    have y0 := blk_cell hb1s 0 _ rfl
                    have f0 := blk_free hb1s 0
                    have y1 := blk_cell hb1s 1 _ rfl
                    have f1 := blk_free hb1s 1
                    have y2 := blk_cell hb1s 2 _ rfl
                    have f2 := blk_free hb1s 2
                    have y3 := blk_cell hb1s 3 _ rfl
                    have f3 := blk_free hb1s 3
                    have y4 := blk_cell hb1s 4 _ rfl
                    have f4 := blk_free hb1s 4
                    have y5 := blk_cell hb1s 5 _ rfl
                    have f5 := blk_free hb1s 5
                    have y6 := blk_cell hb1s 6 _ rfl
                    have f6 := blk_free hb1s 6
                    have y7 := blk_cell hb1s 7 _ rfl
                    have f7 := blk_free hb1s 7
                    have Hb1 := Lib.hid hb1s; clear hb1s
                    have Hb0 := Lib.hid hb0s; clear hb0s
                    go_wp2_with fail
                    have hs8 := set8 Hb1.out (.string (bs u.name)) (.slice (A 1) u.files.length (C 1)) (.slice (A 2) u.after.length (C 2)) (.slice (A 3) u.before.length (C 3)) (.slice (A 4) u.reqs.length (C 4)) (.slice (some ⟨g, 0, none⟩) (u.wants.length + 1) cap4) (.slice (A 6) u.partof.length (C 6)) (.int .i64 u.retry)
                    obtain ⟨hs8, hbut⟩ := hs8
                    generalize ((((((((W2.setCell ⟨w.heap.size + 1, 0, none⟩ (.string (bs u.name))).setCell ⟨w.heap.size + 1, 1, none⟩ (.slice (A 1) u.files.length (C 1))).setCell ⟨w.heap.size + 1, 2, none⟩ (.slice (A 2) u.after.length (C 2))).setCell ⟨w.heap.size + 1, 3, none⟩ (.slice (A 3) u.before.length (C 3))).setCell ⟨w.heap.size + 1, 4, none⟩ (.slice (A 4) u.reqs.length (C 4))).setCell ⟨w.heap.size + 1, 5, none⟩ (.slice (some ⟨g, 0, none⟩) (u.wants.length + 1) cap4)).setCell ⟨w.heap.size + 1, 6, none⟩ (.slice (A 6) u.partof.length (C 6))).setCell ⟨w.heap.size + 1, 7, none⟩ (.int .i64 u.retry)) = wf at hs8 hbut ⊢
                    have z0 := blk_cell hs8 0 _ rfl
                    have z1 := blk_cell hs8 1 _ rfl
                    have z2 := blk_cell hs8 2 _ rfl
                    have z3 := blk_cell hs8 3 _ rfl
                    have z4 := blk_cell hs8 4 _ rfl
                    have z5 := blk_cell hs8 5 _ rfl
                    have z6 := blk_cell hs8 6 _ rfl
                    have z7 := blk_cell hs8 7 _ rfl
                    refine bodyPost_ret (v := .tuple #[.agg #[.string (bs u.name), .slice (A 1) u.files.length (C 1), .slice (A 2) u.after.length (C 2), .slice (A 3) u.before.length (C 3), .slice (A 4) u.reqs.length (C 4), .slice (some ⟨g, 0, none⟩) (u.wants.length + 1) cap4, .slice (A 6) u.partof.length (C 6), .int .i64 u.retry], .int .i64 0]) (by simp [results, Tryd.results68, go_sem, z0, z1, z2, z3, z4, z5, z6, z7]) rfl ?_
                    rw [HR.out, HL2.out]
                    exact ⟨(fun j => if j = 5 then some ⟨g, 0, none⟩ else A j), (fun j => if j = 5 then cap4 else C j), (by simp [unitV, UnitD.put]), unitR_put 5 (by omega) (by omega) HUR.out (hbut.ext (HX2.out) (by omega)) (HST.out _ hbut), at_put 5 (Nat.le_trans HXW1.out.size (hgge.out)), hbut.ext (HX2.out) (by omega)⟩
              · rw [hwi, h26] at hwd
                rw [h26] at hl
                have hwd : Calls Tryd.prog 86 #[.string (bs wd)] W fun e w' => e = .returned (.int .i64 4) ∧ Ext W w' := hwd
                have HWD := Lib.hid hwd; clear hwd hwi h26
                have HL : Hid (lineU u wd rs = addU u 6 rs) := Lib.hid hl; clear hl
                go_upto_region 34 with (go_at_call 86; refine HWD.out.mono ?_; rintro e W1 ⟨rfl, hxw⟩)
                have hb0w := hxw.heap hb0
                have hb1w := hxw.heap hb1
                have HXW1 := Lib.hid (HXW.out.trans hxw)
                clear hb0 hb1 hxw
                have hzw1 : w.heap.size + 1 < W1.heap.size := (Array.getElem?_eq_some_iff.1 hb1w).1
                have d6 : W1.cell? ⟨w.heap.size, 6, none⟩ = some (.slice (A 6) u.partof.length (C 6)) := blk_cell hb0w 6 _ rfl
                have hzw0 : w.heap.size < W1.heap.size := by omega
                have hhas := has_ref13 (A 6) u.partof (C 6) rs W1 ((HUR.out 6 (by omega) (by omega)).ext (HXW1.out)) (by have := H8.out 6 (by omega) (by omega); have hrl : (u.row 6).length = u.partof.length := rfl; omega)
                have hl8 : u.partof.length ≤ 8 := H8.out 6 (by omega) (by omega)
                by_cases hm : rs ∈ u.partof
                · rw [decide_eq_true hm] at hhas
                  have HHAS := Lib.hid hhas; clear hhas
                  have HL2 : Hid (lineU u wd rs = (u, 9)) := Lib.hid (by rw [HL.out]; exact if_pos hm); clear hm
                  go_upto_region 39 with (first | (go_at_call 20; refine (HNM.out _).mono ?_; rintro e w2 ⟨rfl, rfl⟩) | (go_at_call 85; refine HHAS.out.mono ?_; rintro e w3 ⟨rfl, rfl⟩))
                  have c0 := blk_cell hb0w 0 _ rfl
                  have c1 := blk_cell hb0w 1 _ rfl
                  have c2 := blk_cell hb0w 2 _ rfl
                  have c3 := blk_cell hb0w 3 _ rfl
                  have c4 := blk_cell hb0w 4 _ rfl
                  have c5 := blk_cell hb0w 5 _ rfl
                  have c6 := blk_cell hb0w 6 _ rfl
                  have c7 := blk_cell hb0w 7 _ rfl
                  have y0 := blk_cell hb1w 0 _ rfl
                  have f0 := blk_free hb1w 0
                  have y1 := blk_cell hb1w 1 _ rfl
                  have f1 := blk_free hb1w 1
                  have y2 := blk_cell hb1w 2 _ rfl
                  have f2 := blk_free hb1w 2
                  have y3 := blk_cell hb1w 3 _ rfl
                  have f3 := blk_free hb1w 3
                  have y4 := blk_cell hb1w 4 _ rfl
                  have f4 := blk_free hb1w 4
                  have y5 := blk_cell hb1w 5 _ rfl
                  have f5 := blk_free hb1w 5
                  have y6 := blk_cell hb1w 6 _ rfl
                  have f6 := blk_free hb1w 6
                  have y7 := blk_cell hb1w 7 _ rfl
                  have f7 := blk_free hb1w 7
                  have Hb1 := Lib.hid hb1w; clear hb1w
                  have Hb0 := Lib.hid hb0w; clear hb0w
                  go_wp2_with fail
                  have hs8 := set8 Hb1.out (.string (bs u.name)) (.slice (A 1) u.files.length (C 1)) (.slice (A 2) u.after.length (C 2)) (.slice (A 3) u.before.length (C 3)) (.slice (A 4) u.reqs.length (C 4)) (.slice (A 5) u.wants.length (C 5)) (.slice (A 6) u.partof.length (C 6)) (.int .i64 u.retry)
                  obtain ⟨hs8, hbut⟩ := hs8
                  generalize ((((((((W1.setCell ⟨w.heap.size + 1, 0, none⟩ (.string (bs u.name))).setCell ⟨w.heap.size + 1, 1, none⟩ (.slice (A 1) u.files.length (C 1))).setCell ⟨w.heap.size + 1, 2, none⟩ (.slice (A 2) u.after.length (C 2))).setCell ⟨w.heap.size + 1, 3, none⟩ (.slice (A 3) u.before.length (C 3))).setCell ⟨w.heap.size + 1, 4, none⟩ (.slice (A 4) u.reqs.length (C 4))).setCell ⟨w.heap.size + 1, 5, none⟩ (.slice (A 5) u.wants.length (C 5))).setCell ⟨w.heap.size + 1, 6, none⟩ (.slice (A 6) u.partof.length (C 6))).setCell ⟨w.heap.size + 1, 7, none⟩ (.int .i64 u.retry)) = wf at hs8 hbut ⊢
                  have z0 := blk_cell hs8 0 _ rfl
                  have z1 := blk_cell hs8 1 _ rfl
                  have z2 := blk_cell hs8 2 _ rfl
                  have z3 := blk_cell hs8 3 _ rfl
                  have z4 := blk_cell hs8 4 _ rfl
                  have z5 := blk_cell hs8 5 _ rfl
                  have z6 := blk_cell hs8 6 _ rfl
                  have z7 := blk_cell hs8 7 _ rfl
                  refine bodyPost_ret (v := .tuple #[.agg #[.string (bs u.name), .slice (A 1) u.files.length (C 1), .slice (A 2) u.after.length (C 2), .slice (A 3) u.before.length (C 3), .slice (A 4) u.reqs.length (C 4), .slice (A 5) u.wants.length (C 5), .slice (A 6) u.partof.length (C 6), .int .i64 u.retry], .int .i64 9]) (by simp [results, Tryd.results68, go_sem, z0, z1, z2, z3, z4, z5, z6, z7]) rfl ?_
                  rw [HR.out, HL2.out]
                  exact ⟨A, C, rfl, fun f a b => (HUR.out f a b).ext (hbut.ext (HXW1.out) (by omega)), fun _ _ _ h => Or.inl h, hbut.ext (HXW1.out) (by omega)⟩
                · rw [decide_eq_false hm] at hhas
                  have HHAS := Lib.hid hhas; clear hhas
                  by_cases h88 : u.partof.length = 8
                  · have HL2 : Hid (lineU u wd rs = (u, 22)) := Lib.hid (by rw [HL.out]; exact (if_neg hm).trans (if_pos h88)); clear hm
                    have h88b : ((u.partof.length : Int) == 8) = true := by simp; omega
                    have H88 := Lib.hid h88; clear h88
                    go_upto_region 41 with (first | (go_at_call 20; refine (HNM.out _).mono ?_; rintro e w2 ⟨rfl, rfl⟩) | (go_at_call 85; refine HHAS.out.mono ?_; rintro e w3 ⟨rfl, rfl⟩))
                    have c0 := blk_cell hb0w 0 _ rfl
                    have c1 := blk_cell hb0w 1 _ rfl
                    have c2 := blk_cell hb0w 2 _ rfl
                    have c3 := blk_cell hb0w 3 _ rfl
                    have c4 := blk_cell hb0w 4 _ rfl
                    have c5 := blk_cell hb0w 5 _ rfl
                    have c6 := blk_cell hb0w 6 _ rfl
                    have c7 := blk_cell hb0w 7 _ rfl
                    have y0 := blk_cell hb1w 0 _ rfl
                    have f0 := blk_free hb1w 0
                    have y1 := blk_cell hb1w 1 _ rfl
                    have f1 := blk_free hb1w 1
                    have y2 := blk_cell hb1w 2 _ rfl
                    have f2 := blk_free hb1w 2
                    have y3 := blk_cell hb1w 3 _ rfl
                    have f3 := blk_free hb1w 3
                    have y4 := blk_cell hb1w 4 _ rfl
                    have f4 := blk_free hb1w 4
                    have y5 := blk_cell hb1w 5 _ rfl
                    have f5 := blk_free hb1w 5
                    have y6 := blk_cell hb1w 6 _ rfl
                    have f6 := blk_free hb1w 6
                    have y7 := blk_cell hb1w 7 _ rfl
                    have f7 := blk_free hb1w 7
                    have Hb1 := Lib.hid hb1w; clear hb1w
                    have Hb0 := Lib.hid hb0w; clear hb0w
                    go_wp2_with fail
                    have hs8 := set8 Hb1.out (.string (bs u.name)) (.slice (A 1) u.files.length (C 1)) (.slice (A 2) u.after.length (C 2)) (.slice (A 3) u.before.length (C 3)) (.slice (A 4) u.reqs.length (C 4)) (.slice (A 5) u.wants.length (C 5)) (.slice (A 6) u.partof.length (C 6)) (.int .i64 u.retry)
                    obtain ⟨hs8, hbut⟩ := hs8
                    generalize ((((((((W1.setCell ⟨w.heap.size + 1, 0, none⟩ (.string (bs u.name))).setCell ⟨w.heap.size + 1, 1, none⟩ (.slice (A 1) u.files.length (C 1))).setCell ⟨w.heap.size + 1, 2, none⟩ (.slice (A 2) u.after.length (C 2))).setCell ⟨w.heap.size + 1, 3, none⟩ (.slice (A 3) u.before.length (C 3))).setCell ⟨w.heap.size + 1, 4, none⟩ (.slice (A 4) u.reqs.length (C 4))).setCell ⟨w.heap.size + 1, 5, none⟩ (.slice (A 5) u.wants.length (C 5))).setCell ⟨w.heap.size + 1, 6, none⟩ (.slice (A 6) u.partof.length (C 6))).setCell ⟨w.heap.size + 1, 7, none⟩ (.int .i64 u.retry)) = wf at hs8 hbut ⊢
                    have z0 := blk_cell hs8 0 _ rfl
                    have z1 := blk_cell hs8 1 _ rfl
                    have z2 := blk_cell hs8 2 _ rfl
                    have z3 := blk_cell hs8 3 _ rfl
                    have z4 := blk_cell hs8 4 _ rfl
                    have z5 := blk_cell hs8 5 _ rfl
                    have z6 := blk_cell hs8 6 _ rfl
                    have z7 := blk_cell hs8 7 _ rfl
                    refine bodyPost_ret (v := .tuple #[.agg #[.string (bs u.name), .slice (A 1) u.files.length (C 1), .slice (A 2) u.after.length (C 2), .slice (A 3) u.before.length (C 3), .slice (A 4) u.reqs.length (C 4), .slice (A 5) u.wants.length (C 5), .slice (A 6) u.partof.length (C 6), .int .i64 u.retry], .int .i64 22]) (by simp [results, Tryd.results68, go_sem, z0, z1, z2, z3, z4, z5, z6, z7]) rfl ?_
                    rw [HR.out, HL2.out]
                    exact ⟨A, C, rfl, fun f a b => (HUR.out f a b).ext (hbut.ext (HXW1.out) (by omega)), fun _ _ _ h => Or.inl h, hbut.ext (HXW1.out) (by omega)⟩
                  · have HL2 : Hid (lineU u wd rs = (u.put 6 (u.partof ++ [rs]), 0)) := Lib.hid (by rw [HL.out]; exact (if_neg hm).trans (if_neg h88)); clear hm
                    have h88b : ((u.partof.length : Int) == 8) = false := by simp; omega
                    have H88 := Lib.hid h88; clear h88
                    have HFS : Hid (Strs W1 (A 6) u.partof) := Lib.hid ((HUR.out 6 (by omega) (by omega)).ext (HXW1.out))
                    have H0 := Lib.hid hb0w; clear hb0w
                    have H1B := Lib.hid hb1w; clear hb1w
                    go_upto_region 43 with (first | (go_at_call 20; refine (HNM.out _).mono ?_; rintro e w2 ⟨rfl, rfl⟩) | (go_at_call 85; refine HHAS.out.mono ?_; rintro e w3 ⟨rfl, rfl⟩) | (at_builtin; refine append_row rfl (.tmp 127) (.tmp 131) 23 9 (.string ⟨#[]⟩) 16 rfl Tryd.underlying23 info_string rfl W1.heap.size (some ⟨W1.heap.size, 0, none⟩) 0 0 [] (by rfl) (ownsRow_empty W1 _) (A 6) u.partof.length (C 6) (textV u.partof) (by rfl) (textV_len _) (Strs.row (HFS.out.ext (Ext.alloc _ _))) (textV_one _) (by omega) (by decide) (by simp) u.partof.length (Nat.zero_add _) ?_; intro ad cap3 w3 hown3 hk3 hb3; have hx3 : Hid (Ext W1 w3) := Lib.hid (Below.trans (Ext.alloc W1 _) hb3); have hz3 := hx3.out.size; clear hk3 hb3; have hown3 := Lib.hid hown3) | (at_builtin; refine append_text rfl (.tmp 132) (.tmp 134) rfl W1.heap.size ad cap3 u.partof rs (by rfl) hown3.out (by rfl) (by omega) hz3 ?_; intro g cap4 w4 hown4 hb4; have hx4 : Hid (Ext W1 w4) := Lib.hid (Below.trans hx3.out hb4); have hz4 := hx4.out.size; have g0 := hx4.out.heap H0.out; have m0 := blk_cell g0 6 _ rfl; have m1 := blk_free g0 6; have hown4 := Lib.hid hown4; have hb4 := Lib.hid hb4; have g0 := Lib.hid g0))
                    have g0x := g0.out
                    have g1x := hx4.out.heap H1B.out
                    have hb0s : (w4.setCell ⟨w.heap.size, 6, none⟩ (.slice (some ⟨g, 0, none⟩) (u.partof.length + 1) cap4)).heap[w.heap.size]? = some (.cells #[.string (bs u.name), .slice (A 1) u.files.length (C 1), .slice (A 2) u.after.length (C 2), .slice (A 3) u.before.length (C 3), .slice (A 4) u.reqs.length (C 4), .slice (A 5) u.wants.length (C 5), .slice (some ⟨g, 0, none⟩) (u.partof.length + 1) cap4, .int .i64 u.retry] 61 (0, 0)) := setCell_row (i := 6) g0x _
                    have hbt : But w.heap.size w4 (w4.setCell ⟨w.heap.size, 6, none⟩ (.slice (some ⟨g, 0, none⟩) (u.partof.length + 1) cap4)) := (But.refl w.heap.size w4).setCell 6 (.slice (some ⟨g, 0, none⟩) (u.partof.length + 1) cap4)
                    have hb1s : (w4.setCell ⟨w.heap.size, 6, none⟩ (.slice (some ⟨g, 0, none⟩) (u.partof.length + 1) cap4)).heap[w.heap.size + 1]? = some (.cells #[.string ⟨#[]⟩, .slice none 0 0, .slice none 0 0, .slice none 0 0, .slice none 0 0, .slice none 0 0, .slice none 0 0, .int .i64 0] 61 (0, 0)) := (hbt.block (w.heap.size + 1) (by omega) (by omega)).trans g1x
                    have hxs2 : Ext w (w4.setCell ⟨w.heap.size, 6, none⟩ (.slice (some ⟨g, 0, none⟩) (u.partof.length + 1) cap4)) := But.ext ((HXW1.out).trans hx4.out) hbt (Nat.le_refl _)
                    have hsz2 : w.heap.size + 1 < (w4.setCell ⟨w.heap.size, 6, none⟩ (.slice (some ⟨g, 0, none⟩) (u.partof.length + 1) cap4)).heap.size := by have := hbt.size; omega
                    generalize w4.setCell ⟨w.heap.size, 6, none⟩ (.slice (some ⟨g, 0, none⟩) (u.partof.length + 1) cap4) = W2 at hb0s hb1s hxs2 hbt hsz2 ⊢
                    have HX2 := Lib.hid hxs2; clear hxs2
                    have HBT := Lib.hid hbt; clear hbt
                    have hst := fun (X : World) (q : But (w.heap.size + 1) W2 X) => OwnS.two hown4.out ⟨by omega, by omega⟩ HBT.out q
                    have HST := Lib.hid hst; clear hst m0 m1 g0x g1x
                    have hgge := Lib.hid hown4.out.ge
                    have c0 := blk_cell hb0s 0 _ rfl
                    have c1 := blk_cell hb0s 1 _ rfl
                    have c2 := blk_cell hb0s 2 _ rfl
                    have c3 := blk_cell hb0s 3 _ rfl
                    have c4 := blk_cell hb0s 4 _ rfl
                    have c5 := blk_cell hb0s 5 _ rfl
                    have c6 := blk_cell hb0s 6 _ rfl
                    have c7 := blk_cell hb0s 7 _ rfl
                    have y0 := blk_cell hb1s 0 _ rfl
                    have f0 := blk_free hb1s 0
                    have y1 := blk_cell hb1s 1 _ rfl
                    have f1 := blk_free hb1s 1
                    have y2 := blk_cell hb1s 2 _ rfl
                    have f2 := blk_free hb1s 2
                    have y3 := blk_cell hb1s 3 _ rfl
                    have f3 := blk_free hb1s 3
                    have y4 := blk_cell hb1s 4 _ rfl
                    have f4 := blk_free hb1s 4
                    have y5 := blk_cell hb1s 5 _ rfl
                    have f5 := blk_free hb1s 5
                    have y6 := blk_cell hb1s 6 _ rfl
                    have f6 := blk_free hb1s 6
                    have y7 := blk_cell hb1s 7 _ rfl
                    have f7 := blk_free hb1s 7
                    have Hb1 := Lib.hid hb1s; clear hb1s
                    have Hb0 := Lib.hid hb0s; clear hb0s
                    go_wp2_with fail
                    have hs8 := set8 Hb1.out (.string (bs u.name)) (.slice (A 1) u.files.length (C 1)) (.slice (A 2) u.after.length (C 2)) (.slice (A 3) u.before.length (C 3)) (.slice (A 4) u.reqs.length (C 4)) (.slice (A 5) u.wants.length (C 5)) (.slice (some ⟨g, 0, none⟩) (u.partof.length + 1) cap4) (.int .i64 u.retry)
                    obtain ⟨hs8, hbut⟩ := hs8
                    generalize ((((((((W2.setCell ⟨w.heap.size + 1, 0, none⟩ (.string (bs u.name))).setCell ⟨w.heap.size + 1, 1, none⟩ (.slice (A 1) u.files.length (C 1))).setCell ⟨w.heap.size + 1, 2, none⟩ (.slice (A 2) u.after.length (C 2))).setCell ⟨w.heap.size + 1, 3, none⟩ (.slice (A 3) u.before.length (C 3))).setCell ⟨w.heap.size + 1, 4, none⟩ (.slice (A 4) u.reqs.length (C 4))).setCell ⟨w.heap.size + 1, 5, none⟩ (.slice (A 5) u.wants.length (C 5))).setCell ⟨w.heap.size + 1, 6, none⟩ (.slice (some ⟨g, 0, none⟩) (u.partof.length + 1) cap4)).setCell ⟨w.heap.size + 1, 7, none⟩ (.int .i64 u.retry)) = wf at hs8 hbut ⊢
                    have z0 := blk_cell hs8 0 _ rfl
                    have z1 := blk_cell hs8 1 _ rfl
                    have z2 := blk_cell hs8 2 _ rfl
                    have z3 := blk_cell hs8 3 _ rfl
                    have z4 := blk_cell hs8 4 _ rfl
                    have z5 := blk_cell hs8 5 _ rfl
                    have z6 := blk_cell hs8 6 _ rfl
                    have z7 := blk_cell hs8 7 _ rfl
                    refine bodyPost_ret (v := .tuple #[.agg #[.string (bs u.name), .slice (A 1) u.files.length (C 1), .slice (A 2) u.after.length (C 2), .slice (A 3) u.before.length (C 3), .slice (A 4) u.reqs.length (C 4), .slice (A 5) u.wants.length (C 5), .slice (some ⟨g, 0, none⟩) (u.partof.length + 1) cap4, .int .i64 u.retry], .int .i64 0]) (by simp [results, Tryd.results68, go_sem, z0, z1, z2, z3, z4, z5, z6, z7]) rfl ?_
                    rw [HR.out, HL2.out]
                    exact ⟨(fun j => if j = 6 then some ⟨g, 0, none⟩ else A j), (fun j => if j = 6 then cap4 else C j), (by simp [unitV, UnitD.put]), unitR_put 6 (by omega) (by omega) HUR.out (hbut.ext (HX2.out) (by omega)) (HST.out _ hbut), at_put 6 (Nat.le_trans HXW1.out.size (hgge.out)), hbut.ext (HX2.out) (by omega)⟩
end Go.Proofs.YtedfpoidggpkdaaDoor
