/- farrierref13.Parse: the document's answer to a text. -/
import Derived.Test.YtedfpoidggpkdaaDoorRef13Line
import Derived.Test.YtedfpoidggpkdaaDoorAlive13
namespace Go.Proofs.YtedfpoidggpkdaaDoor
open Go.RowKit
/-- The lines that are left from a place on. -/
def restL (s : Bs) (fr : Nat) : List Bs := if fr ≤ s.length then splitOn 10 (s.drop fr) else []
theorem restL_0 (s : Bs) : restL s 0 = splitOn 10 s := by unfold restL; rw [if_pos (Nat.zero_le _), List.drop_zero]
theorem restL_hit {s : Bs} {fr k : Nat} (h1 : fr ≤ k) (h2 : k < s.length) (h10 : s[k] = 10) (hn : 10 ∉ (s.drop fr).take (k - fr)) : restL s fr = (s.drop fr).take (k - fr) :: restL s (k + 1) := by
  unfold restL
  rw [if_pos (by omega), if_pos (by omega)]
  conv => lhs; rw [drop_parts s fr k h1 h2, h10]
  exact splitOn_append 10 _ _ hn
theorem restL_end {s : Bs} {fr : Nat} (h1 : fr ≤ s.length) (hn : 10 ∉ (s.drop fr).take (s.length - fr)) : restL s fr = (s.drop fr).take (s.length - fr) :: restL s (s.length + 1) := by
  unfold restL
  rw [if_pos h1, if_neg (by omega)]
  rw [List.take_of_length_le (by simp)] at hn ⊢
  exact splitOn_none 10 _ hn
theorem no10_step {s : Bs} {fr k : Nat} (h1 : fr ≤ k) (h2 : k < s.length) (h10 : s[k] ≠ 10) (hn : 10 ∉ (s.drop fr).take (k - fr)) : 10 ∉ (s.drop fr).take (k + 1 - fr) := by
  have e : k + 1 - fr = (k - fr) + 1 := by omega
  have hl : k - fr < (s.drop fr).length := by simp; omega
  rw [e, List.take_succ_eq_append_getElem hl]
  intro hm
  rcases List.mem_append.1 hm with hm | hm
  · exact hn hm
  · simp at hm
    apply h10
    rw [hm]
    congr 1; omega
theorem Strs.but {R : Nat} {w w' : World} {a : Option Addr} {L : List Bs} (h : Strs w a L) (k : But R w w') (hR : ∀ g off, a = some ⟨g, off, none⟩ → g ≠ R) : Strs w' a L := by
  rcases h with h | ⟨g, off, ha, hg, hc⟩
  · exact Or.inl h
  · exact Or.inr ⟨g, off, ha, Nat.lt_of_lt_of_le hg k.size, fun i hi => k.cell (hR g off ha) (hc i hi)⟩
theorem Ext.but_ext {R : Nat} {w a b : World} (h : Ext w a) (k : But R a b) (hR : w.heap.size ≤ R) : Ext w b := But.ext h k hR
/-- What the document makes of a text, in memory. -/
def ParsR (o : UnitD × Nat × Nat) (w : World) (e : Ending) (w' : World) : Prop := ∃ A C, e = .returned (.tuple #[unitV o.1 A C, .int .i64 (o.2.1 : Int), .int .i64 (o.2.2 : Int)]) ∧ UnitR w' o.1 A ∧ Ext w w'
set_option maxRecDepth 100000 in
set_option maxHeartbeats 6400000 in
theorem ref_parse (s : Bs) (hs : s.length ≤ 900000) (w : World) :
    Calls Tryd.prog 39 #[.string (bs s)] w (ParsR (parseU s) w) := by
  obtain ⟨R, hR⟩ : ∃ R, R = ParsR (parseU s) w := ⟨_, rfl⟩
  rw [← hR]
  have HR := Lib.hid hR; clear hR
  have hsz : (bs s).size ≤ 900000 := by rw [bs_size]; exact hs
  have hbr := (Ext.alloc (w.alloc (.cells #[.string ⟨#[]⟩, .slice none 0 0, .slice none 0 0, .slice none 0 0, .slice none 0 0, .slice none 0 0, .slice none 0 0, .int .i64 0] 61)) (.cells #[.string ⟨#[]⟩, .slice none 0 0, .slice none 0 0, .slice none 0 0, .slice none 0 0, .slice none 0 0, .slice none 0 0, .int .i64 (-1)] 61)).heap (heap_alloc_new w (.cells #[.string ⟨#[]⟩, .slice none 0 0, .slice none 0 0, .slice none 0 0, .slice none 0 0, .slice none 0 0, .slice none 0 0, .int .i64 0] 61))
  have hbu := heap_alloc_new (w.alloc (.cells #[.string ⟨#[]⟩, .slice none 0 0, .slice none 0 0, .slice none 0 0, .slice none 0 0, .slice none 0 0, .slice none 0 0, .int .i64 0] 61)) (.cells #[.string ⟨#[]⟩, .slice none 0 0, .slice none 0 0, .slice none 0 0, .slice none 0 0, .slice none 0 0, .slice none 0 0, .int .i64 (-1)] 61)
  rw [World.size_alloc] at hbu
  have hx0 : Ext w ((w.alloc (.cells #[.string ⟨#[]⟩, .slice none 0 0, .slice none 0 0, .slice none 0 0, .slice none 0 0, .slice none 0 0, .slice none 0 0, .int .i64 0] 61)).alloc (.cells #[.string ⟨#[]⟩, .slice none 0 0, .slice none 0 0, .slice none 0 0, .slice none 0 0, .slice none 0 0, .slice none 0 0, .int .i64 (-1)] 61)) := (Ext.alloc _ _).trans (Ext.alloc _ _)
  have HBR0 := Lib.hid hbr; clear hbr
  have HBU0 := Lib.hid hbu; clear hbu
  have HX0 := Lib.hid hx0; clear hx0
  have hpr : parseU s = endU (linesU (restL s 0) 0 u0) := by rw [restL_0]; rfl
  have HPR := Lib.hid hpr; clear hpr
  go_enter Tryd.func39, Tryd.ntmps39
  go_wp2_with fail
  have hw0 : (w.alloc (.cells #[.string ⟨#[]⟩, .slice none 0 0, .slice none 0 0, .slice none 0 0, .slice none 0 0, .slice none 0 0, .slice none 0 0, .int .i64 0] 61)).heap.size = w.heap.size + 1 := World.size_alloc _ _
  generalize (w.alloc (.cells #[.string ⟨#[]⟩, .slice none 0 0, .slice none 0 0, .slice none 0 0, .slice none 0 0, .slice none 0 0, .slice none 0 0, .int .i64 0] 61)).alloc (.cells #[.string ⟨#[]⟩, .slice none 0 0, .slice none 0 0, .slice none 0 0, .slice none 0 0, .slice none 0 0, .slice none 0 0, .int .i64 (-1)] 61) = w0 at HBR0 HBU0 HX0 ⊢
  have hz0 : w.heap.size + 2 ≤ w0.heap.size := by have := (Array.getElem?_eq_some_iff.1 HBU0.out).1; omega
  clear hw0
  go_loopw [6, 7, 8] (fun a b i wr => ∃ (k fr n : Nat) (v : UnitD) (A : Nat → Option Addr) (C : Nat → Nat), a = .int .i64 fr ∧ b = .int .i64 n ∧ i = .int .i64 k ∧ fr ≤ k ∧ k ≤ s.length + 1 ∧ n ≤ k ∧ Hid (k = s.length + 1 → fr = k) ∧ Hid (10 ∉ (s.drop fr).take (k - fr)) ∧ Hid (linesU (restL s 0) 0 u0 = linesU (restL s fr) n v) ∧ Hid (PartU v) ∧ Hid (wr.heap[w.heap.size + 1]? = some (.cells #[.string (bs v.name), .slice (A 1) v.files.length (C 1), .slice (A 2) v.after.length (C 2), .slice (A 3) v.before.length (C 3), .slice (A 4) v.reqs.length (C 4), .slice (A 5) v.wants.length (C 5), .slice (A 6) v.partof.length (C 6), .int .i64 v.retry] 61 (0, 0))) ∧ Hid (UnitR wr v A ∧ ∀ f g off, A f = some ⟨g, off, none⟩ → w.heap.size + 2 ≤ g) ∧ Hid (But (w.heap.size + 1) w0 wr)) (fun _ _ i _ => s.length + 1 - (intOf i).toNat)
  case atStart => exact ⟨0, 0, 0, u0, fun _ => none, fun _ => 0, rfl, rfl, rfl, Nat.le_refl _, Nat.zero_le _, Nat.le_refl _, Lib.hid (fun h => by omega), Lib.hid (by simp), Lib.hid rfl, Lib.hid partU_0, HBU0, Lib.hid ⟨fun f h1 h6 => by
    have : u0.row f = [] := by unfold UnitD.row u0; split <;> rfl
    rw [this]; exact Strs.nil _ _, fun f g off h => by cases h⟩, Lib.hid (But.refl _ _)⟩
  case round =>
    obtain ⟨k, fr, n, v, A, C, rfl, rfl, rfl, hfk, hk, hnk, hkf, h10, hrd, hpart, hblk, hur, hbut⟩ := hrel
    by_cases hle : k ≤ s.length
    · have hleb : decide (k ≤ (bs s).size) = true := decide_eq_true (by rw [bs_size]; omega)
      by_cases hc : ∃ h : k < s.length, s[k] ≠ 10
      · obtain ⟨hlt, hne⟩ := hc
        have hltz : k < (bs s).size := by rw [bs_size]; exact hlt
        have hltb : decide (k < (bs s).size) = true := decide_eq_true (by omega)
        have hq : ((((bs s)[k]'hltz).toNat : Int) != 10) = true := by
          have e : ((bs s)[k]'hltz) = s[k] := rfl
          rw [e]
          have : s[k].toNat ≠ 10 := fun e => hne (UInt8.toNat_inj.1 (show s[k].toNat = (10 : UInt8).toNat from e))
          simp; omega
        have HN := Lib.hid (no10_step hfk hlt hne h10.out); clear hne
        go_wp2_with fail
        go_roundw
        case rel => exact ⟨k + 1, fr, n, v, A, C, rfl, rfl, by go_num, by omega, by omega, by omega, Lib.hid (fun h => by omega), HN, hrd, hpart, hblk, hur, hbut⟩
        case measure => simp [intOf]; omega
      · have hrest : restL s fr = (s.drop fr).take (k - fr) :: restL s (k + 1) := by
          by_cases hlt : k < s.length
          · refine restL_hit hfk hlt ?_ h10.out
            exact Classical.byContradiction fun e => hc ⟨hlt, e⟩
          · have : k = s.length := by omega
            subst this
            exact restL_end hfk h10.out
        have htest : (∃ hlt : k < (bs s).size, ((((bs s)[k]'hlt).toNat : Int) != 10) = false ∧ decide (k < (bs s).size) = true) ∨ decide (k < (bs s).size) = false := by
          by_cases hlt : k < s.length
          · have hltz : k < (bs s).size := by rw [bs_size]; exact hlt
            have e : s[k] = 10 := Classical.byContradiction fun e => hc ⟨hlt, e⟩
            exact Or.inl ⟨hltz, by have e2 : ((bs s)[k]'hltz) = s[k] := rfl
                                   rw [e2, e]; rfl, decide_eq_true (by omega)⟩
          · exact Or.inr (decide_eq_false (by rw [bs_size]; omega))
        have hsub := extract_bs (bs s) fr k
        rw [bs_data] at hsub
        obtain ⟨p, hp⟩ : ∃ p, p = (s.drop fr).take (k - fr) := ⟨_, rfl⟩
        rw [← hp] at hrest hsub
        have hpl : p.length ≤ 900000 := by rw [hp]; simp; omega
        have HRT := Lib.hid hrest; clear hrest
        have HSB := Lib.hid hsub; clear hsub hc hp
        have hfz : fr ≤ (bs s).size := by rw [bs_size]; omega
        have hkz : k ≤ (bs s).size := by rw [bs_size]; omega
        have H10N : Hid (10 ∉ (s.drop (k + 1)).take (k + 1 - (k + 1))) := Lib.hid (by simp)
        rcases htest with ⟨hltz, hq, hltb⟩ | hltb
        all_goals
          go_upto_region 9 with fail
          rw [HSB.out]
          by_cases hp0 : p = []
          · have hpe : ((bs p).toList.isEmpty) = true := by rw [bs_toList, hp0]; rfl
            have HI := Lib.hid hp0; clear hp0
            go_wp2_with fail
            go_roundw
            case rel => exact ⟨k + 1, k + 1, n + 1, v, A, C, by go_num, by go_num, by go_num, by omega, by omega, by omega, Lib.hid (fun h => rfl), H10N, Lib.hid (by rw [hrd.out, HRT.out]; exact linesU_idle (by simp [idle, HI.out])), hpart, hblk, hur, hbut⟩
            case measure => simp [intOf]; omega
          · have hpe : ((bs p).toList.isEmpty) = false := by rw [bs_toList]; simpa using hp0
            have hpz : 0 < (bs p).size := by rw [bs_size]; exact List.length_pos_iff.2 hp0
            have HI := Lib.hid hp0; clear hp0
            by_cases h35 : p.head? = some 35
            · have hb := bs_first hpz h35
              have H35 := Lib.hid h35; clear h35
              go_wp2_with fail
              go_roundw
              case rel => exact ⟨k + 1, k + 1, n + 1, v, A, C, by go_num, by go_num, by go_num, by omega, by omega, by omega, Lib.hid (fun h => rfl), H10N, Lib.hid (by rw [hrd.out, HRT.out]; exact linesU_idle (by simp [idle, H35.out])), hpart, hblk, hur, hbut⟩
              case measure => simp [intOf]; omega
            · have hb := bs_notfirst hpz h35
              have hidle : idle p = false := by unfold idle; exact decide_eq_false (by intro h; rcases h with h | h; exact HI.out h; exact h35 h)
              have HID := Lib.hid hidle; clear h35 hidle
              have hline := ref_line v A C p wr (by omega) hur.out.1 (fun f h1 h6 => (hpart.out.rows f h1 h6).1)
              obtain ⟨⟨x, m⟩, ho⟩ : ∃ o, o = lineU v (cutW p).1 (cutW p).2 := ⟨_, rfl⟩
              rw [← ho] at hline
              have hok : m = 0 → linesU (p :: restL s (k + 1)) n v = linesU (restL s (k + 1)) (n + 1) x := fun h => by rw [linesU_ok HID.out (by rw [← ho]; exact h), ← ho]
              have hbad : m ≠ 0 → linesU (p :: restL s (k + 1)) n v = .inr (m, n + 1) := fun h => by rw [linesU_bad HID.out (by rw [← ho]; exact h), ← ho]
              have hpx : m = 0 → PartU x := fun h => lineU_part hpart.out (by rw [← ho, h])
              have HO := Lib.hid ho; clear ho
              unfold unitV at hline
              have HLI := Lib.hid hline; clear hline
              have hszr : w.heap.size + 2 ≤ wr.heap.size := Nat.le_trans hz0 hbut.out.size
              have c0 := blk_cell hblk.out 0 _ rfl
              have c1 := blk_cell hblk.out 1 _ rfl
              have c2 := blk_cell hblk.out 2 _ rfl
              have c3 := blk_cell hblk.out 3 _ rfl
              have c4 := blk_cell hblk.out 4 _ rfl
              have c5 := blk_cell hblk.out 5 _ rfl
              have c6 := blk_cell hblk.out 6 _ rfl
              have c7 := blk_cell hblk.out 7 _ rfl
              go_wp2_with fail
              refine HLI.out.mono ?_
              rintro e w5 ⟨A', C', rfl, hU5, hat, hx5⟩
              clear c0 c1 c2 c3 c4 c5 c6 c7
              simp only at hU5 ⊢
              have hs5 := hx5.size
              have h5 := (Ext.alloc w5 (.cells #[.string (bs x.name), .slice (A' 1) x.files.length (C' 1), .slice (A' 2) x.after.length (C' 2), .slice (A' 3) x.before.length (C' 3), .slice (A' 4) x.reqs.length (C' 4), .slice (A' 5) x.wants.length (C' 5), .slice (A' 6) x.partof.length (C' 6), .int .i64 x.retry] 61)).heap (hx5.heap hblk.out)
              have hn5 := heap_alloc_new w5 (.cells #[.string (bs x.name), .slice (A' 1) x.files.length (C' 1), .slice (A' 2) x.after.length (C' 2), .slice (A' 3) x.before.length (C' 3), .slice (A' 4) x.reqs.length (C' 4), .slice (A' 5) x.wants.length (C' 5), .slice (A' 6) x.partof.length (C' 6), .int .i64 x.retry] 61)
              have hr5 := (Ext.alloc w5 (.cells #[.string (bs x.name), .slice (A' 1) x.files.length (C' 1), .slice (A' 2) x.after.length (C' 2), .slice (A' 3) x.before.length (C' 3), .slice (A' 4) x.reqs.length (C' 4), .slice (A' 5) x.wants.length (C' 5), .slice (A' 6) x.partof.length (C' 6), .int .i64 x.retry] 61)).heap (hx5.heap ((hbut.out.block w.heap.size (by omega) (by omega)).trans HBR0.out))
              have hxx : Ext wr (w5.alloc (.cells #[.string (bs x.name), .slice (A' 1) x.files.length (C' 1), .slice (A' 2) x.after.length (C' 2), .slice (A' 3) x.before.length (C' 3), .slice (A' 4) x.reqs.length (C' 4), .slice (A' 5) x.wants.length (C' 5), .slice (A' 6) x.partof.length (C' 6), .int .i64 x.retry] 61)) := hx5.trans (Ext.alloc _ _)
              have HXX := Lib.hid hxx; clear hxx
              have hUX : UnitR (w5.alloc (.cells #[.string (bs x.name), .slice (A' 1) x.files.length (C' 1), .slice (A' 2) x.after.length (C' 2), .slice (A' 3) x.before.length (C' 3), .slice (A' 4) x.reqs.length (C' 4), .slice (A' 5) x.wants.length (C' 5), .slice (A' 6) x.partof.length (C' 6), .int .i64 x.retry] 61)) x A' := UnitR.ext hU5 (Ext.alloc _ _)
              have HUX := Lib.hid hUX; clear hUX hU5 hx5
              have HAT := Lib.hid hat; clear hat
              by_cases hm0 : m = 0
              · have HOK := Lib.hid (hok hm0)
                have HPX := Lib.hid (hpx hm0)
                have hmb : ((m : Int) != 0) = false := by simp; omega
                have HM0 := Lib.hid hm0
                clear hok hbad hpx hm0
                have c0 := blk_cell hn5 0 _ rfl
                have c1 := blk_cell hn5 1 _ rfl
                have c2 := blk_cell hn5 2 _ rfl
                have c3 := blk_cell hn5 3 _ rfl
                have c4 := blk_cell hn5 4 _ rfl
                have c5 := blk_cell hn5 5 _ rfl
                have c6 := blk_cell hn5 6 _ rfl
                have c7 := blk_cell hn5 7 _ rfl
                have y0 := blk_cell h5 0 _ rfl
                have y1 := blk_cell h5 1 _ rfl
                have y2 := blk_cell h5 2 _ rfl
                have y3 := blk_cell h5 3 _ rfl
                have y4 := blk_cell h5 4 _ rfl
                have y5 := blk_cell h5 5 _ rfl
                have y6 := blk_cell h5 6 _ rfl
                have y7 := blk_cell h5 7 _ rfl
                have f0 := blk_free h5 0
                have f1 := blk_free h5 1
                have f2 := blk_free h5 2
                have f3 := blk_free h5 3
                have f4 := blk_free h5 4
                have f5 := blk_free h5 5
                have f6 := blk_free h5 6
                have f7 := blk_free h5 7
                have Hr5 := Lib.hid hr5; clear hr5
                have Hn5 := Lib.hid hn5; clear hn5
                have H5 := Lib.hid h5; clear h5
                unfold unitV
                go_wp2_with fail
                have hs8 := set8 H5.out (.string (bs x.name)) (.slice (A' 1) x.files.length (C' 1)) (.slice (A' 2) x.after.length (C' 2)) (.slice (A' 3) x.before.length (C' 3)) (.slice (A' 4) x.reqs.length (C' 4)) (.slice (A' 5) x.wants.length (C' 5)) (.slice (A' 6) x.partof.length (C' 6)) (.int .i64 x.retry)
                obtain ⟨hs8, hb8⟩ := hs8
                generalize ((((((((w5.alloc (.cells #[.string (bs x.name), .slice (A' 1) x.files.length (C' 1), .slice (A' 2) x.after.length (C' 2), .slice (A' 3) x.before.length (C' 3), .slice (A' 4) x.reqs.length (C' 4), .slice (A' 5) x.wants.length (C' 5), .slice (A' 6) x.partof.length (C' 6), .int .i64 x.retry] 61)).setCell ⟨w.heap.size + 1, 0, none⟩ (.string (bs x.name))).setCell ⟨w.heap.size + 1, 1, none⟩ (.slice (A' 1) x.files.length (C' 1))).setCell ⟨w.heap.size + 1, 2, none⟩ (.slice (A' 2) x.after.length (C' 2))).setCell ⟨w.heap.size + 1, 3, none⟩ (.slice (A' 3) x.before.length (C' 3))).setCell ⟨w.heap.size + 1, 4, none⟩ (.slice (A' 4) x.reqs.length (C' 4))).setCell ⟨w.heap.size + 1, 5, none⟩ (.slice (A' 5) x.wants.length (C' 5))).setCell ⟨w.heap.size + 1, 6, none⟩ (.slice (A' 6) x.partof.length (C' 6))).setCell ⟨w.heap.size + 1, 7, none⟩ (.int .i64 x.retry) = wf at hs8 hb8 ⊢
                go_roundw
                case rel => exact ⟨k + 1, k + 1, n + 1, x, A', C', by go_num, by go_num, by go_num, by omega, by omega, by omega, Lib.hid (fun h => rfl), H10N, Lib.hid (by rw [hrd.out, HRT.out, HOK.out]), HPX, Lib.hid hs8, Lib.hid ⟨fun f a b => (HUX.out f a b).but hb8 (fun g off h => (HAT.out f g off h).elim (fun h => by have := hur.out.2 f g off h; omega) (fun h => by omega)), fun f g off h => (HAT.out f g off h).elim (fun h => hur.out.2 f g off h) (fun h => by omega)⟩, Lib.hid ((hbut.out.trans (But.of_ext HXX.out)).trans hb8)⟩
                case measure => simp [intOf]; omega
              · have HBAD := Lib.hid (hbad hm0)
                have hmb : ((m : Int) != 0) = true := by simp; omega
                have HM0 := Lib.hid hm0
                clear hok hbad hpx hm0
                have y0 := blk_cell hr5 0 _ rfl
                have y1 := blk_cell hr5 1 _ rfl
                have y2 := blk_cell hr5 2 _ rfl
                have y3 := blk_cell hr5 3 _ rfl
                have y4 := blk_cell hr5 4 _ rfl
                have y5 := blk_cell hr5 5 _ rfl
                have y6 := blk_cell hr5 6 _ rfl
                have y7 := blk_cell hr5 7 _ rfl
                have f0 := blk_free hr5 0
                have f1 := blk_free hr5 1
                have f2 := blk_free hr5 2
                have f3 := blk_free hr5 3
                have f4 := blk_free hr5 4
                have f5 := blk_free hr5 5
                have f6 := blk_free hr5 6
                have f7 := blk_free hr5 7
                have Hr5 := Lib.hid hr5; clear hr5
                have Hn5 := Lib.hid hn5; clear hn5
                have H5 := Lib.hid h5; clear h5
                have hfin : parseU s = (uz, m, n + 1) := by rw [HPR.out, hrd.out, HRT.out, HBAD.out]; rfl
                have HFIN := Lib.hid hfin; clear hfin
                unfold unitV
                go_wp2_with fail
                have hs8 := set8 Hr5.out (.string ⟨#[]⟩) (.slice none 0 0) (.slice none 0 0) (.slice none 0 0) (.slice none 0 0) (.slice none 0 0) (.slice none 0 0) (.int .i64 0)
                obtain ⟨hs8, hb8⟩ := hs8
                generalize ((((((((w5.alloc (.cells #[.string (bs x.name), .slice (A' 1) x.files.length (C' 1), .slice (A' 2) x.after.length (C' 2), .slice (A' 3) x.before.length (C' 3), .slice (A' 4) x.reqs.length (C' 4), .slice (A' 5) x.wants.length (C' 5), .slice (A' 6) x.partof.length (C' 6), .int .i64 x.retry] 61)).setCell ⟨w.heap.size, 0, none⟩ (.string ⟨#[]⟩)).setCell ⟨w.heap.size, 1, none⟩ (.slice none 0 0)).setCell ⟨w.heap.size, 2, none⟩ (.slice none 0 0)).setCell ⟨w.heap.size, 3, none⟩ (.slice none 0 0)).setCell ⟨w.heap.size, 4, none⟩ (.slice none 0 0)).setCell ⟨w.heap.size, 5, none⟩ (.slice none 0 0)).setCell ⟨w.heap.size, 6, none⟩ (.slice none 0 0)).setCell ⟨w.heap.size, 7, none⟩ (.int .i64 0) = wf at hs8 hb8 ⊢
                have z0 := blk_cell hs8 0 _ rfl
                have z1 := blk_cell hs8 1 _ rfl
                have z2 := blk_cell hs8 2 _ rfl
                have z3 := blk_cell hs8 3 _ rfl
                have z4 := blk_cell hs8 4 _ rfl
                have z5 := blk_cell hs8 5 _ rfl
                have z6 := blk_cell hs8 6 _ rfl
                have z7 := blk_cell hs8 7 _ rfl
                refine bodyPost_ret (v := .tuple #[.agg #[.string ⟨#[]⟩, .slice none 0 0, .slice none 0 0, .slice none 0 0, .slice none 0 0, .slice none 0 0, .slice none 0 0, .int .i64 0], .int .i64 m, .int .i64 ((n : Int) + 1)]) (by simp [results, Tryd.results39, go_sem, z0, z1, z2, z3, z4, z5, z6, z7]) rfl ?_
                rw [HR.out, HFIN.out]
                exact ⟨fun _ => none, fun _ => 0, rfl, fun f h1 h6 => by
                  have : uz.row f = [] := by unfold UnitD.row uz; split <;> rfl
                  rw [this]; exact Strs.nil _ _, (((hbut.out.ext HX0.out (by omega)).trans HXX.out : Ext w _)).but_ext hb8 (Nat.le_refl _)⟩
    · have hkk : k = s.length + 1 := by omega
      have hleb : decide (k ≤ (bs s).size) = false := decide_eq_false (by rw [bs_size]; omega)
      have hlin : parseU s = endU (.inl v) := by
        rw [HPR.out, hrd.out]
        have : restL s fr = [] := by unfold restL; rw [if_neg (by have := hkf.out hkk; omega)]
        rw [this]; rfl
      have HLIN := Lib.hid hlin; clear hlin hkk
      have hszr : w.heap.size + 2 ≤ wr.heap.size := Nat.le_trans hz0 hbut.out.size
      have hr5 := (hbut.out.block w.heap.size (by omega) (by omega)).trans HBR0.out
      have h5 := hblk.out
      have hxw : Ext w wr := hbut.out.ext HX0.out (by omega)
      have HXW := Lib.hid hxw; clear hxw
      have d0 : wr.cell? ⟨w.heap.size + 1, 0, none⟩ = some (.string (bs v.name)) := blk_cell h5 0 _ rfl
      have d1 : wr.cell? ⟨w.heap.size + 1, 1, none⟩ = some (.slice (A 1) v.files.length (C 1)) := blk_cell h5 1 _ rfl
      have d7 : wr.cell? ⟨w.heap.size + 1, 7, none⟩ = some (.int .i64 v.retry) := blk_cell h5 7 _ rfl
      by_cases hn0 : v.name = []
      · have hq : ((bs v.name).toList.isEmpty) = true := by rw [bs_toList, hn0]; rfl
        have HFIN : Hid (parseU s = (uz, 8, 0)) := Lib.hid (by rw [HLIN.out]; unfold endU; simp [hn0])
        clear hn0 d1 d7
        go_upto_region 17 with fail
        clear d0
        have y0 := blk_cell hr5 0 _ rfl
        have y1 := blk_cell hr5 1 _ rfl
        have y2 := blk_cell hr5 2 _ rfl
        have y3 := blk_cell hr5 3 _ rfl
        have y4 := blk_cell hr5 4 _ rfl
        have y5 := blk_cell hr5 5 _ rfl
        have y6 := blk_cell hr5 6 _ rfl
        have y7 := blk_cell hr5 7 _ rfl
        have f0 := blk_free hr5 0
        have f1 := blk_free hr5 1
        have f2 := blk_free hr5 2
        have f3 := blk_free hr5 3
        have f4 := blk_free hr5 4
        have f5 := blk_free hr5 5
        have f6 := blk_free hr5 6
        have f7 := blk_free hr5 7
        have Hr5 := Lib.hid hr5; clear hr5
        have H5 := Lib.hid h5; clear h5
        go_wp2_with fail
        have hs8 := set8 Hr5.out (.string ⟨#[]⟩) (.slice none 0 0) (.slice none 0 0) (.slice none 0 0) (.slice none 0 0) (.slice none 0 0) (.slice none 0 0) (.int .i64 0)
        obtain ⟨hs8, hb8⟩ := hs8
        generalize (((((((wr.setCell ⟨w.heap.size, 0, none⟩ (.string ⟨#[]⟩)).setCell ⟨w.heap.size, 1, none⟩ (.slice none 0 0)).setCell ⟨w.heap.size, 2, none⟩ (.slice none 0 0)).setCell ⟨w.heap.size, 3, none⟩ (.slice none 0 0)).setCell ⟨w.heap.size, 4, none⟩ (.slice none 0 0)).setCell ⟨w.heap.size, 5, none⟩ (.slice none 0 0)).setCell ⟨w.heap.size, 6, none⟩ (.slice none 0 0)).setCell ⟨w.heap.size, 7, none⟩ (.int .i64 0) = wf at hs8 hb8 ⊢
        have z0 := blk_cell hs8 0 _ rfl
        have z1 := blk_cell hs8 1 _ rfl
        have z2 := blk_cell hs8 2 _ rfl
        have z3 := blk_cell hs8 3 _ rfl
        have z4 := blk_cell hs8 4 _ rfl
        have z5 := blk_cell hs8 5 _ rfl
        have z6 := blk_cell hs8 6 _ rfl
        have z7 := blk_cell hs8 7 _ rfl
        refine bodyPost_ret (v := .tuple #[.agg #[.string ⟨#[]⟩, .slice none 0 0, .slice none 0 0, .slice none 0 0, .slice none 0 0, .slice none 0 0, .slice none 0 0, .int .i64 0], .int .i64 8, .int .i64 0]) (by simp [results, Tryd.results39, go_sem, z0, z1, z2, z3, z4, z5, z6, z7]) rfl ?_
        rw [HR.out, HFIN.out]
        exact ⟨fun _ => none, fun _ => 0, rfl, fun f h1 h6 => by
          have : uz.row f = [] := by unfold UnitD.row uz; split <;> rfl
          rw [this]; exact Strs.nil _ _, HXW.out.but_ext hb8 (Nat.le_refl _)⟩
      · have hq : ((bs v.name).toList.isEmpty) = false := by rw [bs_toList]; simpa using hn0
        by_cases hf0 : v.files.length = 0
        · have hqf : ((v.files.length : Int) == 0) = true := by simp; exact List.eq_nil_of_length_eq_zero hf0
          have HFIN : Hid (parseU s = (uz, 8, 0)) := Lib.hid (by rw [HLIN.out]; unfold endU; simp [List.eq_nil_of_length_eq_zero hf0])
          have HF0 := Lib.hid hf0; clear hf0
          go_upto_region 17 with fail
          clear d0 d1 d7
          have y0 := blk_cell hr5 0 _ rfl
          have y1 := blk_cell hr5 1 _ rfl
          have y2 := blk_cell hr5 2 _ rfl
          have y3 := blk_cell hr5 3 _ rfl
          have y4 := blk_cell hr5 4 _ rfl
          have y5 := blk_cell hr5 5 _ rfl
          have y6 := blk_cell hr5 6 _ rfl
          have y7 := blk_cell hr5 7 _ rfl
          have f0 := blk_free hr5 0
          have f1 := blk_free hr5 1
          have f2 := blk_free hr5 2
          have f3 := blk_free hr5 3
          have f4 := blk_free hr5 4
          have f5 := blk_free hr5 5
          have f6 := blk_free hr5 6
          have f7 := blk_free hr5 7
          have Hr5 := Lib.hid hr5; clear hr5
          have H5 := Lib.hid h5; clear h5
          go_wp2_with fail
          have hs8 := set8 Hr5.out (.string ⟨#[]⟩) (.slice none 0 0) (.slice none 0 0) (.slice none 0 0) (.slice none 0 0) (.slice none 0 0) (.slice none 0 0) (.int .i64 0)
          obtain ⟨hs8, hb8⟩ := hs8
          generalize (((((((wr.setCell ⟨w.heap.size, 0, none⟩ (.string ⟨#[]⟩)).setCell ⟨w.heap.size, 1, none⟩ (.slice none 0 0)).setCell ⟨w.heap.size, 2, none⟩ (.slice none 0 0)).setCell ⟨w.heap.size, 3, none⟩ (.slice none 0 0)).setCell ⟨w.heap.size, 4, none⟩ (.slice none 0 0)).setCell ⟨w.heap.size, 5, none⟩ (.slice none 0 0)).setCell ⟨w.heap.size, 6, none⟩ (.slice none 0 0)).setCell ⟨w.heap.size, 7, none⟩ (.int .i64 0) = wf at hs8 hb8 ⊢
          have z0 := blk_cell hs8 0 _ rfl
          have z1 := blk_cell hs8 1 _ rfl
          have z2 := blk_cell hs8 2 _ rfl
          have z3 := blk_cell hs8 3 _ rfl
          have z4 := blk_cell hs8 4 _ rfl
          have z5 := blk_cell hs8 5 _ rfl
          have z6 := blk_cell hs8 6 _ rfl
          have z7 := blk_cell hs8 7 _ rfl
          refine bodyPost_ret (v := .tuple #[.agg #[.string ⟨#[]⟩, .slice none 0 0, .slice none 0 0, .slice none 0 0, .slice none 0 0, .slice none 0 0, .slice none 0 0, .int .i64 0], .int .i64 8, .int .i64 0]) (by simp [results, Tryd.results39, go_sem, z0, z1, z2, z3, z4, z5, z6, z7]) rfl ?_
          rw [HR.out, HFIN.out]
          exact ⟨fun _ => none, fun _ => 0, rfl, fun f h1 h6 => by
            have : uz.row f = [] := by unfold UnitD.row uz; split <;> rfl
            rw [this]; exact Strs.nil _ _, HXW.out.but_ext hb8 (Nat.le_refl _)⟩
        · have hqf : ((v.files.length : Int) == 0) = false := by
            have : v.files ≠ [] := fun e => hf0 (by rw [e]; rfl)
            simp [this]
          have hne : ¬ (v.name = [] ∨ v.files = []) := fun h => h.elim hn0 (fun e => hf0 (by rw [e]; rfl))
          have HNE := Lib.hid hne; clear hne
          have HF0 := Lib.hid hf0; clear hf0
          by_cases hr0 : v.retry < 0
          · have hrb : decide (v.retry < 0) = true := decide_eq_true hr0
            have HFIN : Hid (parseU s = ({ v with retry := 0 }, 0, 0)) := Lib.hid (by rw [HLIN.out]; unfold endU; simp only; rw [if_neg HNE.out, if_pos hr0])
            have e7 := blk_free h5 7
            go_upto_region 20 with fail
            clear d0 d1 d7 e7
            have hb0s : (wr.setCell ⟨w.heap.size + 1, 7, none⟩ (.int .i64 0)).heap[w.heap.size + 1]? = some (.cells #[.string (bs v.name), .slice (A 1) v.files.length (C 1), .slice (A 2) v.after.length (C 2), .slice (A 3) v.before.length (C 3), .slice (A 4) v.reqs.length (C 4), .slice (A 5) v.wants.length (C 5), .slice (A 6) v.partof.length (C 6), .int .i64 0] 61 (0, 0)) := setCell_row (i := 7) h5 _
            have hbt : But (w.heap.size + 1) wr (wr.setCell ⟨w.heap.size + 1, 7, none⟩ (.int .i64 0)) := (But.refl _ wr).setCell 7 _
            have hr5s : (wr.setCell ⟨w.heap.size + 1, 7, none⟩ (.int .i64 0)).heap[w.heap.size]? = some (.cells #[.string ⟨#[]⟩, .slice none 0 0, .slice none 0 0, .slice none 0 0, .slice none 0 0, .slice none 0 0, .slice none 0 0, .int .i64 0] 61 (0, 0)) := (hbt.block w.heap.size (by omega) (by omega)).trans hr5
            generalize wr.setCell ⟨w.heap.size + 1, 7, none⟩ (.int .i64 0) = W2 at hb0s hbt hr5s ⊢
            have HBT := Lib.hid hbt; clear hbt
            have c0 := blk_cell hb0s 0 _ rfl
            have c1 := blk_cell hb0s 1 _ rfl
            have c2 := blk_cell hb0s 2 _ rfl
            have c3 := blk_cell hb0s 3 _ rfl
            have c4 := blk_cell hb0s 4 _ rfl
            have c5 := blk_cell hb0s 5 _ rfl
            have c6 := blk_cell hb0s 6 _ rfl
            have c7 := blk_cell hb0s 7 _ rfl
            have y0 := blk_cell hr5s 0 _ rfl
            have y1 := blk_cell hr5s 1 _ rfl
            have y2 := blk_cell hr5s 2 _ rfl
            have y3 := blk_cell hr5s 3 _ rfl
            have y4 := blk_cell hr5s 4 _ rfl
            have y5 := blk_cell hr5s 5 _ rfl
            have y6 := blk_cell hr5s 6 _ rfl
            have y7 := blk_cell hr5s 7 _ rfl
            have f0 := blk_free hr5s 0
            have f1 := blk_free hr5s 1
            have f2 := blk_free hr5s 2
            have f3 := blk_free hr5s 3
            have f4 := blk_free hr5s 4
            have f5 := blk_free hr5s 5
            have f6 := blk_free hr5s 6
            have f7 := blk_free hr5s 7
            have Hr5 := Lib.hid hr5s; clear hr5s
            have H5 := Lib.hid hb0s; clear hb0s
            have HSV : Hid (∀ f, 1 ≤ f → f ≤ 6 → ∀ {X : World}, But w.heap.size W2 X → Strs X (A f) (v.row f)) := Lib.hid (fun f h1 h6 {X} q => ((hur.out.1 f h1 h6).but HBT.out (fun g off h => by have := hur.out.2 f g off h; omega)).but q (fun g off h => by have := hur.out.2 f g off h; omega))
            go_wp2_with fail
            have hs8 := set8 Hr5.out (.string (bs v.name)) (.slice (A 1) v.files.length (C 1)) (.slice (A 2) v.after.length (C 2)) (.slice (A 3) v.before.length (C 3)) (.slice (A 4) v.reqs.length (C 4)) (.slice (A 5) v.wants.length (C 5)) (.slice (A 6) v.partof.length (C 6)) (.int .i64 0)
            obtain ⟨hs8, hb8⟩ := hs8
            generalize (((((((W2.setCell ⟨w.heap.size, 0, none⟩ (.string (bs v.name))).setCell ⟨w.heap.size, 1, none⟩ (.slice (A 1) v.files.length (C 1))).setCell ⟨w.heap.size, 2, none⟩ (.slice (A 2) v.after.length (C 2))).setCell ⟨w.heap.size, 3, none⟩ (.slice (A 3) v.before.length (C 3))).setCell ⟨w.heap.size, 4, none⟩ (.slice (A 4) v.reqs.length (C 4))).setCell ⟨w.heap.size, 5, none⟩ (.slice (A 5) v.wants.length (C 5))).setCell ⟨w.heap.size, 6, none⟩ (.slice (A 6) v.partof.length (C 6))).setCell ⟨w.heap.size, 7, none⟩ (.int .i64 0) = wf at hs8 hb8 ⊢
            have z0 := blk_cell hs8 0 _ rfl
            have z1 := blk_cell hs8 1 _ rfl
            have z2 := blk_cell hs8 2 _ rfl
            have z3 := blk_cell hs8 3 _ rfl
            have z4 := blk_cell hs8 4 _ rfl
            have z5 := blk_cell hs8 5 _ rfl
            have z6 := blk_cell hs8 6 _ rfl
            have z7 := blk_cell hs8 7 _ rfl
            refine bodyPost_ret (v := .tuple #[.agg #[.string (bs v.name), .slice (A 1) v.files.length (C 1), .slice (A 2) v.after.length (C 2), .slice (A 3) v.before.length (C 3), .slice (A 4) v.reqs.length (C 4), .slice (A 5) v.wants.length (C 5), .slice (A 6) v.partof.length (C 6), .int .i64 0], .int .i64 0, .int .i64 0]) (by simp [results, Tryd.results39, go_sem, z0, z1, z2, z3, z4, z5, z6, z7]) rfl ?_
            rw [HR.out, HFIN.out]
            exact ⟨A, C, rfl, fun f a b => by have h1 := HSV.out f a b hb8; unfold UnitD.row at h1 ⊢; exact h1, (HXW.out.but_ext HBT.out (by omega)).but_ext hb8 (Nat.le_refl _)⟩
          · have hrb : decide (v.retry < 0) = false := decide_eq_false hr0
            have HFIN : Hid (parseU s = (v, 0, 0)) := Lib.hid (by rw [HLIN.out]; unfold endU; simp only; rw [if_neg HNE.out, if_neg hr0])
            go_upto_region 20 with fail
            clear d0 d1 d7
            have c0 := blk_cell h5 0 _ rfl
            have c1 := blk_cell h5 1 _ rfl
            have c2 := blk_cell h5 2 _ rfl
            have c3 := blk_cell h5 3 _ rfl
            have c4 := blk_cell h5 4 _ rfl
            have c5 := blk_cell h5 5 _ rfl
            have c6 := blk_cell h5 6 _ rfl
            have c7 := blk_cell h5 7 _ rfl
            have y0 := blk_cell hr5 0 _ rfl
            have y1 := blk_cell hr5 1 _ rfl
            have y2 := blk_cell hr5 2 _ rfl
            have y3 := blk_cell hr5 3 _ rfl
            have y4 := blk_cell hr5 4 _ rfl
            have y5 := blk_cell hr5 5 _ rfl
            have y6 := blk_cell hr5 6 _ rfl
            have y7 := blk_cell hr5 7 _ rfl
            have f0 := blk_free hr5 0
            have f1 := blk_free hr5 1
            have f2 := blk_free hr5 2
            have f3 := blk_free hr5 3
            have f4 := blk_free hr5 4
            have f5 := blk_free hr5 5
            have f6 := blk_free hr5 6
            have f7 := blk_free hr5 7
            have Hr5 := Lib.hid hr5; clear hr5
            have H5 := Lib.hid h5; clear h5
            have HSV : Hid (∀ f, 1 ≤ f → f ≤ 6 → ∀ {X : World}, But w.heap.size wr X → Strs X (A f) (v.row f)) := Lib.hid (fun f h1 h6 {X} q => (hur.out.1 f h1 h6).but q (fun g off h => by have := hur.out.2 f g off h; omega))
            go_wp2_with fail
            have hs8 := set8 Hr5.out (.string (bs v.name)) (.slice (A 1) v.files.length (C 1)) (.slice (A 2) v.after.length (C 2)) (.slice (A 3) v.before.length (C 3)) (.slice (A 4) v.reqs.length (C 4)) (.slice (A 5) v.wants.length (C 5)) (.slice (A 6) v.partof.length (C 6)) (.int .i64 v.retry)
            obtain ⟨hs8, hb8⟩ := hs8
            generalize (((((((wr.setCell ⟨w.heap.size, 0, none⟩ (.string (bs v.name))).setCell ⟨w.heap.size, 1, none⟩ (.slice (A 1) v.files.length (C 1))).setCell ⟨w.heap.size, 2, none⟩ (.slice (A 2) v.after.length (C 2))).setCell ⟨w.heap.size, 3, none⟩ (.slice (A 3) v.before.length (C 3))).setCell ⟨w.heap.size, 4, none⟩ (.slice (A 4) v.reqs.length (C 4))).setCell ⟨w.heap.size, 5, none⟩ (.slice (A 5) v.wants.length (C 5))).setCell ⟨w.heap.size, 6, none⟩ (.slice (A 6) v.partof.length (C 6))).setCell ⟨w.heap.size, 7, none⟩ (.int .i64 v.retry) = wf at hs8 hb8 ⊢
            have z0 := blk_cell hs8 0 _ rfl
            have z1 := blk_cell hs8 1 _ rfl
            have z2 := blk_cell hs8 2 _ rfl
            have z3 := blk_cell hs8 3 _ rfl
            have z4 := blk_cell hs8 4 _ rfl
            have z5 := blk_cell hs8 5 _ rfl
            have z6 := blk_cell hs8 6 _ rfl
            have z7 := blk_cell hs8 7 _ rfl
            refine bodyPost_ret (v := .tuple #[.agg #[.string (bs v.name), .slice (A 1) v.files.length (C 1), .slice (A 2) v.after.length (C 2), .slice (A 3) v.before.length (C 3), .slice (A 4) v.reqs.length (C 4), .slice (A 5) v.wants.length (C 5), .slice (A 6) v.partof.length (C 6), .int .i64 v.retry], .int .i64 0, .int .i64 0]) (by simp [results, Tryd.results39, go_sem, z0, z1, z2, z3, z4, z5, z6, z7]) rfl ?_
            rw [HR.out, HFIN.out]
            exact ⟨A, C, rfl, fun f a b => HSV.out f a b hb8, HXW.out.but_ext hb8 (Nat.le_refl _)⟩
end Go.Proofs.YtedfpoidggpkdaaDoor
