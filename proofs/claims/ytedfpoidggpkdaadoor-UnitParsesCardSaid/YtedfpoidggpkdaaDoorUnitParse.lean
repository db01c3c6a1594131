/- unit.Parse gives just what a text says. -/
import Derived.Test.YtedfpoidggpkdaaDoorUnitRetry
import Derived.Test.YtedfpoidggpkdaaDoorUnitWord
namespace Go.Proofs.YtedfpoidggpkdaaDoor
open Go.RowKit
theorem glue_lenU (c : UInt8) (L : List (List UInt8)) : L.length ≤ (glue c L).length ∧ ∀ p ∈ L, p.length ≤ (glue c L).length := by
  induction L with
  | nil => simp [glue]
  | cons q L ih =>
    rw [glue_cons]
    refine ⟨by simp; omega, ?_⟩
    intro p hp
    rcases List.mem_cons.1 hp with rfl | hp
    · simp; omega
    · have := ih.2 p hp; simp; omega
theorem splitOn_lenU (c : UInt8) (l : List UInt8) : (splitOn c l).length ≤ l.length + 1 ∧ ∀ p ∈ splitOn c l, p.length ≤ l.length + 1 := by
  have h := glue_lenU c (splitOn c l)
  rw [glue_splitOn] at h
  simpa using h
theorem getD_memU {L : List (List UInt8)} {i : Nat} (h : i < L.length) : L.getD i [] ∈ L := by
  rw [List.getD_eq_getElem?_getD, List.getElem?_eq_getElem h]; simp
theorem drop_U {L : List Bs} {k : Nat} (h : k < L.length) : L.drop k = L.getD k [] :: L.drop (k + 1) := by
  rw [List.getD_eq_getElem?_getD, List.getElem?_eq_getElem h, List.drop_eq_getElem_cons h]; rfl
theorem unit_line (base B : Nat) (u : UnitD) (A : Nat → Option Addr) (C : Nat → Nat) (wd r : Bs) (hwl : wd.length ≤ 1000000) (hr : r.length ≤ 1000000) (w : World) (h : UnitAt w base B u A C) (hE : EnvN w) (hp : PartU u) :
    Calls Tryd.prog 67 #[.pointer (some ⟨B, 0, none⟩), .string (bs wd), .string (bs r)] w (LineR base B (lineU u wd r) w) := by
  by_cases h1 : wd = wUnit
  · subst h1; exact line_unit base B u A C r w h
  · by_cases h2 : wd = wFile
    · subst h2; exact line_file base B u A C r w h hE.env (hp.rows 1 (by omega) (by omega)).1
    · by_cases h3 : wd = wRetry
      · subst h3; exact line_retry base B u A C r hr w h hE
      · refine line_word base B u A C wd r (by have : maxLen = 9223372036854775807 := rfl; omega) w h h1 h2 h3 ?_
        by_cases h0 : wordN wd = 0
        · rw [h0]; exact (hp.rows 6 (by omega) (by omega)).1
        · exact (hp.rows _ (by omega) (wordN_le wd)).1
theorem linesU_idle {l : Bs} {r : List Bs} {i : Nat} {u : UnitD} (h : idle l = true) : linesU (l :: r) i u = linesU r (i + 1) u := by rw [linesU, if_pos h]
theorem linesU_ok {l : Bs} {r : List Bs} {i : Nat} {u : UnitD} (h : idle l = false) (h0 : (lineU u (cutW l).1 (cutW l).2).2 = 0) : linesU (l :: r) i u = linesU r (i + 1) (lineU u (cutW l).1 (cutW l).2).1 := by rw [linesU, if_neg (by rw [h]; decide), if_pos h0]
theorem linesU_bad {l : Bs} {r : List Bs} {i : Nat} {u : UnitD} (h : idle l = false) (h0 : (lineU u (cutW l).1 (cutW l).2).2 ≠ 0) : linesU (l :: r) i u = .inr ((lineU u (cutW l).1 (cutW l).2).2, i + 1) := by rw [linesU, if_neg (by rw [h]; decide), if_neg h0]
theorem bs_first {p : Bs} (h : 0 < (bs p).size) (hc : p.head? = some 35) : ((((bs p)[0]'h).toNat : Int) == 35) = true := by
  cases p with
  | nil => cases hc
  | cons b q =>
    have : b = 35 := by simpa using hc
    subst this; rfl
theorem bs_notfirst {p : Bs} (h : 0 < (bs p).size) (hc : p.head? ≠ some 35) : ((((bs p)[0]'h).toNat : Int) == 35) = false := by
  cases p with
  | nil => exact absurd h (by decide)
  | cons b q =>
    have hb : b ≠ 35 := by simpa using hc
    have e : ((bs (b :: q))[0]'h) = b := rfl
    rw [e]
    have : b.toNat ≠ 35 := fun e => hb (UInt8.toNat_inj.1 (by rw [e]; rfl))
    simp; omega
theorem OwnS.base2 {w : World} {base b2 : Nat} {a : Option Addr} {cap : Nat} {D : List Bs} (h : OwnS w base a cap D) (hb : b2 ≤ base) : OwnS w b2 a cap D :=
  ⟨h.1, h.2.imp id (fun ⟨g, c, cur, h1, h2, h3⟩ => ⟨g, c, cur, h1, Nat.le_trans hb h2, h3⟩)⟩
/-- A unit as a value. -/
def unitV (u : UnitD) (A : Nat → Option Addr) (C : Nat → Nat) : Value := .agg #[.string (bs u.name), .slice (A 1) u.files.length (C 1), .slice (A 2) u.after.length (C 2), .slice (A 3) u.before.length (C 3), .slice (A 4) u.reqs.length (C 4), .slice (A 5) u.wants.length (C 5), .slice (A 6) u.partof.length (C 6), .int .i64 u.retry]
def ParsU (o : UnitD × Nat × Nat) (w : World) (e : Ending) (w' : World) : Prop :=
  ∃ A C, e = .returned (.tuple #[unitV o.1 A C, .int .i64 (o.2.1 : Int), .int .i64 (o.2.2 : Int)]) ∧ (∀ f, 1 ≤ f → f ≤ 6 → OwnS w' w.heap.size (A f) (C f) (o.1.row f)) ∧ Ext w w'
theorem set8 {w : World} {R : Nat} {t : TypeId} {a0 a1 a2 a3 a4 a5 a6 a7 : Value} (hg : w.heap[R]? = some (.cells #[a0, a1, a2, a3, a4, a5, a6, a7] t (0, 0))) (v0 v1 v2 v3 v4 v5 v6 v7 : Value) :
    ((((((((w.setCell ⟨R, 0, none⟩ v0).setCell ⟨R, 1, none⟩ v1).setCell ⟨R, 2, none⟩ v2).setCell ⟨R, 3, none⟩ v3).setCell ⟨R, 4, none⟩ v4).setCell ⟨R, 5, none⟩ v5).setCell ⟨R, 6, none⟩ v6).setCell ⟨R, 7, none⟩ v7).heap[R]? = some (.cells #[v0, v1, v2, v3, v4, v5, v6, v7] t (0, 0)) ∧
    But R w ((((((((w.setCell ⟨R, 0, none⟩ v0).setCell ⟨R, 1, none⟩ v1).setCell ⟨R, 2, none⟩ v2).setCell ⟨R, 3, none⟩ v3).setCell ⟨R, 4, none⟩ v4).setCell ⟨R, 5, none⟩ v5).setCell ⟨R, 6, none⟩ v6).setCell ⟨R, 7, none⟩ v7) := by
  refine ⟨?_, ((((((((But.refl R w).setCell 0 _).setCell 1 _).setCell 2 _).setCell 3 _).setCell 4 _).setCell 5 _).setCell 6 _).setCell 7 _⟩
  have h0 : _ = some (Obj.cells #[v0, a1, a2, a3, a4, a5, a6, a7] t (0, 0)) := setCell_row (i := 0) hg v0
  have h1 : _ = some (Obj.cells #[v0, v1, a2, a3, a4, a5, a6, a7] t (0, 0)) := setCell_row (i := 1) h0 v1
  have h2 : _ = some (Obj.cells #[v0, v1, v2, a3, a4, a5, a6, a7] t (0, 0)) := setCell_row (i := 2) h1 v2
  have h3 : _ = some (Obj.cells #[v0, v1, v2, v3, a4, a5, a6, a7] t (0, 0)) := setCell_row (i := 3) h2 v3
  have h4 : _ = some (Obj.cells #[v0, v1, v2, v3, v4, a5, a6, a7] t (0, 0)) := setCell_row (i := 4) h3 v4
  have h5 : _ = some (Obj.cells #[v0, v1, v2, v3, v4, v5, a6, a7] t (0, 0)) := setCell_row (i := 5) h4 v5
  have h6 : _ = some (Obj.cells #[v0, v1, v2, v3, v4, v5, v6, a7] t (0, 0)) := setCell_row (i := 6) h5 v6
  have h7 : _ = some (Obj.cells #[v0, v1, v2, v3, v4, v5, v6, v7] t (0, 0)) := setCell_row (i := 7) h6 v7
  exact h7
theorem split_10 (s : Bs) (hs : s.length ≤ 1000000) (w : World) (hE : EnvN w) :
    Calls Tryd.prog 45 #[.string (bs s), .string ⟨#[10]⟩] w fun e w' => e = .returned (.slice (some ⟨w.heap.size, 0, none⟩) (splitOn 10 s).length (splitOn 10 s).length) ∧
      Strs w' (some ⟨w.heap.size, 0, none⟩) (splitOn 10 s) ∧ Ext w w' ∧ w'.heap.size = w.heap.size + 1 := by
  have h := Tryd.strings_Split_shaped (bs s) (bs [10]) w hE.env.shaped (by rw [bs_size]; omega) (by rw [bs_size]; simp)
  rw [splitB_on, countB_on, bs_data] at h
  refine h.mono ?_
  rintro e w' ⟨rfl, rfl⟩
  exact ⟨rfl, Strs.made _ _ _, Ext.alloc _ _, by rw [World.size_alloc]⟩
theorem cut_32 (s : Bs) (hs : s.length ≤ 1000000) (w : World) (hE : EnvN w) :
    Calls Tryd.prog 66 #[.string (bs s), .string ⟨#[32]⟩] w fun e w' => ∃ m, e = .returned (.tuple #[.string (bs (cutW s).1), .string (bs (cutW s).2), .bool m]) ∧ Ext w w' := by
  refine (Tryd.strings_Cut_shaped (bs s) ⟨#[32]⟩ w hE.env.shaped (by rw [bs_size]; omega)).mono ?_
  rintro e w' ⟨rfl, n, rfl⟩
  exact ⟨_, rfl, (Ext.refl _).drewN n⟩
theorem cutW_len (s : Bs) : (cutW s).1.length ≤ s.length ∧ (cutW s).2.length ≤ s.length := by
  unfold cutW
  by_cases hm : 32 ∈ s
  · obtain ⟨x, y, rfl, hx⟩ := split_mem hm
    rw [cut_some y hx]
    simp; omega
  · rw [cut_none hm]; simp
set_option maxRecDepth 100000 in
set_option maxHeartbeats 3200000 in
theorem unit_parse (s : Bs) (hs : s.length ≤ 900000) (w : World) (hE : EnvN w) :
    Calls Tryd.prog 38 #[.string (bs s)] w (ParsU (parseU s) w) := by
  obtain ⟨R, hR⟩ : ∃ R, R = ParsU (parseU s) w := ⟨_, rfl⟩
  rw [← hR]
  have HR := Lib.hid hR; clear hR
  go_enter Tryd.func38, Tryd.ntmps38
  go_wp2_with fail
  refine (split_10 s (by omega) _ (hE.ext ((Ext.alloc _ _).trans (Ext.alloc _ _)))).mono ?_
  rintro e w2 ⟨rfl, hS, hx2, hz2⟩
  have hx0 : Ext w w2 := ((Ext.alloc _ _).trans (Ext.alloc _ _)).trans hx2
  have hBR := hx2.heap ((Ext.alloc _ _).heap (heap_alloc_new w (.cells #[.string ⟨#[]⟩, .slice none 0 0, .slice none 0 0, .slice none 0 0, .slice none 0 0, .slice none 0 0, .slice none 0 0, .int .i64 0] 56)))
  have hB := hx2.heap (heap_alloc_new (w.alloc (.cells #[.string ⟨#[]⟩, .slice none 0 0, .slice none 0 0, .slice none 0 0, .slice none 0 0, .slice none 0 0, .slice none 0 0, .int .i64 0] 56)) _)
  simp only [World.size_alloc] at hS hz2 hB
  have hE2 := Lib.hid (hE.ext hx0)
  have hL1 := (splitOn_lenU 10 s).1
  have hLp := (splitOn_lenU 10 s).2
  have hpr : parseU s = endU (linesU (splitOn 10 s) 0 u0) := rfl
  generalize hL : splitOn 10 s = L at *
  have HPR := Lib.hid hpr; clear hpr hL
  have HS := Lib.hid hS; clear hS
  have HLp := Lib.hid hLp; clear hLp
  have HBR := Lib.hid hBR; clear hBR
  have HU : Hid (UnitAt w2 w2.heap.size (w.heap.size + 1) u0 (fun _ => none) (fun _ => 0)) := Lib.hid ⟨hB, fun f h1 h6 => by
    have : u0.row f = [] := by unfold UnitD.row u0; split <;> rfl
    rw [this]; exact OwnS.nil _ _, fun f g _ _ _ _ _ x hx => by simp [blkOf] at hx, by omega, Nat.le_refl _⟩
  clear hB
  have HX0 := Lib.hid hx0; clear hx0 hx2
  go_wp2_with fail
  go_loopw [16] (fun i wr => ∃ (k : Nat) (u : UnitD) (A : Nat → Option Addr) (C : Nat → Nat), i = .int .i64 k ∧ k ≤ L.length ∧ Hid (UnitAt wr w2.heap.size (w.heap.size + 1) u A C) ∧ Hid (linesU L 0 u0 = linesU (L.drop k) k u) ∧ Hid (PartU u) ∧ Hid (Keep (fun x => x < w2.heap.size ∧ x ≠ w.heap.size + 1) w2 wr)) (fun i _ => L.length - (intOf i).toNat)
  case atStart => exact ⟨0, u0, fun _ => none, fun _ => 0, rfl, Nat.zero_le _, HU, Lib.hid rfl, Lib.hid partU_0, Lib.hid (Keep.refl _ _)⟩
  case round =>
    obtain ⟨k, u, A, C, rfl, hk, hU, hrd, hpart, hkp⟩ := hrel
    have hsz := hkp.out.size
    by_cases hlt : k < L.length
    · have hcell := hkp.out.cell (by refine ⟨?_, ?_⟩ <;> omega) (HS.out.at0 k hlt)
      have hdrop := drop_U hlt
      obtain ⟨p, hp⟩ : ∃ p, p = L.getD k [] := ⟨_, rfl⟩
      rw [← hp] at hcell hdrop
      have hpl : p.length ≤ 1000000 := by have := HLp.out p (by rw [hp]; exact getD_memU hlt); omega
      clear hp
      have HDR := Lib.hid hdrop; clear hdrop
      by_cases hi0 : p = []
      · have he : (bs p).toList.isEmpty = true := by rw [bs_toList, hi0]; rfl
        have HI := Lib.hid hi0; clear hi0
        go_wp2_with fail
        go_roundw
        case rel => exact ⟨k + 1, u, A, C, by go_num, by omega, hU, Lib.hid (by rw [hrd.out, HDR.out]; exact linesU_idle (by simp [idle, HI.out])), hpart, hkp⟩
        case measure => simp [intOf]; omega
      · have he : (bs p).toList.isEmpty = false := by rw [bs_toList]; simpa using hi0
        have hpz : 0 < (bs p).size := by rw [bs_size]; exact List.length_pos_iff.2 hi0
        have HI := Lib.hid hi0; clear hi0
        by_cases h35 : p.head? = some 35
        · have hb := bs_first hpz h35
          have H35 := Lib.hid h35; clear h35
          go_wp2_with fail
          go_roundw
          case rel => exact ⟨k + 1, u, A, C, by go_num, by omega, hU, Lib.hid (by rw [hrd.out, HDR.out]; exact linesU_idle (by simp [idle, H35.out])), hpart, hkp⟩
          case measure => simp [intOf]; omega
        · have hb := bs_notfirst hpz h35
          have hidle : idle p = false := by unfold idle; exact decide_eq_false (by intro h; rcases h with h | h; exact HI.out h; exact h35 h)
          have HID := Lib.hid hidle; clear h35 hidle
          obtain ⟨v, n, ho⟩ : ∃ v n, lineU u (cutW p).1 (cutW p).2 = (v, n) := ⟨_, _, rfl⟩
          have hExt : Ext w wr := ((Keep.of_ext (S := (· < w.heap.size)) HX0.out).trans (hkp.out.mono (fun x _ hx => by have : x < w.heap.size := hx; exact ⟨by omega, by omega⟩))).ext_lt
          have hcut := cut_32 p hpl wr (hE.ext hExt)
          have hcl := cutW_len p
          have hline := fun W hW hEW => unit_line w2.heap.size (w.heap.size + 1) u A C (cutW p).1 (cutW p).2 (by omega) (by omega) W hW hEW hpart.out
          rw [ho] at hline
          have HLI := Lib.hid hline; clear hline hcl
          have hok : n = 0 → linesU (p :: L.drop (k + 1)) k u = linesU (L.drop (k + 1)) (k + 1) v := fun h => by rw [linesU_ok HID.out (by rw [ho]; exact h), ho]
          have hbad : n ≠ 0 → linesU (p :: L.drop (k + 1)) k u = .inr (n, k + 1) := fun h => by rw [linesU_bad HID.out (by rw [ho]; exact h), ho]
          have HOK := Lib.hid hok; clear hok
          have HBAD := Lib.hid hbad; clear hbad
          have HCU := Lib.hid hcut; clear hcut
          have HEX := Lib.hid hExt; clear hExt
          have HO := Lib.hid ho; clear ho
          generalize cutW p = cw at *
          by_cases h0 : n = 0
          · have HOK2 := Lib.hid (HOK.out h0)
            subst h0
            clear HOK HBAD
            go_wp2_with (first
              | (go_at_call 66; refine HCU.out.mono ?_; rintro e w3 ⟨m, rfl, hx3⟩)
              | (go_at_call 67; refine (HLI.out _ (hU.out.ext hx3) (hE.ext (HEX.out.trans hx3))).mono ?_; rintro e w4 ⟨A', C', rfl, hU4, hk4⟩; have hU4 := Lib.hid hU4; have hk4 := Lib.hid hk4))
            go_roundw
            case rel => exact ⟨k + 1, v, A', C', by go_num, by omega, hU4, Lib.hid (by rw [hrd.out, HDR.out, HOK2.out]), Lib.hid (lineU_part hpart.out HO.out), Lib.hid (hkp.out.trans ((Keep.of_ext hx3).trans hk4.out))⟩
            case measure => simp [intOf]; omega
          · have HN0 := Lib.hid h0
            go_wp2_with (first
              | (go_at_call 66; refine HCU.out.mono ?_; rintro e w3 ⟨m, rfl, hx3⟩)
              | (go_at_call 67; refine (HLI.out _ (hU.out.ext hx3) (hE.ext (HEX.out.trans hx3))).mono ?_; rintro e w4 ⟨A', C', rfl, hU4, hk4⟩; have hk5 := hkp.out.trans ((Keep.of_ext hx3).trans hk4); have hb4 := hk5.heap (g := w.heap.size) (by refine ⟨?_, ?_⟩ <;> omega) HBR.out; have b0 := blk_cell hb4 0 _ rfl; have f0 := blk_free hb4 0; have b1 := blk_cell hb4 1 _ rfl; have f1 := blk_free hb4 1; have b2 := blk_cell hb4 2 _ rfl; have f2 := blk_free hb4 2; have b3 := blk_cell hb4 3 _ rfl; have f3 := blk_free hb4 3; have b4 := blk_cell hb4 4 _ rfl; have f4 := blk_free hb4 4; have b5 := blk_cell hb4 5 _ rfl; have f5 := blk_free hb4 5; have b6 := blk_cell hb4 6 _ rfl; have f6 := blk_free hb4 6; have b7 := blk_cell hb4 7 _ rfl; have f7 := blk_free hb4 7; have hb4 := Lib.hid hb4; have hk5 := Lib.hid hk5; clear hU4 hk4))
            have hs8 := set8 hb4.out (.string ⟨#[]⟩) (.slice none 0 0) (.slice none 0 0) (.slice none 0 0) (.slice none 0 0) (.slice none 0 0) (.slice none 0 0) (.int .i64 0)
            obtain ⟨hs8, hbut⟩ := hs8
            generalize ((((((((w4.setCell ⟨w.heap.size, 0, none⟩ (.string ⟨#[]⟩)).setCell ⟨w.heap.size, 1, none⟩ (.slice none 0 0)).setCell ⟨w.heap.size, 2, none⟩ (.slice none 0 0)).setCell ⟨w.heap.size, 3, none⟩ (.slice none 0 0)).setCell ⟨w.heap.size, 4, none⟩ (.slice none 0 0)).setCell ⟨w.heap.size, 5, none⟩ (.slice none 0 0)).setCell ⟨w.heap.size, 6, none⟩ (.slice none 0 0)).setCell ⟨w.heap.size, 7, none⟩ (.int .i64 0)) = wf at hs8 hbut ⊢
            have z0 := blk_cell hs8 0 _ rfl
            have z1 := blk_cell hs8 1 _ rfl
            have z2 := blk_cell hs8 2 _ rfl
            have z3 := blk_cell hs8 3 _ rfl
            have z4 := blk_cell hs8 4 _ rfl
            have z5 := blk_cell hs8 5 _ rfl
            have z6 := blk_cell hs8 6 _ rfl
            have z7 := blk_cell hs8 7 _ rfl
            refine bodyPost_ret (v := .tuple #[.agg #[.string ⟨#[]⟩, .slice none 0 0, .slice none 0 0, .slice none 0 0, .slice none 0 0, .slice none 0 0, .slice none 0 0, .int .i64 0], .int .i64 (n : Int), .int .i64 ((k : Int) + 1)]) (by simp [results, Tryd.results38, go_sem, z0, z1, z2, z3, z4, z5, z6, z7]) rfl ?_
            rw [HR.out]
            have hp : parseU s = (uz, n, k + 1) := by rw [HPR.out, hrd.out, HDR.out, HBAD.out HN0.out]; rfl
            unfold ParsU
            rw [hp]
            refine ⟨fun _ => none, fun _ => 0, rfl, ?_, ?_⟩
            · intro f h1 h6
              have : uz.row f = [] := by unfold UnitD.row uz; split <;> rfl
              rw [this]; exact OwnS.nil _ _
            · exact ((Keep.of_ext (S := (· < w.heap.size)) HX0.out).trans ((hk5.out.mono (fun x _ hx => by have : x < w.heap.size := hx; exact ⟨by omega, by omega⟩)).trans ((Keep.of_but hbut).mono (fun k _ hk => by show k ≠ w.heap.size; have : k < w.heap.size := hk; omega)))).ext_lt
    · have hkk : k = L.length := by omega
      have hin : linesU L 0 u0 = .inl u := by rw [hrd.out, hkk, List.drop_length]; rfl
      have hpe : parseU s = endU (.inl u) := by rw [HPR.out, hin]
      have HPE := Lib.hid hpe; clear hin hpe hkk
      have hb4 := hkp.out.heap (g := w.heap.size) (by refine ⟨?_, ?_⟩ <;> omega) HBR.out
      have hd := hU.out.blk
      have gd := blk_free hd 7
      have b0 := blk_cell hb4 0 _ rfl
      have f0 := blk_free hb4 0
      have d0 := blk_cell hd 0 _ rfl
      have b1 := blk_cell hb4 1 _ rfl
      have f1 := blk_free hb4 1
      have d1 := blk_cell hd 1 _ rfl
      have b2 := blk_cell hb4 2 _ rfl
      have f2 := blk_free hb4 2
      have d2 := blk_cell hd 2 _ rfl
      have b3 := blk_cell hb4 3 _ rfl
      have f3 := blk_free hb4 3
      have d3 := blk_cell hd 3 _ rfl
      have b4 := blk_cell hb4 4 _ rfl
      have f4 := blk_free hb4 4
      have d4 := blk_cell hd 4 _ rfl
      have b5 := blk_cell hb4 5 _ rfl
      have f5 := blk_free hb4 5
      have d5 := blk_cell hd 5 _ rfl
      have b6 := blk_cell hb4 6 _ rfl
      have f6 := blk_free hb4 6
      have d6 := blk_cell hd 6 _ rfl
      have b7 := blk_cell hb4 7 _ rfl
      have f7 := blk_free hb4 7
      have d7 := blk_cell hd 7 _ rfl
      have HB4 := Lib.hid hb4; clear hb4
      have HD := Lib.hid hd; clear hd
      by_cases hn : u.name = []
      · have he : (bs u.name).toList.isEmpty = true := by rw [bs_toList, hn]; rfl
        have HN := Lib.hid hn; clear hn
        go_wp2_with fail
        have hs8 := set8 HB4.out (.string ⟨#[]⟩) (.slice none 0 0) (.slice none 0 0) (.slice none 0 0) (.slice none 0 0) (.slice none 0 0) (.slice none 0 0) (.int .i64 0)
        obtain ⟨hs8, hbut⟩ := hs8
        generalize ((((((((wr.setCell ⟨w.heap.size, 0, none⟩ (.string ⟨#[]⟩)).setCell ⟨w.heap.size, 1, none⟩ (.slice none 0 0)).setCell ⟨w.heap.size, 2, none⟩ (.slice none 0 0)).setCell ⟨w.heap.size, 3, none⟩ (.slice none 0 0)).setCell ⟨w.heap.size, 4, none⟩ (.slice none 0 0)).setCell ⟨w.heap.size, 5, none⟩ (.slice none 0 0)).setCell ⟨w.heap.size, 6, none⟩ (.slice none 0 0)).setCell ⟨w.heap.size, 7, none⟩ (.int .i64 0)) = wf at hs8 hbut ⊢
        have z0 := blk_cell hs8 0 _ rfl
        have z1 := blk_cell hs8 1 _ rfl
        have z2 := blk_cell hs8 2 _ rfl
        have z3 := blk_cell hs8 3 _ rfl
        have z4 := blk_cell hs8 4 _ rfl
        have z5 := blk_cell hs8 5 _ rfl
        have z6 := blk_cell hs8 6 _ rfl
        have z7 := blk_cell hs8 7 _ rfl
        refine bodyPost_ret (v := .tuple #[.agg #[.string ⟨#[]⟩, .slice none 0 0, .slice none 0 0, .slice none 0 0, .slice none 0 0, .slice none 0 0, .slice none 0 0, .int .i64 0], .int .i64 8, .int .i64 0]) (by simp [results, Tryd.results38, go_sem, z0, z1, z2, z3, z4, z5, z6, z7]) rfl ?_
        rw [HR.out]
        have hp : parseU s = (uz, 8, 0) := by rw [HPE.out]; unfold endU; simp only; rw [if_pos (Or.inl HN.out)]
        unfold ParsU
        rw [hp]
        refine ⟨fun _ => none, fun _ => 0, rfl, ?_, ?_⟩
        · intro f h1 h6
          have : uz.row f = [] := by unfold UnitD.row uz; split <;> rfl
          rw [this]; exact OwnS.nil _ _
        · exact ((Keep.of_ext (S := (· < w.heap.size)) HX0.out).trans ((hkp.out.mono (fun x _ hx => by have : x < w.heap.size := hx; exact ⟨by omega, by omega⟩)).trans ((Keep.of_but hbut).mono (fun k _ hk => by show k ≠ w.heap.size; have : k < w.heap.size := hk; omega)))).ext_lt
      · have he : (bs u.name).toList.isEmpty = false := by rw [bs_toList]; simpa using hn
        have HN := Lib.hid hn; clear hn
        by_cases hf : u.files = []
        · have hfl : u.files.length = 0 := by rw [hf]; rfl
          have HF := Lib.hid hf; clear hf
          go_wp2_with fail
          have hs8 := set8 HB4.out (.string ⟨#[]⟩) (.slice none 0 0) (.slice none 0 0) (.slice none 0 0) (.slice none 0 0) (.slice none 0 0) (.slice none 0 0) (.int .i64 0)
          obtain ⟨hs8, hbut⟩ := hs8
          generalize ((((((((wr.setCell ⟨w.heap.size, 0, none⟩ (.string ⟨#[]⟩)).setCell ⟨w.heap.size, 1, none⟩ (.slice none 0 0)).setCell ⟨w.heap.size, 2, none⟩ (.slice none 0 0)).setCell ⟨w.heap.size, 3, none⟩ (.slice none 0 0)).setCell ⟨w.heap.size, 4, none⟩ (.slice none 0 0)).setCell ⟨w.heap.size, 5, none⟩ (.slice none 0 0)).setCell ⟨w.heap.size, 6, none⟩ (.slice none 0 0)).setCell ⟨w.heap.size, 7, none⟩ (.int .i64 0)) = wf at hs8 hbut ⊢
          have z0 := blk_cell hs8 0 _ rfl
          have z1 := blk_cell hs8 1 _ rfl
          have z2 := blk_cell hs8 2 _ rfl
          have z3 := blk_cell hs8 3 _ rfl
          have z4 := blk_cell hs8 4 _ rfl
          have z5 := blk_cell hs8 5 _ rfl
          have z6 := blk_cell hs8 6 _ rfl
          have z7 := blk_cell hs8 7 _ rfl
          refine bodyPost_ret (v := .tuple #[.agg #[.string ⟨#[]⟩, .slice none 0 0, .slice none 0 0, .slice none 0 0, .slice none 0 0, .slice none 0 0, .slice none 0 0, .int .i64 0], .int .i64 8, .int .i64 0]) (by simp [results, Tryd.results38, go_sem, z0, z1, z2, z3, z4, z5, z6, z7]) rfl ?_
          rw [HR.out]
          have hp : parseU s = (uz, 8, 0) := by rw [HPE.out]; unfold endU; simp only; rw [if_pos (Or.inr HF.out)]
          unfold ParsU
          rw [hp]
          refine ⟨fun _ => none, fun _ => 0, rfl, ?_, ?_⟩
          · intro f h1 h6
            have : uz.row f = [] := by unfold UnitD.row uz; split <;> rfl
            rw [this]; exact OwnS.nil _ _
          · exact ((Keep.of_ext (S := (· < w.heap.size)) HX0.out).trans ((hkp.out.mono (fun x _ hx => by have : x < w.heap.size := hx; exact ⟨by omega, by omega⟩)).trans ((Keep.of_but hbut).mono (fun k _ hk => by show k ≠ w.heap.size; have : k < w.heap.size := hk; omega)))).ext_lt
        · have hfl : 0 < u.files.length := List.length_pos_iff.2 hf
          have HF := Lib.hid hf; clear hf
          by_cases hr : u.retry < 0
          · go_wp2_with fail
            have kS : Keep (· ≠ w.heap.size + 1) wr (wr.setCell ⟨w.heap.size + 1, 7, none⟩ (.int .i64 0)) := Keep.setCell (Keep.refl _ _) (fun k hk => hk) _ _
            have HB5 := kS.heap (g := w.heap.size) (by show w.heap.size ≠ w.heap.size + 1; omega) HB4.out
            have hs8 := set8 HB5 (.string (bs u.name)) (.slice (A 1) u.files.length (C 1)) (.slice (A 2) u.after.length (C 2)) (.slice (A 3) u.before.length (C 3)) (.slice (A 4) u.reqs.length (C 4)) (.slice (A 5) u.wants.length (C 5)) (.slice (A 6) u.partof.length (C 6)) (.int .i64 0)
            obtain ⟨hs8, hbut⟩ := hs8
            generalize (((((((((wr.setCell ⟨w.heap.size + 1, 7, none⟩ (.int .i64 0)).setCell ⟨w.heap.size, 0, none⟩ (.string (bs u.name))).setCell ⟨w.heap.size, 1, none⟩ (.slice (A 1) u.files.length (C 1))).setCell ⟨w.heap.size, 2, none⟩ (.slice (A 2) u.after.length (C 2))).setCell ⟨w.heap.size, 3, none⟩ (.slice (A 3) u.before.length (C 3))).setCell ⟨w.heap.size, 4, none⟩ (.slice (A 4) u.reqs.length (C 4))).setCell ⟨w.heap.size, 5, none⟩ (.slice (A 5) u.wants.length (C 5))).setCell ⟨w.heap.size, 6, none⟩ (.slice (A 6) u.partof.length (C 6))).setCell ⟨w.heap.size, 7, none⟩ (.int .i64 0)) = wf at hs8 hbut ⊢
            have z0 := blk_cell hs8 0 _ rfl
            have z1 := blk_cell hs8 1 _ rfl
            have z2 := blk_cell hs8 2 _ rfl
            have z3 := blk_cell hs8 3 _ rfl
            have z4 := blk_cell hs8 4 _ rfl
            have z5 := blk_cell hs8 5 _ rfl
            have z6 := blk_cell hs8 6 _ rfl
            have z7 := blk_cell hs8 7 _ rfl
            refine bodyPost_ret (v := .tuple #[.agg #[.string (bs u.name), .slice (A 1) u.files.length (C 1), .slice (A 2) u.after.length (C 2), .slice (A 3) u.before.length (C 3), .slice (A 4) u.reqs.length (C 4), .slice (A 5) u.wants.length (C 5), .slice (A 6) u.partof.length (C 6), .int .i64 0], .int .i64 0, .int .i64 0]) (by simp [results, Tryd.results38, go_sem, z0, z1, z2, z3, z4, z5, z6, z7]) rfl ?_
            rw [HR.out]
            have hp : parseU s = ({ u with retry := 0 }, 0, 0) := by rw [HPE.out]; unfold endU; simp only; rw [if_neg (by intro h; rcases h with h | h; exact HN.out h; exact HF.out h), if_pos hr]
            unfold ParsU
            rw [hp]
            refine ⟨A, C, rfl, fun f h1 h6 => ?_, ?_⟩
            · have e : ({ u with retry := 0 } : UnitD).row f = u.row f := by unfold UnitD.row; split <;> rfl
              rw [e]
              exact OwnS.base2 (ownsRow_keep (ownsRow_keep (hU.out.rows f h1 h6) kS (fun g _ _ hb _ => by show g ≠ w.heap.size + 1; omega)) (Keep.of_but hbut) (fun g _ _ hb _ => by show g ≠ w.heap.size; omega)) (by omega)
            · exact ((Keep.of_ext (S := (· < w.heap.size)) HX0.out).trans ((hkp.out.mono (fun x _ hx => by have : x < w.heap.size := hx; exact ⟨by omega, by omega⟩)).trans ((kS.mono (fun x _ hx => by have : x < w.heap.size := hx; show x ≠ w.heap.size + 1; omega)).trans ((Keep.of_but hbut).mono (fun k _ hk => by show k ≠ w.heap.size; have : k < w.heap.size := hk; omega))))).ext_lt
          · go_wp2_with fail
            have hs8 := set8 HB4.out (.string (bs u.name)) (.slice (A 1) u.files.length (C 1)) (.slice (A 2) u.after.length (C 2)) (.slice (A 3) u.before.length (C 3)) (.slice (A 4) u.reqs.length (C 4)) (.slice (A 5) u.wants.length (C 5)) (.slice (A 6) u.partof.length (C 6)) (.int .i64 u.retry)
            obtain ⟨hs8, hbut⟩ := hs8
            generalize ((((((((wr.setCell ⟨w.heap.size, 0, none⟩ (.string (bs u.name))).setCell ⟨w.heap.size, 1, none⟩ (.slice (A 1) u.files.length (C 1))).setCell ⟨w.heap.size, 2, none⟩ (.slice (A 2) u.after.length (C 2))).setCell ⟨w.heap.size, 3, none⟩ (.slice (A 3) u.before.length (C 3))).setCell ⟨w.heap.size, 4, none⟩ (.slice (A 4) u.reqs.length (C 4))).setCell ⟨w.heap.size, 5, none⟩ (.slice (A 5) u.wants.length (C 5))).setCell ⟨w.heap.size, 6, none⟩ (.slice (A 6) u.partof.length (C 6))).setCell ⟨w.heap.size, 7, none⟩ (.int .i64 u.retry)) = wf at hs8 hbut ⊢
            have z0 := blk_cell hs8 0 _ rfl
            have z1 := blk_cell hs8 1 _ rfl
            have z2 := blk_cell hs8 2 _ rfl
            have z3 := blk_cell hs8 3 _ rfl
            have z4 := blk_cell hs8 4 _ rfl
            have z5 := blk_cell hs8 5 _ rfl
            have z6 := blk_cell hs8 6 _ rfl
            have z7 := blk_cell hs8 7 _ rfl
            refine bodyPost_ret (v := .tuple #[.agg #[.string (bs u.name), .slice (A 1) u.files.length (C 1), .slice (A 2) u.after.length (C 2), .slice (A 3) u.before.length (C 3), .slice (A 4) u.reqs.length (C 4), .slice (A 5) u.wants.length (C 5), .slice (A 6) u.partof.length (C 6), .int .i64 u.retry], .int .i64 0, .int .i64 0]) (by simp [results, Tryd.results38, go_sem, z0, z1, z2, z3, z4, z5, z6, z7]) rfl ?_
            rw [HR.out]
            have hp : parseU s = (u, 0, 0) := by rw [HPE.out]; unfold endU; simp only; rw [if_neg (by intro h; rcases h with h | h; exact HN.out h; exact HF.out h), if_neg (by omega)]
            unfold ParsU
            rw [hp]
            refine ⟨A, C, rfl, fun f h1 h6 => ?_, ?_⟩
            · exact OwnS.base2 (ownsRow_keep (hU.out.rows f h1 h6) (Keep.of_but hbut) (fun g _ _ hb _ => by show g ≠ w.heap.size; omega)) (by omega)
            · exact ((Keep.of_ext (S := (· < w.heap.size)) HX0.out).trans ((hkp.out.mono (fun x _ hx => by have : x < w.heap.size := hx; exact ⟨by omega, by omega⟩)).trans ((Keep.of_but hbut).mono (fun k _ hk => by show k ≠ w.heap.size; have : k < w.heap.size := hk; omega)))).ext_lt
end Go.Proofs.YtedfpoidggpkdaaDoor
