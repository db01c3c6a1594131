/- unit.Text says a unit. -/
import Derived.Test.YtedfpoidggpkdaaDoorUnitParse
import Derived.Test.YtedfpoidggpkdaaDoorBuild
namespace Go.Proofs.YtedfpoidggpkdaaDoor
open Go.RowKit
/-- A list's lines. -/
def rowsT (f : Nat) (L : List Bs) : Bs := L.flatMap fun s => lineT (wordOf f) s
/-- What a unit's text says from this list on. -/
def tlU (u : UnitD) : Nat → Bs
  | 1 => rowsT 1 u.files ++ (rowsT 2 u.after ++ (rowsT 3 u.before ++ (rowsT 4 u.reqs ++ (rowsT 5 u.wants ++ (rowsT 6 u.partof ++ lineT wRetry (Lib.itoa u.retry))))))
  | 2 => rowsT 2 u.after ++ (rowsT 3 u.before ++ (rowsT 4 u.reqs ++ (rowsT 5 u.wants ++ (rowsT 6 u.partof ++ lineT wRetry (Lib.itoa u.retry)))))
  | 3 => rowsT 3 u.before ++ (rowsT 4 u.reqs ++ (rowsT 5 u.wants ++ (rowsT 6 u.partof ++ lineT wRetry (Lib.itoa u.retry))))
  | 4 => rowsT 4 u.reqs ++ (rowsT 5 u.wants ++ (rowsT 6 u.partof ++ lineT wRetry (Lib.itoa u.retry)))
  | 5 => rowsT 5 u.wants ++ (rowsT 6 u.partof ++ lineT wRetry (Lib.itoa u.retry))
  | 6 => rowsT 6 u.partof ++ lineT wRetry (Lib.itoa u.retry)
  | _ => lineT wRetry (Lib.itoa u.retry)
theorem tlU_step (u : UnitD) (f : Nat) (h1 : 1 ≤ f) (h6 : f ≤ 6) : tlU u f = rowsT f (u.row f) ++ tlU u (f + 1) := by
  have hf : f = 1 ∨ f = 2 ∨ f = 3 ∨ f = 4 ∨ f = 5 ∨ f = 6 := by omega
  rcases hf with rfl | rfl | rfl | rfl | rfl | rfl <;> rfl
theorem rowsT_eq (f : Nat) (L : List Bs) : (L.map fun s => (wordOf f, s)).flatMap (fun p => lineT p.1 p.2) = rowsT f L := by
  unfold rowsT; rw [List.flatMap_map]
theorem textU_eq (u : UnitD) : textU u = lineT wUnit u.name ++ tlU u 1 := by
  have e1 : (u.files.map fun s => (wFile, s)).flatMap (fun p => lineT p.1 p.2) = rowsT 1 u.files := rowsT_eq 1 u.files
  have e2 : (u.after.map fun s => (wAfter, s)).flatMap (fun p => lineT p.1 p.2) = rowsT 2 u.after := rowsT_eq 2 u.after
  have e3 : (u.before.map fun s => (wBefore, s)).flatMap (fun p => lineT p.1 p.2) = rowsT 3 u.before := rowsT_eq 3 u.before
  have e4 : (u.reqs.map fun s => (wReq, s)).flatMap (fun p => lineT p.1 p.2) = rowsT 4 u.reqs := rowsT_eq 4 u.reqs
  have e5 : (u.wants.map fun s => (wWants, s)).flatMap (fun p => lineT p.1 p.2) = rowsT 5 u.wants := rowsT_eq 5 u.wants
  have e6 : (u.partof.map fun s => (wPart, s)).flatMap (fun p => lineT p.1 p.2) = rowsT 6 u.partof := rowsT_eq 6 u.partof
  unfold textU linesT
  rw [List.flatMap_cons, List.flatMap_append, List.flatMap_append, List.flatMap_append, List.flatMap_append, List.flatMap_append, List.flatMap_append, e1, e2, e3, e4, e5, e6]
  simp [tlU]
theorem rowsT_drop {f : Nat} {L : List Bs} {k : Nat} (h : k < L.length) : rowsT f (L.drop k) = lineT (wordOf f) (L.getD k []) ++ rowsT f (L.drop (k + 1)) := by
  rw [drop_U h]; unfold rowsT; rw [List.flatMap_cons]
theorem line_bytes (a b : Bs) : (bs a ++ ⟨#[32]⟩ ++ bs b ++ ⟨#[10]⟩ : ByteArray).data.toList = lineT a b := by
  have e1 : (⟨#[32]⟩ : ByteArray) = bs [32] := rfl
  have e2 : (⟨#[10]⟩ : ByteArray) = bs [10] := rfl
  rw [e1, e2, bs_append, bs_append, bs_append, bs_data]
  unfold lineT; simp
theorem line_bytes1 (a : ByteArray) (w b : Bs) (h : a.data.toList = w ++ [32]) : (a ++ bs b ++ ⟨#[10]⟩ : ByteArray).data.toList = lineT w b := by
  have e1 : a = bs (w ++ [32]) := by rw [← h, bs_of]
  have e2 : (⟨#[10]⟩ : ByteArray) = bs [10] := rfl
  rw [e1, e2, bs_append, bs_append, bs_data]
  unfold lineT; simp
theorem rowsT_len (f : Nat) (L : List Bs) : L.length ≤ (rowsT f L).length := by
  induction L with
  | nil => simp
  | cons x L ih =>
    have : rowsT f (x :: L) = lineT (wordOf f) x ++ rowsT f L := by unfold rowsT; rw [List.flatMap_cons]
    rw [this, List.length_append]
    unfold lineT
    simp only [List.length_cons, List.length_append]
    omega
theorem row_len (u : UnitD) (f : Nat) (h1 : 1 ≤ f) (h6 : f ≤ 6) : (u.row f).length ≤ (textU u).length := by
  have e1 : (tlU u 1).length = (rowsT 1 (u.row 1) ++ tlU u 2).length := congrArg List.length (tlU_step u 1 (by omega) (by omega))
  have e2 : (tlU u 2).length = (rowsT 2 (u.row 2) ++ tlU u 3).length := congrArg List.length (tlU_step u 2 (by omega) (by omega))
  have e3 : (tlU u 3).length = (rowsT 3 (u.row 3) ++ tlU u 4).length := congrArg List.length (tlU_step u 3 (by omega) (by omega))
  have e4 : (tlU u 4).length = (rowsT 4 (u.row 4) ++ tlU u 5).length := congrArg List.length (tlU_step u 4 (by omega) (by omega))
  have e5 : (tlU u 5).length = (rowsT 5 (u.row 5) ++ tlU u 6).length := congrArg List.length (tlU_step u 5 (by omega) (by omega))
  have e6 : (tlU u 6).length = (rowsT 6 (u.row 6) ++ tlU u 7).length := congrArg List.length (tlU_step u 6 (by omega) (by omega))
  have e0 := congrArg List.length (textU_eq u)
  rw [List.length_append] at e0 e1 e2 e3 e4 e5 e6
  have hr := rowsT_len f (u.row f)
  have hf : f = 1 ∨ f = 2 ∨ f = 3 ∨ f = 4 ∨ f = 5 ∨ f = 6 := by omega
  rcases hf with rfl | rfl | rfl | rfl | rfl | rfl <;> omega
theorem ucell {w : World} {B : Nat} {u : UnitD} {A : Nat → Option Addr} {C : Nat → Nat} (h : w.heap[B]? = some (.cells #[.string (bs u.name), .slice (A 1) u.files.length (C 1), .slice (A 2) u.after.length (C 2), .slice (A 3) u.before.length (C 3), .slice (A 4) u.reqs.length (C 4), .slice (A 5) u.wants.length (C 5), .slice (A 6) u.partof.length (C 6), .int .i64 u.retry] 56 (0, 0))) (f : Nat) (h1 : 1 ≤ f) (h6 : f ≤ 6) : w.cell? ⟨B, f, none⟩ = some (.slice (A f) (u.row f).length (C f)) := by
  have hf : f = 1 ∨ f = 2 ∨ f = 3 ∨ f = 4 ∨ f = 5 ∨ f = 6 := by omega
  rcases hf with rfl | rfl | rfl | rfl | rfl | rfl <;> exact blk_cell h _ _ rfl
def wordsV : Array Value := #[.string ⟨#[97, 102, 116, 101, 114]⟩, .string ⟨#[98, 101, 102, 111, 114, 101]⟩, .string ⟨#[114, 101, 113, 117, 105, 114, 101, 115]⟩, .string ⟨#[119, 97, 110, 116, 115]⟩, .string ⟨#[112, 97, 114, 116, 111, 102]⟩]
theorem wordsV_at (k : Nat) (h : k < 5) : wordsV[k]? = some (.string (bs (wordOf (k + 2)))) := by
  have hf : k = 0 ∨ k = 1 ∨ k = 2 ∨ k = 3 ∨ k = 4 := by omega
  rcases hf with rfl | rfl | rfl | rfl | rfl <;> rfl
/-- A unit's lists stand so. -/
def UnitR (w : World) (u : UnitD) (A : Nat → Option Addr) : Prop := ∀ f, 1 ≤ f → f ≤ 6 → Strs w (A f) (u.row f)
/-- strconv.Itoa, of whatever number. -/
theorem itoa_all (n : Int) (h0 : -9223372036854775808 ≤ n) (h1 : n ≤ 9223372036854775807) (w : World) (hE : EnvN w) :
    Calls Tryd.prog 72 #[.int .i64 n] w fun e w' => e = .returned (.string (bs (Lib.itoa n))) ∧ Ext w w' := by
  refine (Tryd.strconv_Itoa n h0 h1 w hE.pow).mono ?_
  rintro e w' ⟨rfl, k, os, rfl⟩
  exact ⟨rfl, ext_grow _ _ _⟩
set_option maxRecDepth 100000 in
set_option maxHeartbeats 3200000 in
theorem unit_text (u : UnitD) (A : Nat → Option Addr) (C : Nat → Nat) (w : World) (hE : EnvN w) (hA : UnitR w u A) (hlen : (textU u).length ≤ 100000000) (hr : -1000 ≤ u.retry ∧ u.retry ≤ 1000) :
    Calls Tryd.prog 42 #[unitV u A C] w fun e w' => e = .returned (.string (bs (textU u))) ∧ Ext w w' := by
  have HA := Lib.hid hA; clear hA
  unfold unitV
  obtain ⟨R, hR⟩ : ∃ R : Ending → World → Prop, R = fun e w' => e = .returned (.string (bs (textU u))) ∧ Ext w w' := ⟨_, rfl⟩
  rw [← hR]
  have HR := Lib.hid hR; clear hR
  have htx := textU_eq u
  have hrl := fun f h1 h6 => row_len u f h1 h6
  have hfl : u.files.length ≤ 100000000 := Nat.le_trans (hrl 1 (by omega) (by omega)) hlen
  have HRL := Lib.hid hrl; clear hrl
  generalize hT : textU u = T at *
  have HT := Lib.hid hT; clear hT
  have HTX := Lib.hid htx
  have hl1 : (lineT wUnit u.name).length ≤ T.length := by rw [htx]; simp
  clear htx
  have hnz : (bs u.name).size ≤ 100000000 := by rw [bs_size]; unfold lineT at hl1; simp at hl1; omega
  obtain ⟨a1, ha1⟩ : ∃ a1, a1 = A 1 := ⟨_, rfl⟩
  rw [← ha1]
  have HA1 : Hid (Strs w a1 u.files) := Lib.hid (by rw [ha1]; exact HA.out 1 (by omega) (by omega))
  have HEA := Lib.hid ha1; clear ha1
  have hB0 := Bld.new (w.alloc (.cells #[.string (bs u.name), .slice a1 u.files.length (C 1), .slice (A 2) u.after.length (C 2), .slice (A 3) u.before.length (C 3), .slice (A 4) u.reqs.length (C 4), .slice (A 5) u.wants.length (C 5), .slice (A 6) u.partof.length (C 6), .int .i64 u.retry] 56))
  rw [World.size_alloc] at hB0
  have HB0 := Lib.hid hB0; clear hB0
  go_enter Tryd.func42, Tryd.ntmps42
  go_wp2_with fail
  refine (bld_write (w.heap.size + 1) [] (lineT wUnit u.name) _ (line_bytes1 _ wUnit u.name rfl) _ HB0.out (by simp; omega)).mono ?_
  rintro e w1 ⟨rfl, hB1, hb1⟩
  have hx1 : Ext w w1 := hb1.ext ((Ext.alloc _ _).trans (Ext.alloc _ _)) (by omega)
  have hu1 := hb1.heap ((Ext.alloc _ _).heap (heap_alloc_new w (.cells #[.string (bs u.name), .slice a1 u.files.length (C 1), .slice (A 2) u.after.length (C 2), .slice (A 3) u.before.length (C 3), .slice (A 4) u.reqs.length (C 4), .slice (A 5) u.wants.length (C 5), .slice (A 6) u.partof.length (C 6), .int .i64 u.retry] 56))) (by omega) (by decide)
  rw [List.nil_append] at hB1
  have HX1 := Lib.hid hx1; clear hx1 hb1 HB0
  have d1 : w1.cell? ⟨w.heap.size, 1, none⟩ = some (.slice a1 u.files.length (C 1)) := blk_cell hu1 1 _ rfl
  have HU1 := Lib.hid hu1; clear hu1
  have HB1 := Lib.hid hB1; clear hB1
  have hs1 := HB1.out.lt
  go_wp2_with fail
  go_loopw [18] (fun i wr => ∃ (k : Nat) (cur : Bs), i = .int .i64 k ∧ k ≤ u.files.length ∧ Hid (Bld (w.heap.size + 1) cur wr) ∧ Hid (T = cur ++ (rowsT 1 (u.files.drop k) ++ tlU u 2)) ∧ Hid (Beside (w.heap.size + 1) w1 wr)) (fun i _ => u.files.length - (intOf i).toNat)
  case atStart => exact ⟨0, _, rfl, Nat.zero_le _, HB1, Lib.hid HTX.out, Lib.hid (Beside.refl _ _)⟩
  case round =>
    obtain ⟨k, cur, rfl, hk, hbl, heq, hkp⟩ := hrel
    have hsz := hkp.out.size
    by_cases hlt : k < u.files.length
    · obtain ⟨g, off, hga, hgl, hgc⟩ := HA1.out.at (by intro e; rw [e] at hlt; simp at hlt)
      subst hga
      have hcell := hkp.out.keep.cell (show g < w.heap.size + 1 by omega) (HX1.out.cell (hgc k hlt))
      have hq := heq.out
      rw [rowsT_drop hlt] at hq
      obtain ⟨p, hp⟩ : ∃ p, p = u.files.getD k [] := ⟨_, rfl⟩
      rw [← hp] at hcell
      rw [← hp] at hq
      have hql : cur.length + (lineT wFile p).length ≤ T.length := by rw [hq]; simp [wordOf]
      have hpz : (bs p).size ≤ 100000000 := by rw [bs_size]; unfold lineT at hql; simp at hql; omega
      have HQ := Lib.hid hq; clear hq hp
      go_wp2_with (go_at_call 70; refine (bld_write (w.heap.size + 1) cur (lineT wFile p) _ (line_bytes1 _ wFile p rfl) _ hbl.out (by omega)).mono ?_; rintro e w2 ⟨rfl, hbl2, hkp2⟩; have hbl2 := Lib.hid hbl2; have hkp2 := Lib.hid hkp2)
      go_roundw
      case rel => exact ⟨k + 1, cur ++ lineT wFile p, by go_num, by omega, hbl2, Lib.hid (by rw [HQ.out]; simp [wordOf]), Lib.hid (hkp.out.trans hkp2.out)⟩
      case measure => simp [intOf]; omega
    · have hkk : k = u.files.length := by omega
      have hq := heq.out
      rw [hkk, List.drop_length] at hq
      have HQ : Hid (T = cur ++ tlU u 2) := Lib.hid hq
      clear hq hkk hk heq
      have HB := hbl
      have KP := hkp
      clear hbl hkp
      have hba := HB.out.lt
      have HU2 : Hid (wr.heap[w.heap.size]? = some (.cells #[.string (bs u.name), .slice (A 1) u.files.length (C 1), .slice (A 2) u.after.length (C 2), .slice (A 3) u.before.length (C 3), .slice (A 4) u.reqs.length (C 4), .slice (A 5) u.wants.length (C 5), .slice (A 6) u.partof.length (C 6), .int .i64 u.retry] 56 (0, 0))) := Lib.hid (by rw [← HEA.out]; exact KP.out.heap HU1.out (by omega) (by decide))
      obtain ⟨wa, rfl⟩ : ∃ wa : World, wa = wr := ⟨_, rfl⟩
      obtain ⟨cu, rfl⟩ : ∃ cu : Bs, cu = cur := ⟨_, rfl⟩
      have hw3 : Hid ((wa.alloc (.cells wordsV 9)).heap[wa.heap.size]? = some (.cells wordsV 9 (0, 0))) := Lib.hid (heap_alloc_new wa _)
      have hx3 : Hid (Ext wa (wa.alloc (.cells wordsV 9))) := Lib.hid (Ext.alloc _ _)
      unfold wordsV at hw3 hx3
      go_wp2_with fail
      clear d1 hlt
      generalize hwb : wa.alloc (.cells #[.string ⟨#[97, 102, 116, 101, 114]⟩, .string ⟨#[98, 101, 102, 111, 114, 101]⟩, .string ⟨#[114, 101, 113, 117, 105, 114, 101, 115]⟩, .string ⟨#[119, 97, 110, 116, 115]⟩, .string ⟨#[112, 97, 114, 116, 111, 102]⟩] 9) = wb at *
      clear hwb
      go_loopw [29] (fun i wr => ∃ (k : Nat) (cur : Bs), i = .int .i64 k ∧ k ≤ 5 ∧ Hid (Bld (w.heap.size + 1) cur wr) ∧ Hid (T = cur ++ tlU u (k + 2)) ∧ Hid (Beside (w.heap.size + 1) wb wr)) (fun i _ => 5 - (intOf i).toNat)
      case atStart => exact ⟨0, cu, rfl, by omega, Lib.hid (HB.out.ext hx3.out), HQ, Lib.hid (Beside.refl _ _)⟩
      case round =>
        obtain ⟨k, cur, rfl, hk, hbl, heq, hkp⟩ := hrel
        have hsz := hkp.out.size
        have hszb := hx3.out.size
        by_cases hlt : k < 5
        · have hxa : Ext w wa := KP.out.ext HX1.out (by omega)
          have hx : Ext w wr := hkp.out.ext (hxa.trans hx3.out) (by omega)
          have hwc := hkp.out.heap hw3.out (by omega) (by decide)
          have hcell := blk_cell hwc k _ (wordsV_at k hlt)
          have hU := hkp.out.heap (hx3.out.heap HU2.out) (by omega) (by decide)
          obtain ⟨wd, hwd⟩ : ∃ wd, wd = wordOf (k + 2) := ⟨_, rfl⟩
          have hno := wordN_of (k + 2) ⟨by omega, by omega⟩
          have hst := tlU_step u (k + 2) (by omega) (by omega)
          have hrow : ∃ L a c, u.row (k + 2) = L ∧ A (k + 2) = a ∧ C (k + 2) = c := ⟨_, _, _, rfl, rfl, rfl⟩
          obtain ⟨L, a, c, hL, ha, hc⟩ := hrow
          have hstr := HA.out (k + 2) (by omega) (by omega)
          have hd := ucell hU (k + 2) (by omega) (by omega)
          have hLl := HRL.out (k + 2) (by omega) (by omega)
          rw [hL] at hst hstr hd hLl
          rw [ha] at hstr hd
          rw [hc] at hd
          rw [← hwd] at hcell hno
          have hwl : wd.length ≤ 10 := by have := hno.2; rw [bs_size] at this; exact this
          have hq := heq.out
          rw [hst] at hq
          have HQ2 := Lib.hid hq; clear hq
          have HWD := Lib.hid hwd; clear hwd hL ha hc hst
          have HNO := Lib.hid hno; clear hno
          have HSTR := Lib.hid hstr; clear hstr
          have HHX := Lib.hid hx; clear hx hxa
          have HWC := Lib.hid hwc; clear hwc
          have HHU := Lib.hid hU; clear hU
          have hwz : (bs wd).size ≤ 10 := by rw [bs_size]; exact hwl
          go_wp2_with (go_at_call 71; refine (unit_lists w.heap.size _).mono ?_; rintro e w2 ⟨M, rfl, hm, hx2⟩; have hlk := list_at hm wd (by have : maxLen = 9223372036854775807 := rfl; omega); rw [if_neg (by rw [HNO.out.1]; omega), HNO.out.1] at hlk; have hd2 := hx2.cell hd; clear hm; have hx2 := Lib.hid hx2)
          have hsz2 := hx2.out.size
          go_loopw [39] (fun i ws => ∃ (j : Nat) (cu2 : Bs), i = .int .i64 j ∧ j ≤ L.length ∧ Hid (Bld (w.heap.size + 1) cu2 ws) ∧ Hid (T = cu2 ++ (rowsT (k + 2) (L.drop j) ++ tlU u (k + 2 + 1))) ∧ Hid (Beside (w.heap.size + 1) w2 ws)) (fun i _ => L.length - (intOf i).toNat)
          case atStart => exact ⟨0, cur, rfl, Nat.zero_le _, Lib.hid (hbl.out.ext hx2.out), HQ2, Lib.hid (Beside.refl _ _)⟩
          case round =>
            obtain ⟨j, cu2, rfl, hj, hbl2, heq2, hkp2⟩ := hrel
            have hsz3 := hkp2.out.size
            by_cases hlj : j < L.length
            · obtain ⟨g, off, hga, hgl, hgc⟩ := HSTR.out.at (by intro e; rw [e] at hlj; simp at hlj)
              subst hga
              have hce := hkp2.out.keep.cell (show g < w.heap.size + 1 by omega) (hx2.out.cell (HHX.out.cell (hgc j hlj)))
              have hq := heq2.out
              rw [rowsT_drop hlj] at hq
              obtain ⟨p, hp⟩ : ∃ p, p = L.getD j [] := ⟨_, rfl⟩
              rw [← hp] at hq hce
              rw [← HWD.out] at hq
              have hql : cu2.length + (lineT wd p).length ≤ T.length := by rw [hq]; simp
              have hpz : (bs p).size ≤ 100000000 := by rw [bs_size]; unfold lineT at hql; simp at hql; omega
              have HQ3 := Lib.hid hq; clear hq hp
              go_wp2_with (go_at_call 70; refine (bld_write (w.heap.size + 1) cu2 (lineT wd p) _ (line_bytes wd p) _ hbl2.out (by omega)).mono ?_; rintro e w5 ⟨rfl, hbl5, hkp5⟩; have hbl5 := Lib.hid hbl5; have hkp5 := Lib.hid hkp5)
              go_roundw
              case rel => exact ⟨j + 1, cu2 ++ lineT wd p, by go_num, by omega, hbl5, Lib.hid (by rw [HQ3.out]; simp), Lib.hid (hkp2.out.trans hkp5.out)⟩
              case measure => simp [intOf]; omega
            · have hjj : j = L.length := by omega
              have hq := heq2.out
              rw [hjj, List.drop_length] at hq
              have HQ3 : Hid (T = cu2 ++ tlU u (k + 1 + 2)) := Lib.hid (by rw [show k + 1 + 2 = k + 2 + 1 by omega]; simpa [rowsT] using hq)
              clear hq hjj
              go_wp2_with fail
              go_roundw
              case rel => exact ⟨k + 1, cu2, by go_num, by omega, hbl2, HQ3, Lib.hid (hkp.out.trans ((Beside.of_ext hx2.out (by omega)).trans hkp2.out))⟩
              case measure => simp [intOf]; omega
        · have hkk : k = 5 := by omega
          subst hkk
          have hxa : Ext w wa := KP.out.ext HX1.out (by omega)
          have hx : Ext w wr := hkp.out.ext (hxa.trans hx3.out) (by omega)
          have HHX := Lib.hid hx; clear hx hxa
          have hU := hkp.out.heap (hx3.out.heap HU2.out) (by omega) (by decide)
          have hd : wr.cell? ⟨w.heap.size, 7, none⟩ = some (.int .i64 u.retry) := blk_cell hU 7 _ rfl
          clear hU
          have hq : T = cur ++ lineT wRetry (Lib.itoa u.retry) := heq.out
          have hql : cur.length + (lineT wRetry (Lib.itoa u.retry)).length ≤ T.length := by rw [hq]; simp
          have hpz : (bs (Lib.itoa u.retry)).size ≤ 100000000 := by rw [bs_size]; unfold lineT at hql; simp at hql; omega
          have HQ3 := Lib.hid hq; clear hq
          go_wp2_with (first
            | (go_at_call 72; refine (itoa_all u.retry (by omega) (by omega) _ (hE.ext HHX.out)).mono ?_; rintro e w2 ⟨rfl, hx2⟩; have hx2 := Lib.hid hx2)
            | (go_at_call 70; refine (bld_write (w.heap.size + 1) cur (lineT wRetry (Lib.itoa u.retry)) _ (line_bytes1 _ wRetry _ rfl) _ (hbl.out.ext hx2.out) (by omega)).mono ?_; rintro e w5 ⟨rfl, hbl5, hkp5⟩; have hbl5 := Lib.hid hbl5; have hkp5 := Lib.hid hkp5)
            | (go_at_call 73; refine (bld_string (w.heap.size + 1) _ _ hbl5.out).mono ?_; rintro e w6 ⟨rfl, hkp6⟩; have hkp6 := Lib.hid hkp6))
          rw [HR.out]
          refine ⟨?_, hkp6.out.ext (hkp5.out.ext (HHX.out.trans hx2.out) (by omega)) (by omega)⟩
          rw [HQ3.out]; rfl
end Go.Proofs.YtedfpoidggpkdaaDoor
