/- The log's Rewrite. -/
import Derived.Test.YtefpllpichhojaaGreatDoorLogApp
namespace Go.Proofs.YtefpllpichhojaaGreatDoor
open Go.RowKit
variable [Low]
omit [Low] in
theorem setCells_splice {R : Nat} {t : TypeId} {w : World} {cs : List Value} (h : w.heap[R]? = some (.cells cs.toArray t (0, 0))) (o : Nat) (vs : List Value) (hl : o + vs.length ≤ cs.length) :
 (w.setCells R o vs).heap[R]? = some (.cells (cs.take o ++ (vs ++ cs.drop (o + vs.length))).toArray t (0, 0)) := by
 obtain ⟨cs', h', hs⟩ := setCells_blk vs o w ⟨_, h, rfl⟩
 have e : cs' = (cs.take o ++ (vs ++ cs.drop (o + vs.length))).toArray := by
  apply Array.ext_getElem?
  intro i
  have hc : (w.setCells R o vs).cell? ⟨R, i, none⟩ = cs'[i]? := cell_of_row _ _ _ _ _ _ h'
  rw [← hc]
  simp only [List.getElem?_toArray]
  by_cases hi : o ≤ i ∧ i < o + vs.length
  · have := World.cell?_setCells_in R vs o w (fun j hj => by rw [cell_of_row _ _ _ _ _ _ h]; simp [show o + j < cs.length by omega]) (i - o) (by omega)
    rw [show o + (i - o) = i by omega] at this
    rw [this, List.getElem?_append_right (by rw [List.length_take]; omega), List.getElem?_append_left (by rw [List.length_take]; omega), List.length_take, Nat.min_eq_left (by omega), List.getElem?_eq_getElem]
  · rw [World.cell?_setCells_out _ _ _ _ _ (fun _ _ => by show i < o ∨ o + _ ≤ i; omega), cell_of_row _ _ _ _ _ _ h]
    simp only [List.getElem?_toArray]
    by_cases ho : i < o
    · rw [List.getElem?_append_left (by rw [List.length_take]; omega), List.getElem?_take_of_lt ho]
    · rw [List.getElem?_append_right (by rw [List.length_take]; omega), List.getElem?_append_right (by rw [List.length_take]; omega), List.length_take, List.getElem?_drop]
      congr 1; omega
 rw [h', e]
omit [Low] in
theorem hdr_cells (epoch : Nat) : (((Value.int .u8 1 :: (byteV zeroS).tail).take 1 ++ (byteV (num4 epoch) ++ (Value.int .u8 1 :: (byteV zeroS).tail).drop (1 + (byteV (num4 epoch)).length))).take 5 ++ (byteV (num4 (crcL (hdrB epoch)).toNat) ++ ((Value.int .u8 1 :: (byteV zeroS).tail).take 1 ++ (byteV (num4 epoch) ++ (Value.int .u8 1 :: (byteV zeroS).tail).drop (1 + (byteV (num4 epoch)).length))).drop (5 + (byteV (num4 (crcL (hdrB epoch)).toNat)).length))) = byteV (hdrS epoch) := by
 have e1 : byteV (hdrS epoch) = .int .u8 1 :: (byteV (num4 epoch) ++ (byteV (num4 (crcL (hdrB epoch)).toNat) ++ byteV (List.replicate 55 0))) := by
  simp [byteV, hdrS, hdrB]
 have l1 : (byteV (num4 epoch)).length = 4 := by rw [byteV_len, num4_len]
 have l2 : (byteV (num4 (crcL (hdrB epoch)).toNat)).length = 4 := by rw [byteV_len, num4_len]
 rw [e1]
 generalize byteV (num4 epoch) = A at l1 ⊢
 generalize byteV (num4 (crcL (hdrB epoch)).toNat) = B at l2 ⊢
 match A, l1 with
 | [a, b, c, d], _ =>
   match B, l2 with
   | [e, f, g, h], _ => rfl
theorem KeepT.own {ts : List TypeId} {w a b : World} {E m n : Nat} {v : Value} {us : List Value} (h : KeepT ts w a) (k : Keep (fun k => some k ≠ v.ownBlock) a b) (ho : a.ownsRow w.heap.size E m v n us) : KeepT ts w b :=
 ⟨k.os.trans h.os, k.tape.trans h.tape, k.output.trans h.output, Nat.le_trans h.size k.size, fun i hi hn => by
  refine (k.block i (Nat.lt_of_lt_of_le hi h.size) fun e => ?_).trans (h.block i hi hn)
  rcases ho.2 with ⟨h1, _⟩ | ⟨g, c, cur, h1, hb, _⟩
  · rw [h1] at e; cases e
  · rw [h1] at e
    have e : i = g := Option.some.inj e
    omega⟩
def RowsAt (w : World) (ra : Option Addr) (rows : List (List UInt8)) : Prop :=
 rows = [] ∨ ∃ g off cs fr, ra = some ⟨g, off, none⟩ ∧ w.heap[g]? = some (.cells cs 50 fr) ∧ ∀ i, i < rows.length → ∃ p c, w.cell? ⟨g, off + i, none⟩ = some (.slice p (rows.getD i []).length c) ∧ DataM w p (rows.getD i []) ∧ (rows.getD i []).length ≤ c
theorem RowsAt.keepT {ts : List TypeId} {w w' : World} {ra : Option Addr} {rows : List (List UInt8)} (h : RowsAt w ra rows) (k : KeepT ts w w') (h1 : 5 ∉ ts) (h2 : 50 ∉ ts) : RowsAt w' ra rows := by
 rcases h with h | ⟨g, off, cs, fr, ha, hg, hc⟩
 · exact Or.inl h
 · refine Or.inr ⟨g, off, cs, fr, ha, k.heap hg h2, fun i hi => ?_⟩
   obtain ⟨p, c, h3, h4, h5⟩ := hc i hi
   exact ⟨p, c, Keep.cell k (notTy_of hg h2) h3, h4.keep k (KeepT.datas h1), h5⟩
omit [Low] in
theorem RowsAt.at {w : World} {ra : Option Addr} {rows : List (List UInt8)} (h : RowsAt w ra rows) {i : Nat} (hi : i < rows.length) :
 ∃ g off p c, ra = some ⟨g, off, none⟩ ∧ w.cell? ⟨g, off + i, none⟩ = some (.slice p (rows.getD i []).length c) ∧ DataM w p (rows.getD i []) ∧ (rows.getD i []).length ≤ c := by
 rcases h with h | ⟨g, off, cs, fr, ha, hg, hc⟩
 · rw [h] at hi; cases hi
 · obtain ⟨p, c, h3, h4, h5⟩ := hc i hi
   exact ⟨g, off, p, c, ha, h3, h4, h5⟩
omit [Low] in
theorem RowsM.base {w : World} {base base2 : Nat} {a : Option Addr} {c : Nat} {D : List (List UInt8)} (h : RowsM w base a c D) (hb : base2 ≤ base) : RowsM w base2 a c D := by
 obtain ⟨Z, h1, h2, h3⟩ := h
 exact ⟨Z, h1, ⟨h2.1, h2.2.imp id (fun ⟨g, c, cur, e1, e2, e3⟩ => ⟨g, c, cur, e1, Nat.le_trans hb e2, e3⟩)⟩, h3⟩
omit [Low] in
theorem secsN_take {rows : List (List UInt8)} {k : Nat} (hk : k < rows.length) : secsN (rows.take (k + 1)) = secsN (rows.take k) + secN (rows.getD k []).length := by
 rw [List.take_succ_eq_append_getElem hk, secsN_app]
 simp [secsN, List.getD_eq_getElem?_getD, List.getElem?_eq_getElem hk]
omit [Low] in
theorem secsN_take_le (rows : List (List UInt8)) (k : Nat) : secsN (rows.take k) ≤ secsN rows := by
 have : secsN rows = secsN (rows.take k) + secsN (rows.drop k) := by rw [← secsN_app, List.take_append_drop]
 omega
omit [Low] in
theorem take_getD {rows : List (List UInt8)} {k : Nat} (hk : k < rows.length) : rows.take (k + 1) = rows.take k ++ [rows.getD k []] := by
 rw [List.take_succ_eq_append_getElem hk]
 simp [List.getD_eq_getElem?_getD, List.getElem?_eq_getElem hk]
section
variable {ops : Array Oper} {o : Oper} {a : Act} {Q : Exit → Act → World → Prop} {W : World} {K : Act → World → Prop} {E' : Prop}
omit [Low] in
theorem step_copy_mid (hgd : o.guard = none) (d s : Operand) (sT : TypeId) (ho : o.op = .call { callee := .builtin .copy, args := #[d, s], argTypes := #[50, sT] })
 (b off dl dc : Nat) (hd : a.eval d = .slice (some ⟨b, off, none⟩) dl dc) (ad : Option Addr) (l : List UInt8) (ln c : Nat) (hs : a.eval s = .slice ad ln c) (hln : l.length = ln) (hl : l ≠ []) (hle : ln ≤ dl) (hb : DataM W ad l) (ht : W.there b off ln)
 (h : K (a.put o.dst (.int .i64 (ln : Int))) (W.setCells b off (byteV l))) : if Region.wanted o (yielded ops a.tmps) = true then Oper.wp Tryz.prog o a W K Q else E' := by
 subst hln
 have hw : Region.wanted o (yielded ops a.tmps) = true := by simp [Region.wanted, hgd]
 rw [if_pos hw]
 rcases hb with hb | ⟨g, off2, cs, fr, rfl, hg, hc⟩
 · exact absurd hb hl
 have hr := run_copy_cells (P := Tryz.prog) W 50 sT o.type 5 b off dl dc ⟨g, off2, none⟩ l.length c (byteV l) Tryz.underlying50 size_u8
  (by rw [byteV_len]; exact (Nat.min_eq_left hle).symm)
  (fun j v hv => by rw [addr_plus]; exact hc j v hv)
  (fun j hj => (ht j (by rw [byteV_len] at hj; exact hj)).1) (fun j hj => (ht j (by rw [byteV_len] at hj; exact hj)).2) (byteV_one _)
 unfold Oper.wp execOp
 simp only [ho, resolve, invoke, builtin, Sem.run_bind, Sem.run_pure, Result.andThen_ok, List.map_toArray, List.map_cons, List.map_nil, hd, hs, hr, byteV_len]
 exact h
end
omit [Low] in
theorem bytes_of_cells {w : World} {g : Nat} {cs : List Value} {t : TypeId} {fr : Nat × Nat} (hg : w.heap[g]? = some (.cells cs.toArray t fr)) {l : List UInt8} (h : cs.take l.length = byteV l) : Bytes w (some ⟨g, 0, none⟩) l := by
 refine Or.inr ⟨g, 0, rfl, (Array.getElem?_eq_some_iff.1 hg).1, fun i hi => ?_⟩
 rw [Nat.zero_add, cell_of_row _ _ _ _ _ _ hg]
 have := byteV_at hi
 rw [← h, List.getElem?_take_of_lt hi] at this
 simpa using this
omit [Low] in
theorem zero_mark : (byteV zeroS).toArray.setIfInBounds 0 (Value.int .u8 1) = (Value.int .u8 1 :: (byteV zeroS).tail).toArray := rfl
omit [Low] in
theorem hdr_first (epoch : Nat) : (((Value.int .u8 1 :: (byteV zeroS).tail).take 1 ++ (byteV (num4 epoch) ++ (Value.int .u8 1 :: (byteV zeroS).tail).drop (1 + (byteV (num4 epoch)).length)))).take (hdrB epoch).length = byteV (hdrB epoch) := by
 have l1 : (byteV (num4 epoch)).length = 4 := by rw [byteV_len, num4_len]
 have e : byteV (hdrB epoch) = .int .u8 1 :: byteV (num4 epoch) := by simp [byteV, hdrB]
 have l2 : (hdrB epoch).length = 5 := by simp [hdrB, num4_len]
 rw [e, l2]
 generalize byteV (num4 epoch) = A at l1 ⊢
 match A, l1 with
 | [a, b, c, d], _ => rfl
omit [Low] in
theorem hdr_len1 (epoch : Nat) : ((Value.int .u8 1 :: (byteV zeroS).tail).take 1 ++ (byteV (num4 epoch) ++ (Value.int .u8 1 :: (byteV zeroS).tail).drop (1 + (byteV (num4 epoch)).length))).length = 64 := by
 have l1 : (byteV (num4 epoch)).length = 4 := by rw [byteV_len, num4_len]
 generalize byteV (num4 epoch) = A at l1 ⊢
 match A, l1 with
 | [a, b, c, d], _ => rfl
section
variable {w : World} {lb db kb n : Nat} {img : Img} {L : LogD}
set_option maxRecDepth 100000 in
set_option maxHeartbeats 12800000 in
theorem log_Rewrite (h : LogM w lb db kb n img L) {rows : List (List UInt8)} {ra : Option Addr} {rc : Nat} (hP : RowsAt w ra rows) (hl : ∀ b ∈ rows, b.length ≤ 4096) (hroom : secsN rows ≤ halfN n) (h6 : 6 ≤ n) (hh : L.half ≤ 1) (htop : L.top ≤ 2147483000) :
 Calls Tryz.prog 129 #[.pointer (some ⟨lb, 0, none⟩), .slice ra rows.length rc] w fun e w' => e = .returned (.int .i64 0) ∧ LogM w' lb db kb n (rewI n img L rows) (newL L rows) ∧ KeepT [190, 234, 257, 209] w w' := by
 obtain ⟨R, hR⟩ : ∃ R : Ending → World → Prop, R = fun e w' => e = .returned (.int .i64 0) ∧ LogM w' lb db kb n (rewI n img L rows) (newL L rows) ∧ KeepT [190, 234, 257, 209] w w' := ⟨_, rfl⟩
 rw [← hR]
 have HR := Lib.hid hR; clear hR
 have hsz := h.disk.size
 have hhn : halfN n ≤ 2047 := by unfold halfN; omega
 have hmr := secsN_len rows
 have HH := Lib.hid h
 have HLWL := Lib.hid h.low
 have hl1 := h.low
 have hls : Low.low ≤ w.heap.size := by obtain ⟨⟨_, _, ht, _⟩, _⟩ := h; have := (Array.getElem?_eq_some_iff.1 ht).1; omega
 have HLS := Lib.hid hls; clear hls
 obtain ⟨⟨la, lc, ht, hr⟩, hd⟩ := h
 clear hr
 have hhf := log_half hd (by omega)
 have HT := Lib.hid ht; have HD := Lib.hid hd; have HHF := Lib.hid hhf; have HP := Lib.hid hP; have HL := Lib.hid hl; clear hd hhf hP hl
 have c6 := blk_cell ht 6 (.bool false) rfl
 have c0 := blk_cell ht 0 (.pointer (some ⟨db, 0, none⟩)) rfl
 clear ht
 obtain ⟨m, hm⟩ : ∃ m, m = rows.length := ⟨_, rfl⟩
 rw [← hm] at hmr ⊢
 have HM := Lib.hid hm; clear hm
 go_enter Tryz.func129, Tryz.ntmps129
 go_upto_region 5 with (fail)
 go_loop [5, 20] (fun v i => ∃ k : Nat, i = .int .i64 k ∧ v = .int .i64 (secsN (rows.take k) : Nat) ∧ k ≤ m) (fun _ i => m - (intOf i).toNat)
 case atStart => exact ⟨0, rfl, rfl, Nat.zero_le _⟩
 case round =>
  obtain ⟨k, rfl, rfl, hk⟩ := hrel
  by_cases hlt : k < m
  · have hkL : k < rows.length := by have := HM.out; omega
    obtain ⟨g, off, p, c, hra, hce, _, _⟩ := HP.out.at hkL
    subst hra
    have hll : (rows.getD k []).length ≤ 4096 := HL.out _ (by
     have e : rows.getD k [] = rows[k] := by simp [List.getD_eq_getElem?_getD, List.getElem?_eq_getElem hkL]
     rw [e]; exact List.getElem_mem hkL)
    have hst := secsN_take hkL
    have hle := secsN_take_le rows (k + 1)
    generalize (rows.getD k []).length = ll at hce hll hst
    rw [hst] at hle
    generalize secsN (rows.take k) = q0 at hst hle ⊢
    have HST := Lib.hid hst; clear hst
    have hqs : q0 + secN ll ≤ 2047 := by omega
    have hqw : IntKind.i64.wrap ((q0 : Int) + (secN ll : Nat)) = (q0 : Int) + (secN ll : Nat) := by rw [IntKind.wrap_i64]; omega
    clear hle
    go_wp2_with (go_at_call 119; refine (log_sectors ll (by omega)).mono ?_; rintro E wn ⟨rfl, rfl⟩)
    go_round
    case rel => exact ⟨k + 1, by go_num, by rw [HST.out, Int.natCast_add], by omega⟩
    case measure => simp [intOf]; omega
  · have hkk : k = rows.length := by have := HM.out; omega
    subst hkk
    rw [List.take_length]
    have HNR := Lib.hid (show ¬ halfN n < secsN rows by omega)
    generalize hsr0 : secsN rows = sr at hroom hmr HNR ⊢
    have HSR := Lib.hid hsr0; clear hsr0
    have hnr := HNR.out
    generalize hhe : halfN n = hn at hroom hhn HHF hnr
    have HHE := Lib.hid hhe; clear hhe
    have hft := HT.out
    have f1 := blk_free hft 1; have f2 := blk_free hft 2; have f3 := blk_free hft 3; have f4 := blk_free hft 4; have f5 := blk_free hft 5
    have c2 := blk_cell hft 2 (.int .i64 (L.top : Int)) rfl
    have c1 := blk_cell hft 1 (.int .i64 (L.epoch : Int)) rfl
    have c3 := blk_cell hft 3 (.int .i64 (L.half : Int)) rfl
    have c4 := blk_cell hft 4 (.int .i64 (L.off : Int)) rfl
    have c5 := blk_cell hft 5 (.slice la L.list.length lc) rfl
    clear hft
    have hw1 : IntKind.i64.wrap ((L.top : Int) + 1) = (L.top : Int) + 1 := by rw [IntKind.wrap_i64]; omega
    have hw2 : IntKind.i64.wrap (1 - (L.half : Int)) = 1 - (L.half : Int) := by rw [IntKind.wrap_i64]; omega
    go_upto_region 18 with (go_at_call 120; refine HHF.out.mono ?_; rintro E wn ⟨rfl, rfl⟩)
    have e1 : (L.top : Int) + 1 = ((L.top + 1 : Nat) : Int) := by omega
    have e2 : 1 - (L.half : Int) = ((1 - L.half : Nat) : Int) := by omega
    clear hw1 hw2
    have hk5 : Keep (· ≠ lb) w (((((w.setCell ⟨lb, 2, none⟩ (.int .i64 ((L.top : Int) + 1))).setCell ⟨lb, 1, none⟩ (.int .i64 ((L.top : Int) + 1))).setCell ⟨lb, 3, none⟩ (.int .i64 (1 - (L.half : Int)))).setCell ⟨lb, 4, none⟩ (.int .i64 0)).setCell ⟨lb, 5, none⟩ (.slice none 0 0)) := (((((Keep.refl _ w).setCell (fun _ h => h) 2 _).setCell (fun _ h => h) 1 _).setCell (fun _ h => h) 3 _).setCell (fun _ h => h) 4 _).setCell (fun _ h => h) 5 _
    have h5 : (((((w.setCell ⟨lb, 2, none⟩ (.int .i64 ((L.top : Int) + 1))).setCell ⟨lb, 1, none⟩ (.int .i64 ((L.top : Int) + 1))).setCell ⟨lb, 3, none⟩ (.int .i64 (1 - (L.half : Int)))).setCell ⟨lb, 4, none⟩ (.int .i64 0)).setCell ⟨lb, 5, none⟩ (.slice none 0 0)).heap[lb]? = some (.cells (logV db (newL L []) none 0) 209 (0, 0)) := by
     have h := setCell_row (i := 5) (setCell_row (i := 4) (setCell_row (i := 3) (setCell_row (i := 1) (setCell_row (i := 2) HT.out (.int .i64 ((L.top : Int) + 1))) (.int .i64 ((L.top : Int) + 1))) (.int .i64 (1 - (L.half : Int)))) (.int .i64 0)) (.slice none 0 0)
     rw [h, e1, e2]
     rfl
    generalize ((((w.setCell ⟨lb, 2, none⟩ (.int .i64 ((L.top : Int) + 1))).setCell ⟨lb, 1, none⟩ (.int .i64 ((L.top : Int) + 1))).setCell ⟨lb, 3, none⟩ (.int .i64 (1 - (L.half : Int)))).setCell ⟨lb, 4, none⟩ (.int .i64 0)).setCell ⟨lb, 5, none⟩ (.slice none 0 0) = w5 at hk5 h5 ⊢
    have hkt5 := KeepT.ne (ts := [209]) hk5 HT.out (by decide)
    have hd5 := HD.out.keepT hkt5 (by decide)
    have HTP5 : Hid (∃ la lc, w5.heap[lb]? = some (.cells (logV db (newL L (rows.take 0)) la lc) 209 (0, 0)) ∧ RowsM w5 w.heap.size la lc (rows.take 0)) := Lib.hid ⟨none, 0, h5, RowsM.nil _ _⟩
    have HDK5 : Hid (∃ C, applyI img C = putsI img (baseN n (1 - L.half)) 0 (L.top + 1) (rows.take 0) ∧ C.length = secsN (rows.take 0) ∧ DiskC w5 db kb n img C) := Lib.hid ⟨[], rfl, rfl, hd5⟩
    have HKT5 : Hid (KeepT [190, 234, 257, 209] w w5) := Lib.hid (hkt5.mono (by decide))
    clear hk5 h5 hkt5 hd5 e1 e2 f1 f2 f3 f4 f5 c0 c1 c2 c3 c4 c5 c6 HT HD HHF hnr
    go_loopw [70] (fun i wr => ∃ k : Nat, i = .int .i64 k ∧ k ≤ m ∧ Hid (∃ la lc, wr.heap[lb]? = some (.cells (logV db (newL L (rows.take k)) la lc) 209 (0, 0)) ∧ RowsM wr w.heap.size la lc (rows.take k)) ∧ Hid (∃ C, applyI img C = putsI img (baseN n (1 - L.half)) 0 (L.top + 1) (rows.take k) ∧ C.length = secsN (rows.take k) ∧ DiskC wr db kb n img C) ∧ Hid (KeepT [190, 234, 257, 209] w wr)) (fun i _ => m - (intOf i).toNat)
    case atStart => exact ⟨0, rfl, Nat.zero_le _, HTP5, HDK5, HKT5⟩
    case round =>
     clear HTP5 HDK5 HKT5
     obtain ⟨k, rfl, hk, HTP, HDK, HKT⟩ := hrel
     by_cases hlt : k < m
     · have hkL : k < rows.length := by have := HM.out; omega
       obtain ⟨g, off, p, pc, hra, hce, hdt, hlc⟩ := (HP.out.keepT HKT.out (by decide) (by decide)).at hkL
       subst hra
       have hll : (rows.getD k []).length ≤ 4096 := HL.out _ (by
        have e : rows.getD k [] = rows[k] := by simp [List.getD_eq_getElem?_getD, List.getElem?_eq_getElem hkL]
        rw [e]; exact List.getElem_mem hkL)
       have hst := secsN_take hkL
       have hle := secsN_take_le rows (k + 1)
       rw [hst] at hle
       have hsr := HNR.out
       have htk := take_getD hkL
       obtain ⟨la', lc', ht, hro⟩ := HTP.out
       obtain ⟨C, hCa, hCl, hdk⟩ := HDK.out
       have hsrr := HSR.out
       rw [hsrr] at hle
       generalize rows.getD k [] = b at hce hdt hlc hll hst hle htk
       have hlist : (newL L (rows.take k)).list = rows.take k := rfl
       have hoff : (newL L (rows.take k)).off = secsN (rows.take k) := rfl
       have happ : appL (newL L (rows.take k)) b = newL L (rows.take (k + 1)) := by
        unfold appL newL
        rw [htk, secsN_app]
        simp [secsN]
       have hhalf : (newL L (rows.take k)).half = 1 - L.half := rfl
       have hepo : (newL L (rows.take k)).epoch = L.top + 1 := rfl
       have hput := log_put (w := wr) ⟨⟨la', lc', ht, hro.base HLS.out⟩, hdk, HLWL.out⟩ (at_ := (newL L (rows.take k)).off) (seq := k) (b := b) (ba := p) (bc := pc) hdt hll (by omega) (by rw [hhalf]; omega) (by rw [hoff, hhalf]; have hb := (baseN_lt (n := n) (half := 1 - L.half) (by omega) h6).2; rw [HHE.out] at hb; omega) (by have := HM.out; omega) (by rw [hepo]; omega) (by rw [hCl]; omega)
       have hpa : putsI img (baseN n (1 - L.half)) 0 (L.top + 1) (rows.take (k + 1)) = applyI img (C ++ writesR (baseN n (newL L (rows.take k)).half + (newL L (rows.take k)).off) k (newL L (rows.take k)).epoch b) := by
        have hlk : (rows.take k).length = k := List.length_take_of_le (by omega)
        rw [htk, putsI_app, applyI_app, applyI_writes, hCa, hhalf, hoff, hepo, Nat.zero_add, hlk]
       have hcl : (C ++ writesR (baseN n (newL L (rows.take k)).half + (newL L (rows.take k)).off) k (newL L (rows.take k)).epoch b).length = secsN (rows.take (k + 1)) := by
        rw [List.length_append, writesR_len, hCl, hst]
       have hlk : (newL L (rows.take k)).list.length = k := by rw [hlist]; exact List.length_take_of_le (by omega)
       rw [← hlist] at hro htk
       rw [← hoff] at hst hle hCl
       generalize newL L (rows.take k) = LK at ht hro hput hpa hcl hlk happ hst hle htk hCl
       clear hlist hoff hhalf hepo hCa
       have hlc' := hlc
       generalize hbn : b.length = bn at hce hll hlc hst hle hput
       have HBN := Lib.hid hbn; clear hbn
       generalize hsc : secN bn = sc at hst hle
       have HSC := Lib.hid hsc; clear hsc
       generalize hof : LK.off = of at hput hst hle
       have HOF := Lib.hid hof; clear hof
       have HLK := Lib.hid hlk; have HPA := Lib.hid hpa; have HCL := Lib.hid hcl; have HAPP := Lib.hid happ; have HTK := Lib.hid htk; have HPUT := Lib.hid hput; have HT4 := Lib.hid ht; have HRO := Lib.hid hro; have HDT := Lib.hid hdt; have HLCB := Lib.hid hlc'
       clear hlk hpa hcl happ htk hput ht hro hdt hst hCl hdk hlc' hsrr hsr
       have hsec : ∀ W, Calls Tryz.prog 119 #[.int .i64 bn] W fun e w' => e = .returned (.int .i64 (sc : Nat)) ∧ W = w' := fun W => by rw [← HSC.out]; exact log_sectors bn (by omega)
       have HSEC := Lib.hid hsec; clear hsec
       have d4 : wr.cell? ⟨lb, 4, none⟩ = some (.int .i64 (of : Int)) := by
        have h4 := blk_cell HT4.out 4 (.int .i64 (LK.off : Int)) rfl
        rw [HOF.out] at h4
        exact h4
       have hw5 : IntKind.i64.wrap ((of : Int) + (sc : Int)) = (of : Int) + (sc : Int) := by rw [IntKind.wrap_i64]; omega
       clear HTP HDK hle
       go_upto_region 23 with (go_at_call 121; refine HPUT.out.mono ?_; rintro E w5 ⟨rfl, hl2, hk2⟩; have HD0 := Lib.hid hl2; have HK50 := Lib.hid hk2; clear hl2 hk2)
       clear d4
       have HD := Lib.hid HD0.out.disk
       have HK5 : Hid (KeepT [190, 234, 257, 209] w w5) := Lib.hid (HKT.out.trans (KeepT.mono HK50.out (by decide)))
       have HT5 := Lib.hid (HK50.out.heap HT4.out (by decide))
       have HRW5 := Lib.hid (HRO.out.keepT HK50.out (by decide) (by decide))
       have HDB5 := Lib.hid (HDT.out.keep HK50.out (KeepT.datas (by decide)))
       clear HT4 HRO HDT HK50 HD0 HKT HPUT
       have HCS : Hid (∀ W, Ext w5 W → W.cell? ⟨lb, 4, none⟩ = some (.int .i64 (of : Int))) := Lib.hid fun W k => by
        have h4 := blk_cell (k.heap HT5.out) 4 (.int .i64 (LK.off : Int)) rfl
        rw [HOF.out] at h4
        exact h4
       have HK : Hid (Ext w5 w5.drew) := Lib.hid ((Ext.refl _).drew)
       refine wp_region_noPanic ?_
       refine wp_region_K (S := (fun W => W.cell? ⟨lb, 4, none⟩ = some (.int .i64 (of : Int)))) (I := [3]) (by kernel_rfl) (HCS.out _ HK.out) (fun hHeld => ?_)
       clear hHeld
       generalize w5.drew = wc at HK ⊢
       refine wpAnyK_free (i := 0) (v := ?_) rfl (by kernel_rfl) (by kernel_rfl) (by kernel_rfl) (fun _ _ _ h => h) (by kernel_rfl) ?_ (fun _ => (HCS.out _ HK.out)) ?_
       rotate_left
       · (intro wq; first | (go_simp; done) | (go_simp; with_reducible rfl))
       try simp only [List.getElem_toArray, List.getElem_cons_zero, Act.put, List.setIfInBounds_toArray, List.set_cons_zero, List.set_cons_succ]
       refine wpAnyK_free (i := 1) (v := ?_) rfl (by kernel_rfl) (by kernel_rfl) (by kernel_rfl) (fun _ _ _ h => h) (by kernel_rfl) ?_ (fun _ => (HCS.out _ HK.out)) ?_
       rotate_left
       · (intro wq; first | (go_simp; done) | (go_simp; with_reducible rfl))
       try simp only [List.getElem_toArray, List.getElem_cons_zero, List.getElem_cons_succ, Act.put, List.setIfInBounds_toArray, List.set_cons_zero, List.set_cons_succ]
       refine wpAnyK_free (i := 2) (v := ?_) rfl (by kernel_rfl) (by kernel_rfl) (by kernel_rfl) (fun _ _ _ h => h) (by kernel_rfl) ?_ (fun _ => (HCS.out _ HK.out)) ?_
       rotate_left
       · (intro wq; first | (go_simp; done) | (go_simp; with_reducible rfl))
       try simp only [List.getElem_toArray, List.getElem_cons_zero, List.getElem_cons_succ, Act.put, List.setIfInBounds_toArray, List.set_cons_zero, List.set_cons_succ]
       refine wpAnyK_load (i := 3) (v := ?_) rfl (by kernel_rfl) (by kernel_rfl) (by kernel_rfl) (fun _ _ _ h => h) (by kernel_rfl) (by kernel_rfl) ?_ (HCS.out _ HK.out) ?_
       rotate_left
       · (intro wq hSw; (try dsimp only at hSw); first | (go_simp; done) | (go_simp; with_reducible rfl))
       try simp only [List.getElem_toArray, List.getElem_cons_zero, List.getElem_cons_succ, Act.put, List.setIfInBounds_toArray, List.set_cons_zero, List.set_cons_succ]
       refine wpAnyK_free (i := 4) (v := ?_) rfl (by kernel_rfl) (by kernel_rfl) (by kernel_rfl) (fun _ _ _ h => h) (by kernel_rfl) ?_ (fun _ => (HCS.out _ HK.out)) ?_
       rotate_left
       · (intro wq; first | (go_simp; done) | (go_simp; with_reducible rfl))
       try simp only [List.getElem_toArray, List.getElem_cons_zero, List.getElem_cons_succ, Act.put, List.setIfInBounds_toArray, List.set_cons_zero, List.set_cons_succ]
       refine wpAnyK_free (i := 5) (v := ?_) rfl (by kernel_rfl) (by kernel_rfl) (by kernel_rfl) (fun _ _ _ h => h) (by kernel_rfl) ?_ (fun _ => (HCS.out _ HK.out)) ?_
       rotate_left
       · (intro wq; first | (go_simp; done) | (go_simp; with_reducible rfl))
       try simp only [List.getElem_toArray, List.getElem_cons_zero, List.getElem_cons_succ, Act.put, List.setIfInBounds_toArray, List.set_cons_zero, List.set_cons_succ]
       all_goals (
        first
         | refine wpAnyK_ready (rs := [6]) (by decide +kernel) (by simp) ?_
        repeat' (first | exact AllReadyK.nil | (refine AllReadyK.cons rfl (fun K hK => ?_) ?_)))
       all_goals (
        first
         | (go_simp
            first
             | (go_at_call 119
                refine (HSEC.out wc).mono ?_
                rintro E wn ⟨rfl, rfl⟩
                go_wp2_with fail
                refine hK.out _ _ (HCS.out _ HK.out) (fun _ => ?_)
                clear hK K
                try simp only [List.getElem_toArray, List.getElem_cons_zero, List.getElem_cons_succ, Act.put, List.setIfInBounds_toArray, List.set_cons_zero, List.set_cons_succ]
                refine wpAnyK_free (i := 7) (v := ?_) rfl (by kernel_rfl) (by kernel_rfl) (by kernel_rfl) (fun _ _ _ h => h) (by kernel_rfl) ?_ (fun _ => (HCS.out _ HK.out)) ?_
                rotate_left
                · (intro wq; first | (go_simp; done) | (go_simp; with_reducible rfl))
                try simp only [List.getElem_toArray, List.getElem_cons_zero, List.getElem_cons_succ, Act.put, List.setIfInBounds_toArray, List.set_cons_zero, List.set_cons_succ]
                refine wpAnyK_free (i := 8) (v := ?_) rfl (by kernel_rfl) (by kernel_rfl) (by kernel_rfl) (fun _ _ _ h => h) (by kernel_rfl) ?_ (fun _ => (HCS.out _ HK.out)) ?_
                rotate_left
                · (intro wq; first | (go_simp; done) | (go_simp; with_reducible rfl))
                try simp only [List.getElem_toArray, List.getElem_cons_zero, List.getElem_cons_succ, Act.put, List.setIfInBounds_toArray, List.set_cons_zero, List.set_cons_succ]
                refine wpAnyK_free (i := 9) (v := ?_) rfl (by kernel_rfl) (by kernel_rfl) (by kernel_rfl) (fun _ _ _ h => h) (by kernel_rfl) ?_ (fun _ => (HCS.out _ HK.out)) ?_
                rotate_left
                · (intro wq; first | (go_simp; done) | (go_simp; with_reducible rfl))
                try simp only [List.getElem_toArray, List.getElem_cons_zero, List.getElem_cons_succ, Act.put, List.setIfInBounds_toArray, List.set_cons_zero, List.set_cons_succ])))
       all_goals (
        have n1 := HCS.out _ HK.out
        have g1 := blk_free (HK.out.heap HT5.out) 4
        refine wpAnyK_last (i := 10) (by kernel_rfl) rfl (by kernel_rfl) ?_
        intro K hK
        go_simp
        refine hK.out _ _ ?_
        clear hK K
        try simp only [List.getElem_toArray, List.getElem_cons_zero, List.getElem_cons_succ, Act.put, List.setIfInBounds_toArray, List.set_cons_zero, List.set_cons_succ])
       all_goals (
        refine wpAnyK_done (by kernel_rfl) ?_ _
        refine NoPanic.normal ?_
        clear n1 g1
        have h7 := setCell_row (i := 4) (HK.out.heap HT5.out) (.int .i64 ((of : Int) + (sc : Int)))
        have hk7 : KeepT [190, 234, 257, 209] w (wc.setCell ⟨lb, 4, none⟩ (.int .i64 ((of : Int) + (sc : Int)))) := (HK5.out.trans (KeepT.of_ext HK.out)).set (HK.out.heap HT5.out) (by decide) 4 _
        have hk75 : KeepT [209] w5 (wc.setCell ⟨lb, 4, none⟩ (.int .i64 ((of : Int) + (sc : Int)))) := (KeepT.of_ext HK.out).set (HK.out.heap HT5.out) (by decide) 4 _
        generalize wc.setCell ⟨lb, 4, none⟩ (.int .i64 ((of : Int) + (sc : Int))) = w7 at h7 hk7 hk75 ⊢
        have hd7 := HD.out.keepT hk75 (by decide)
        have hr7 := HRW5.out.keepT hk75 (by decide) (by decide)
        have hb7 := HDB5.out.keep hk75 (KeepT.datas (by decide))
        have ht7 : w7.heap[lb]? = some (.cells (logV db { LK with off := of + sc } la' lc') 209 (0, 0)) := by
         rw [h7]
         unfold logV
         simp only [Int.natCast_add]
         rfl
        have HT7 := Lib.hid ht7; have HK7 := Lib.hid hk7; have HD7 := Lib.hid hd7; have HB7 := Lib.hid hb7
        obtain ⟨Z, hZ, hro, hzd⟩ := hr7
        rw [HLK.out] at hro
        have HZ := Lib.hid hZ; have HO := Lib.hid hro; have HZD := Lib.hid hzd
        clear h7 hk7 hk75 hd7 hb7 ht7 HD HRW5 HDB5 HT5 HK5 HCS HK hZ hro hzd
        go_upto_region 24 with (fail)
        have HCS : Hid (∀ W, KeepT [50] w7 W → W.cell? ⟨lb, 5, none⟩ = some (.slice la' k lc')) := Lib.hid fun W q => by
         have h5 := blk_cell (q.heap HT7.out (by decide)) 5 (.slice la' LK.list.length lc') rfl
         rw [HLK.out] at h5
         exact h5
        have HK : Hid (KeepT [50] w7 w7.drew) := Lib.hid (KeepT.drew (KeepT.refl _ _))
        have HKO : Hid (KeepT [190, 234, 257, 209] w w7.drew) := Lib.hid (HK7.out.drew)
        replace HO := Lib.hid (ownsRow_keep HO.out (show Keep (fun _ => True) w7 w7.drew from ⟨rfl, rfl, rfl, Nat.le_refl _, fun _ _ _ => rfl⟩) (fun _ _ _ _ _ => trivial))
        have HB8 := Lib.hid (HB7.out.keep (Keep.of_ext (S := fun _ => True) ((Ext.refl w7).drew)) (datas_all _))
        refine wp_region_noPanic ?_
        refine wp_region_K (S := (fun W => W.cell? ⟨lb, 5, none⟩ = some (.slice la' k lc'))) (I := [4]) (by kernel_rfl) (HCS.out _ HK.out) (fun hHeld => ?_)
        clear hHeld
        generalize w7.drew = wc at HK HO HB8 HKO ⊢
        refine wpAnyK_free (i := 0) (v := ?_) rfl (by kernel_rfl) (by kernel_rfl) (by kernel_rfl) (fun _ _ _ h => h) (by kernel_rfl) ?_ (fun _ => (HCS.out _ HK.out)) ?_
        rotate_left
        · (intro wq; first | (go_simp; done) | (go_simp; with_reducible rfl))
        try simp only [List.getElem_toArray, List.getElem_cons_zero, Act.put, List.setIfInBounds_toArray, List.set_cons_zero, List.set_cons_succ]
        refine wpAnyK_free (i := 1) (v := ?_) rfl (by kernel_rfl) (by kernel_rfl) (by kernel_rfl) (fun _ _ _ h => h) (by kernel_rfl) ?_ (fun _ => (HCS.out _ HK.out)) ?_
        rotate_left
        · (intro wq; first | (go_simp; done) | (go_simp; with_reducible rfl))
        try simp only [List.getElem_toArray, List.getElem_cons_zero, List.getElem_cons_succ, Act.put, List.setIfInBounds_toArray, List.set_cons_zero, List.set_cons_succ]
        refine wpAnyK_free (i := 2) (v := ?_) rfl (by kernel_rfl) (by kernel_rfl) (by kernel_rfl) (fun _ _ _ h => h) (by kernel_rfl) ?_ (fun _ => (HCS.out _ HK.out)) ?_
        rotate_left
        · (intro wq; first | (go_simp; done) | (go_simp; with_reducible rfl))
        try simp only [List.getElem_toArray, List.getElem_cons_zero, List.getElem_cons_succ, Act.put, List.setIfInBounds_toArray, List.set_cons_zero, List.set_cons_succ]
        refine wpAnyK_free (i := 3) (v := ?_) rfl (by kernel_rfl) (by kernel_rfl) (by kernel_rfl) (fun _ _ _ h => h) (by kernel_rfl) ?_ (fun _ => (HCS.out _ HK.out)) ?_
        rotate_left
        · (intro wq; first | (go_simp; done) | (go_simp; with_reducible rfl))
        try simp only [List.getElem_toArray, List.getElem_cons_zero, List.getElem_cons_succ, Act.put, List.setIfInBounds_toArray, List.set_cons_zero, List.set_cons_succ]
        refine wpAnyK_load (i := 4) (v := ?_) rfl (by kernel_rfl) (by kernel_rfl) (by kernel_rfl) (fun _ _ _ h => h) (by kernel_rfl) (by kernel_rfl) ?_ (HCS.out _ HK.out) ?_
        rotate_left
        · (intro wq hSw; (try dsimp only at hSw); first | (go_simp; done) | (go_simp; with_reducible rfl))
        try simp only [List.getElem_toArray, List.getElem_cons_zero, List.getElem_cons_succ, Act.put, List.setIfInBounds_toArray, List.set_cons_zero, List.set_cons_succ]
        refine wpAnyK_free (i := 5) (v := ?_) rfl (by kernel_rfl) (by kernel_rfl) (by kernel_rfl) (fun _ _ _ h => h) (by kernel_rfl) ?_ (fun _ => (HCS.out _ HK.out)) ?_
        rotate_left
        · (intro wq; first | (go_simp; done) | (go_simp; with_reducible rfl))
        try simp only [List.getElem_toArray, List.getElem_cons_zero, List.getElem_cons_succ, Act.put, List.setIfInBounds_toArray, List.set_cons_zero, List.set_cons_succ]
        all_goals (
         first
          | refine wpAnyK_ready (rs := [6]) (by decide +kernel) (by simp) ?_
         repeat' (first | exact AllReadyK.nil | (refine AllReadyK.cons rfl (fun K hK => ?_) ?_)))
        all_goals (
         first
          | (refine step_append_any (by rfl) _ _ 50 5 (.int .u8 0) 1 1 (by rfl) Tryz.underlying50 info_byte1 rfl (by decide) wc.heap.size none 0 0 [] (by rfl) (World.ownsRow_nil _ _ _ _) p bn pc (byteV b) (by simp [Act.eval]) (by rw [byteV_len, HBN.out, Nat.mul_one]) HB8.out.bytes.run (byteV_one b) (by omega) (by decide) (Nat.le_refl _) bn (by omega) ?_
             intro a6 c6 wn hown hkp hbl
             have hx : Ext wc wn := (hkp.mono (T := fun _ => True) (fun _ _ _ => by simp [Value.ownBlock])).ext
             replace HK := Lib.hid (HK.out.trans (KeepT.of_ext hx))
             replace HKO := Lib.hid (HKO.out.trans (KeepT.of_ext hx))
             replace HO := Lib.hid (ownsRow_keep HO.out (Keep.of_ext (S := fun _ => True) hx) (fun _ _ _ _ _ => trivial))
             obtain ⟨a6x, c6x, hve, h6c, h6d, _⟩ := DataM.of_row (l := b) (by simpa using hown)
             cases hve
             have H6 := Lib.hid h6d; have H6C := Lib.hid h6c
             clear hown hkp hbl hx h6d h6c
             refine hK.out _ _ (HCS.out _ HK.out) (fun _ => ?_)
             clear hK K
             obtain ⟨wc, rfl⟩ : ∃ x : World, x = wn := ⟨_, rfl⟩
             try simp only [List.getElem_toArray, List.getElem_cons_zero, List.getElem_cons_succ, Act.put, List.setIfInBounds_toArray, List.set_cons_zero, List.set_cons_succ]))
        all_goals (
         first
          | refine wpAnyK_ready (rs := [7]) (by decide +kernel) (by simp) ?_
         repeat' (first | exact AllReadyK.nil | (refine AllReadyK.cons rfl (fun K hK => ?_) ?_)))
        all_goals (
         first
          | (go_simp
             first
              | (have hx := Ext.alloc wc (.cells #[.slice a6 bn c6] 50)
                 have hbn := heap_alloc_new wc (.cells #[.slice a6 bn c6] 50)
                 refine hK.out _ (wc.alloc (.cells #[.slice a6 bn c6] 50)) (HCS.out _ (HK.out.trans (KeepT.of_ext hx))) (fun _ => ?_)
                 clear hK K
                 replace HK := Lib.hid (HK.out.trans (KeepT.of_ext hx))
                 replace HKO := Lib.hid (HKO.out.trans (KeepT.of_ext hx))
                 replace HO := Lib.hid (ownsRow_keep HO.out (Keep.of_ext (S := fun _ => True) hx) (fun _ _ _ _ _ => trivial))
                 replace H6 := Lib.hid (H6.out.keep (Keep.of_ext (S := fun _ => True) hx) (datas_all _))
                 obtain ⟨GN, hB⟩ : ∃ x, x = wc.heap.size := ⟨_, rfl⟩
                 rw [← hB] at hbn ⊢
                 have HGN := Lib.hid hbn
                 clear hbn hB hx
                 generalize wc.alloc (.cells #[.slice a6 bn c6] 50) = wc at *
                 try simp only [List.getElem_toArray, List.getElem_cons_zero, List.getElem_cons_succ, Act.put, List.setIfInBounds_toArray, List.set_cons_zero, List.set_cons_succ])))
        all_goals (
         first
          | refine wpAnyK_ready (rs := [8]) (by decide +kernel) (by simp) ?_
         repeat' (first | exact AllReadyK.nil | (refine AllReadyK.cons rfl (fun K hK => ?_) ?_)))
        all_goals (
         first
          | (refine step_append_any (by rfl) _ _ 194 50 (.slice none 0 0) 1 24 (by rfl) Tryz.underlying194 info_row rfl (by decide) w.heap.size la' k lc' (Z.flatMap rowV) (by simp [Act.eval]) HO.out (some ⟨GN, 0, none⟩) 1 1 [.slice a6 bn c6] (by simp [Act.eval]) rfl (run_blk HGN.out) (by intro u hu; rw [List.mem_singleton.1 hu]; rfl) (by omega) (by decide) HKO.out.size (k + 1) (by omega) ?_
             intro a8 c8 wn hown hkp hbl
             have HKP := Lib.hid HK.out
             have hkt := KeepT.grown (ts := [50]) hkp HO.out (by decide) HLS.out
             replace HK := Lib.hid (HK.out.trans hkt)
             replace HKO := Lib.hid (KeepT.own HKO.out hkp HO.out)
             have hra := rows_app (c := lc') (c' := c8) (D := LK.list) (l := b) (o := ⟨a6, c6⟩) HZ.out (by rw [HLK.out]; exact HO.out) (fun z hz => ⟨(HZD.out z hz).1.keep HKP.out (KeepT.datas (by decide)), (HZD.out z hz).2⟩) H6.out (by rw [HBN.out]; exact H6C.out) (by rw [HLK.out, HBN.out]; exact hown) (by rw [HLK.out]; exact hkp)
             have HRA := Lib.hid hra
             clear hown hkp hbl hkt hra HO
             refine hK.out _ _ (HCS.out _ HK.out) (fun _ => ?_)
             clear hK K
             obtain ⟨wc, rfl⟩ : ∃ x : World, x = wn := ⟨_, rfl⟩
             try simp only [List.getElem_toArray, List.getElem_cons_zero, List.getElem_cons_succ, Act.put, List.setIfInBounds_toArray, List.set_cons_zero, List.set_cons_succ]
             refine wpAnyK_free (i := 9) (v := ?_) rfl (by kernel_rfl) (by kernel_rfl) (by kernel_rfl) (fun _ _ _ h => h) (by kernel_rfl) ?_ (fun _ => (HCS.out _ HK.out)) ?_
             rotate_left
             · (intro wq; first | (go_simp; done) | (go_simp; with_reducible rfl))
             try simp only [List.getElem_toArray, List.getElem_cons_zero, List.getElem_cons_succ, Act.put, List.setIfInBounds_toArray, List.set_cons_zero, List.set_cons_succ]
             refine wpAnyK_free (i := 10) (v := ?_) rfl (by kernel_rfl) (by kernel_rfl) (by kernel_rfl) (fun _ _ _ h => h) (by kernel_rfl) ?_ (fun _ => (HCS.out _ HK.out)) ?_
             rotate_left
             · (intro wq; first | (go_simp; done) | (go_simp; with_reducible rfl))
             try simp only [List.getElem_toArray, List.getElem_cons_zero, List.getElem_cons_succ, Act.put, List.setIfInBounds_toArray, List.set_cons_zero, List.set_cons_succ]))
        all_goals (
         have n1 := HCS.out _ HK.out
         have g1 := blk_free (HK.out.heap HT7.out (by decide)) 5
         refine wpAnyK_last (i := 11) (by kernel_rfl) rfl (by kernel_rfl) ?_
         intro K hK
         go_simp
         refine hK.out _ _ ?_
         clear hK K
         try simp only [List.getElem_toArray, List.getElem_cons_zero, List.getElem_cons_succ, Act.put, List.setIfInBounds_toArray, List.set_cons_zero, List.set_cons_succ])
        all_goals (
         refine wpAnyK_done (by kernel_rfl) ?_ _
         refine NoPanic.normal ?_
         clear n1 g1
         have ht8 := HK.out.heap HT7.out (by decide)
         have h9 := setCell_row (i := 5) ht8 (.slice a8 (k + 1) c8)
         have hk97 : KeepT [209, 50] w7 (wc.setCell ⟨lb, 5, none⟩ (.slice a8 (k + 1) c8)) := (HK.out.mono (by decide)).set ht8 (by decide) 5 _
         have hk9c : KeepT [209] wc (wc.setCell ⟨lb, 5, none⟩ (.slice a8 (k + 1) c8)) := (KeepT.refl _ _).set ht8 (by decide) 5 _
         have hk9o := HKO.out.trans (hk9c.mono (by decide))
         generalize wc.setCell ⟨lb, 5, none⟩ (.slice a8 (k + 1) c8) = w9 at h9 hk97 hk9c hk9o ⊢
         have hra9 := HRA.out.keepT hk9c (by decide) (by decide)
         have hd9 := HD7.out.keepT hk97 (by decide)
         rw [← HTK.out] at hra9
         have ht9 : w9.heap[lb]? = some (.cells (logV db (newL L (rows.take (k + 1))) a8 c8) 209 (0, 0)) := by
          rw [h9, ← HAPP.out]
          unfold logV appL
          simp only [List.length_append, HLK.out, HBN.out, HSC.out, HOF.out]
          rfl
         rw [← HOF.out] at hd9
         have HTP9 : Hid (∃ la lc, w9.heap[lb]? = some (.cells (logV db (newL L (rows.take (k + 1))) la lc) 209 (0, 0)) ∧ RowsM w9 w.heap.size la lc (rows.take (k + 1))) := Lib.hid ⟨_, _, ht9, hra9⟩
         have HDK9 : Hid (∃ C, applyI img C = putsI img (baseN n (1 - L.half)) 0 (L.top + 1) (rows.take (k + 1)) ∧ C.length = secsN (rows.take (k + 1)) ∧ DiskC w9 db kb n img C) := Lib.hid ⟨_, HPA.out.symm, HCL.out, hd9⟩
         have HKT9 := Lib.hid hk9o
         clear h9 hk97 hk9c hk9o hra9 hd9 ht8 ht9
         go_wp2_with fail
         go_roundw
         case rel => exact ⟨k + 1, by go_num, by omega, HTP9, HDK9, HKT9⟩
         case measure => simp [intOf]; omega))
     · have hkk : k = m := by omega
       have hmm := HM.out
       obtain ⟨la', lc', ht, hro⟩ := HTP.out
       obtain ⟨C, hCa, hCl, hdk⟩ := HDK.out
       rw [hkk, hmm, List.take_length] at ht hro hCa hCl
       clear HTP HDK hkk hmm
       have hfl := disk_Flush hdk (by rw [hCl, HSR.out]; omega)
       rw [hCa] at hfl
       clear hCa hCl hdk
       have d0 := blk_cell ht 0 (.pointer (some ⟨db, 0, none⟩)) rfl
       have HT4 := Lib.hid ht; have HRO := Lib.hid hro; have HFL := Lib.hid hfl
       clear ht hro hfl
       go_upto_region 30 with (go_at_call 122; refine HFL.out.mono ?_; rintro E w6 ⟨rfl, hd6, hk6⟩; have HD6 := Lib.hid hd6; have HK6 := Lib.hid hk6; clear hd6 hk6)
       rw [alloc_sector]
       clear d0 HFL
       have HT6 := Lib.hid (HK6.out.heap HT4.out (by decide))
       have HRW6 := Lib.hid (HRO.out.keepT HK6.out (by decide) (by decide))
       have HKW6 : Hid (KeepT [190, 234, 257, 209] w w6) := Lib.hid (HKT.out.trans (KeepT.mono HK6.out (by decide)))
       clear HT4 HRO HK6 HKT
       have hx := Ext.alloc w6 (.cells (byteV zeroS).toArray 234)
       have hs := sec_zero w6
       obtain ⟨sb, hsb⟩ : ∃ sb, sb = w6.heap.size := ⟨_, rfl⟩
       rw [← hsb] at hs ⊢
       have HSB0 := Lib.hid (show w6.heap.size ≤ sb by omega)
       clear hsb
       generalize w6.alloc (.cells (byteV zeroS).toArray 234) = w7 at hx hs ⊢
       have c0 : w7.cell? ⟨sb, 0, none⟩ = some (.int .u8 0) := blk_cell hs.2 0 _ rfl
       have f0 := blk_free hs.2 0
       have h8 := setCell_row (i := 0) hs.2 (.int .u8 1)
       rw [zero_mark] at h8
       have hx8 := ext_ne hx HSB0.out ((Keep.refl (· ≠ sb) w7).setCell (fun _ h => h) 0 (.int .u8 1))
       have HS8 := Lib.hid h8; have HX8 := Lib.hid hx8
       clear h8 hx8 hx hs
       go_upto_region 31 with (fail)
       clear c0 f0
       generalize w7.setCell ⟨sb, 0, none⟩ (.int .u8 1) = w8 at HS8 HX8 ⊢
       have hep : (newL L rows).epoch = L.top + 1 := rfl
       have hhf2 : (newL L rows).half = 1 - L.half := rfl
       have hn1 := fun W => rec_num ((L.top + 1 : Nat) : Int) W
       have hn2 := fun W => rec_num (((crcL (hdrB (L.top + 1))).toNat : Nat) : Int) W
       rw [numI_num4 (n := L.top + 1) (by omega)] at hn1
       have hq : (crcL (hdrB (L.top + 1))).toNat < 4294967296 := (crcL _).isLt
       rw [numI_num4 hq] at hn2
       have hcr := fun W a c (hp : Parts W a [hdrB (L.top + 1)]) => crc_ofs a c [hdrB (L.top + 1)] W hp (by intro l hl; rw [List.mem_singleton.1 hl]; simp [hdrB, num4_len]) (by simp)
       have hfl1 : [hdrB (L.top + 1)].flatten = hdrB (L.top + 1) := by simp
       rw [hfl1] at hcr
       have hc1 := hdr_first (L.top + 1)
       have hc2 := hdr_cells (L.top + 1)
       have hc3 := hdr_len1 (L.top + 1)
       have hl5 : (hdrB (L.top + 1)).length = 5 := by simp [hdrB, num4_len]
       have hri : rewI n img L rows = applyI (putsI img (baseN n (1 - L.half)) 0 (L.top + 1) rows) ([] ++ [(1 - L.half, hdrS (L.top + 1))]) := rfl
       have HRI := Lib.hid hri; clear hri hfl1
       have hN1 : (num4 (L.top + 1)).length = 4 := num4_len _
       have hN2 : (num4 (crcL (hdrB (L.top + 1))).toNat).length = 4 := num4_len _
       generalize (Value.int .u8 1 :: (byteV zeroS).tail) = Z0 at HS8 hc1 hc2 hc3
       generalize num4 (crcL (hdrB (L.top + 1))).toNat = N2 at hn2 hc2 hN2
       generalize (crcL (hdrB (L.top + 1))).toNat = sm at hn2 hcr hq
       generalize num4 (L.top + 1) = N1 at hn1 hc1 hc2 hc3 hN1
       generalize hdrB (L.top + 1) = HB1 at hcr hc1 hl5
       have hsl : (hdrS (L.top + 1)).length = 64 := hdrS_len _
       generalize hdrS (L.top + 1) = HS at hc2 HRI hsl
       have hrp : RowsM w6 Low.low la' lc' (newL L rows).list := HRW6.out.base HLS.out
       generalize hgn : newL L rows = LN at HT6 hep hhf2 HR hrp
       have HGN := Lib.hid hgn; clear hgn
       have HRP := Lib.hid hrp; clear hrp HRW6
       generalize L.top + 1 = ep at hep hn1 HRI HD6
       have hwr : IntKind.i64.wrap (sm : Int) = (sm : Int) := by rw [IntKind.wrap_i64]; omega
       have HN1 := Lib.hid hn1; have HN2 := Lib.hid hn2; have HCR := Lib.hid hcr; have HC1 := Lib.hid hc1; have HC2 := Lib.hid hc2; have HC3 := Lib.hid hc3; have HL5 := Lib.hid hl5; have HL1 := Lib.hid hN1; have HL2 := Lib.hid hN2; have HSL := Lib.hid hsl
       have HEP := Lib.hid hep; have HHF2 := Lib.hid hhf2
       clear hn1 hn2 hcr hc1 hc2 hc3 hl5 hN1 hN2 hsl hep hhf2
       have HCS : Hid (∀ W, Ext w6 W → W.cell? ⟨lb, 1, none⟩ = some (.int .i64 (ep : Int))) := Lib.hid fun W k => by
        have h1 := blk_cell (k.heap HT6.out) 1 (.int .i64 (LN.epoch : Int)) rfl
        rw [HEP.out] at h1
        exact h1
       have HK : Hid (Ext w6 w8.drew) := Lib.hid HX8.out.drew
       have HSB : Hid (w8.drew.heap[sb]? = some (.cells Z0.toArray 234 (0, 0))) := Lib.hid HS8.out
       refine wp_region_noPanic ?_
       refine wp_region_held_drew (S := (fun W => W.cell? ⟨lb, 1, none⟩ = some (.int .i64 (ep : Int)))) (by kernel_rfl) (HCS.out _ HK.out) (fun hHeld => ?_)
       clear hHeld
       generalize w8.drew = wc at HK HSB ⊢
       refine wpAnyH_take (i := 0) (v := ?_) rfl (by kernel_rfl) (by kernel_rfl) (by kernel_rfl) (fun _ _ _ h => h) (Or.inl ⟨by kernel_rfl, ?_⟩) (HCS.out _ HK.out) ?_
       rotate_left
       · (intro wq _; first | (go_simp; done) | (go_simp; with_reducible rfl))
       try simp only [List.getElem_toArray, List.getElem_cons_zero, Act.put, List.setIfInBounds_toArray, List.set_cons_zero, List.set_cons_succ]
       refine wpAnyH_take (i := 1) (v := ?_) rfl (by kernel_rfl) (by kernel_rfl) (by kernel_rfl) (fun _ _ _ h => h) (Or.inl ⟨by kernel_rfl, ?_⟩) (HCS.out _ HK.out) ?_
       rotate_left
       · (intro wq _; first | (go_simp; done) | (go_simp; with_reducible rfl))
       try simp only [List.getElem_toArray, List.getElem_cons_zero, List.getElem_cons_succ, Act.put, List.setIfInBounds_toArray, List.set_cons_zero, List.set_cons_succ]
       refine wpAnyH_take (i := 2) (v := ?_) rfl (by kernel_rfl) (by kernel_rfl) (by kernel_rfl) (fun _ _ _ h => h) (Or.inl ⟨by kernel_rfl, ?_⟩) (HCS.out _ HK.out) ?_
       rotate_left
       · (intro wq _; first | (go_simp; done) | (go_simp; with_reducible rfl))
       try simp only [List.getElem_toArray, List.getElem_cons_zero, List.getElem_cons_succ, Act.put, List.setIfInBounds_toArray, List.set_cons_zero, List.set_cons_succ]
       refine wpAnyH_take (i := 3) (v := ?_) rfl (by kernel_rfl) (by kernel_rfl) (by kernel_rfl) (fun _ _ _ h => h) (Or.inl ⟨by kernel_rfl, ?_⟩) (HCS.out _ HK.out) ?_
       rotate_left
       · (intro wq _; first | (go_simp; done) | (go_simp; with_reducible rfl))
       try simp only [List.getElem_toArray, List.getElem_cons_zero, List.getElem_cons_succ, Act.put, List.setIfInBounds_toArray, List.set_cons_zero, List.set_cons_succ]
       refine wpAnyH_take (i := 4) (v := ?_) rfl (by kernel_rfl) (by kernel_rfl) (by kernel_rfl) (fun _ _ _ h => h) (Or.inl ⟨by kernel_rfl, ?_⟩) (HCS.out _ HK.out) ?_
       rotate_left
       · (intro wq hSw; (try dsimp only at hSw); first | (go_simp; done) | (go_simp; with_reducible rfl))
       try simp only [List.getElem_toArray, List.getElem_cons_zero, List.getElem_cons_succ, Act.put, List.setIfInBounds_toArray, List.set_cons_zero, List.set_cons_succ]
       all_goals (
        first
         | refine wpAnyH_ready (rs := [5]) (by decide +kernel) (by simp) ?_
        repeat' (first | exact AllReadyH.nil | (refine AllReadyH.cons rfl (fun K hK => ?_) ?_)))
       all_goals (
        first
         | (go_simp
            first
             | (go_at_call 124
                refine (HN1.out wc).mono ?_
                rintro E wn ⟨a5, c5, rfl, o5, hx⟩
                obtain ⟨a5x, c5x, hve, h5c, h5d, _⟩ := DataM.of_row o5
                cases hve
                have H5 := Lib.hid h5d
                replace HSB := Lib.hid (hx.heap HSB.out)
                replace HK := Lib.hid (HK.out.trans hx)
                clear o5 h5c h5d hx
                go_wp2_with fail
                refine hK.out _ _ (HCS.out _ HK.out) (fun _ => ?_)
                clear hK K
                obtain ⟨wc, rfl⟩ : ∃ x : World, x = wn := ⟨_, rfl⟩
                try simp only [List.getElem_toArray, List.getElem_cons_zero, List.getElem_cons_succ, Act.put, List.setIfInBounds_toArray, List.set_cons_zero, List.set_cons_succ])))
       all_goals (
        first
         | refine wpAnyH_ready (rs := [6]) (by decide +kernel) (by simp) ?_
        repeat' (first | exact AllReadyH.nil | (refine AllReadyH.cons rfl (fun K hK => ?_) ?_)))
       all_goals (
        first
         | (refine step_copy_mid (by rfl) _ _ _ (by rfl) sb 1 63 63 (by simp [Act.eval]) a5 N1 N1.length c5 (by simp [Act.eval]) rfl (by intro e; have h := HL1.out; rw [e] at h; cases h) (by have := HL1.out; omega) H5.out (there_blk HSB.out (by rw [List.size_toArray, show Z0.length = 64 by have h := HC3.out; simp only [List.length_append, List.length_take, List.length_drop, byteV_len, HL1.out] at h; omega, HL1.out]; omega)) ?_
            have hsp := setCells_splice HSB.out 1 (byteV N1) (by rw [byteV_len, show Z0.length = 64 by have h := HC3.out; simp only [List.length_append, List.length_take, List.length_drop, byteV_len, HL1.out] at h; omega, HL1.out]; omega)
            have hkx := ext_ne HK.out HSB0.out (setCells_keep (byteV N1) 1 wc)
            replace HSB := Lib.hid hsp
            replace HK := Lib.hid hkx
            clear hsp hkx H5
            refine hK.out _ _ (HCS.out _ HK.out) (fun _ => ?_)
            clear hK K
            generalize wc.setCells sb 1 (byteV N1) = wc at *
            try simp only [List.getElem_toArray, List.getElem_cons_zero, List.getElem_cons_succ, Act.put, List.setIfInBounds_toArray, List.set_cons_zero, List.set_cons_succ]))
       all_goals (
        refine wpAnyH_done (by kernel_rfl) ?_ _
        refine NoPanic.normal ?_
        go_upto_region 32 with (fail)
        clear HCS
        replace HK := Lib.hid HK.out.drew
        generalize hZ1 : Z0.take 1 ++ (byteV N1 ++ Z0.drop (1 + (byteV N1).length)) = Z1 at HSB HC1 HC2 HC3
        clear hZ1
        replace HSB : Hid (wc.drew.heap[sb]? = some (.cells Z1.toArray 234 (0, 0))) := Lib.hid HSB.out
        refine wp_region_noPanic ?_
        refine wp_region_held_drew (S := (fun _ => True)) (by kernel_rfl) trivial (fun hHeld => ?_)
        clear hHeld
        generalize wc.drew = wc at HK HSB ⊢
        refine wpAnyH_take (i := 0) (v := ?_) rfl (by kernel_rfl) (by kernel_rfl) (by kernel_rfl) (fun _ _ _ h => h) (Or.inl ⟨by kernel_rfl, ?_⟩) trivial ?_
        rotate_left
        · (intro wq _; first | (go_simp; done) | (go_simp; with_reducible rfl))
        try simp only [List.getElem_toArray, List.getElem_cons_zero, Act.put, List.setIfInBounds_toArray, List.set_cons_zero, List.set_cons_succ]
        refine wpAnyH_take (i := 1) (v := ?_) rfl (by kernel_rfl) (by kernel_rfl) (by kernel_rfl) (fun _ _ _ h => h) (Or.inl ⟨by kernel_rfl, ?_⟩) trivial ?_
        rotate_left
        · (intro wq _; first | (go_simp; done) | (go_simp; with_reducible rfl))
        try simp only [List.getElem_toArray, List.getElem_cons_zero, List.getElem_cons_succ, Act.put, List.setIfInBounds_toArray, List.set_cons_zero, List.set_cons_succ]
        all_goals (
         first
          | refine wpAnyH_ready (rs := [2]) (by decide +kernel) (by simp) ?_
         repeat' (first | exact AllReadyH.nil | (refine AllReadyH.cons rfl (fun K hK => ?_) ?_)))
        all_goals (
         first
          | (go_simp
             first
              | (have hx := Ext.alloc wc (.cells #[.slice (some ⟨sb, 0, none⟩) 5 64] 50)
                 have hbn := heap_alloc_new wc (.cells #[.slice (some ⟨sb, 0, none⟩) 5 64] 50)
                 refine hK.out _ (wc.alloc (.cells #[.slice (some ⟨sb, 0, none⟩) 5 64] 50)) trivial (fun _ => ?_)
                 clear hK K
                 replace HSB := Lib.hid (hx.heap HSB.out)
                 replace HK := Lib.hid (HK.out.trans hx)
                 obtain ⟨G2, hB⟩ : ∃ x, x = wc.heap.size := ⟨_, rfl⟩
                 rw [← hB] at hbn ⊢
                 have HG2 := Lib.hid hbn
                 clear hbn hB hx
                 generalize wc.alloc (.cells #[.slice (some ⟨sb, 0, none⟩) 5 64] 50) = wc at *
                 try simp only [List.getElem_toArray, List.getElem_cons_zero, List.getElem_cons_succ, Act.put, List.setIfInBounds_toArray, List.set_cons_zero, List.set_cons_succ])))
        all_goals (
         first
          | refine wpAnyH_ready (rs := [3]) (by decide +kernel) (by simp) ?_
         repeat' (first | exact AllReadyH.nil | (refine AllReadyH.cons rfl (fun K hK => ?_) ?_)))
        all_goals (
         first
          | (go_simp
             first
              | (go_at_call 168
                 have hbb := bytes_of_cells HSB.out HC1.out
                 have hps := PartsS.one (c := 64) hbb.row
                 rw [HL5.out] at hps
                 refine (HCR.out wc (some ⟨G2, 0, none⟩) 1 (parts_blk (vs := [.slice (some ⟨sb, 0, none⟩) 5 64]) HG2.out hps)).mono ?_
                 rintro E wn ⟨rfl, rfl⟩
                 clear hps hbb
                 go_wp2_with fail
                 refine hK.out _ _ trivial (fun _ => ?_)
                 clear hK K
                 try simp only [List.getElem_toArray, List.getElem_cons_zero, List.getElem_cons_succ, Act.put, List.setIfInBounds_toArray, List.set_cons_zero, List.set_cons_succ]
                 refine wpAnyH_take (i := 4) (v := ?_) rfl (by kernel_rfl) (by kernel_rfl) (by kernel_rfl) (fun _ _ _ h => h) (Or.inl ⟨by kernel_rfl, ?_⟩) trivial ?_
                 rotate_left
                 · (intro wq _; first | (go_simp; done) | (go_simp; with_reducible rfl))
                 try simp only [List.getElem_toArray, List.getElem_cons_zero, List.getElem_cons_succ, Act.put, List.setIfInBounds_toArray, List.set_cons_zero, List.set_cons_succ])))
        all_goals (
         first
          | refine wpAnyH_ready (rs := [5]) (by decide +kernel) (by simp) ?_
         repeat' (first | exact AllReadyH.nil | (refine AllReadyH.cons rfl (fun K hK => ?_) ?_)))
        all_goals (
         first
          | (go_simp
             first
              | (go_at_call 124
                 refine (HN2.out wc).mono ?_
                 rintro E wn ⟨a7, c7, rfl, o7, hx⟩
                 obtain ⟨a7x, c7x, hve, h5c, h5d, _⟩ := DataM.of_row o7
                 cases hve
                 have H7 := Lib.hid h5d
                 replace HSB := Lib.hid (hx.heap HSB.out)
                 replace HK := Lib.hid (HK.out.trans hx)
                 clear o7 h5c h5d hx
                 go_wp2_with fail
                 refine hK.out _ _ trivial (fun _ => ?_)
                 clear hK K
                 obtain ⟨wc, rfl⟩ : ∃ x : World, x = wn := ⟨_, rfl⟩
                 try simp only [List.getElem_toArray, List.getElem_cons_zero, List.getElem_cons_succ, Act.put, List.setIfInBounds_toArray, List.set_cons_zero, List.set_cons_succ])))
        all_goals (
         first
          | refine wpAnyH_ready (rs := [6]) (by decide +kernel) (by simp) ?_
         repeat' (first | exact AllReadyH.nil | (refine AllReadyH.cons rfl (fun K hK => ?_) ?_)))
        all_goals (
         first
          | (refine step_copy_mid (by rfl) _ _ _ (by rfl) sb 5 59 59 (by simp [Act.eval]) a7 N2 N2.length c7 (by simp [Act.eval]) rfl (by intro e; have h := HL2.out; rw [e] at h; cases h) (by have := HL2.out; omega) H7.out (there_blk HSB.out (by rw [List.size_toArray, HC3.out, HL2.out]; omega)) ?_
             have hsp := setCells_splice HSB.out 5 (byteV N2) (by rw [byteV_len, HC3.out, HL2.out]; omega)
             have hkx := ext_ne HK.out HSB0.out (setCells_keep (byteV N2) 5 wc)
             replace HSB := Lib.hid hsp
             replace HK := Lib.hid hkx
             clear hsp hkx H7
             refine hK.out _ _ trivial (fun _ => ?_)
             clear hK K
             generalize wc.setCells sb 5 (byteV N2) = wc at *
             try simp only [List.getElem_toArray, List.getElem_cons_zero, List.getElem_cons_succ, Act.put, List.setIfInBounds_toArray, List.set_cons_zero, List.set_cons_succ]))
        all_goals (
         refine wpAnyH_done (by kernel_rfl) ?_ _
         refine NoPanic.normal ?_
         clear HG2
         rw [HC2.out] at HSB
         go_upto_region 33 with (fail)
         have hv64 : (byteV HS).length = 64 := by rw [byteV_len]; exact HSL.out
         have hdE := HD6.out.ext HK.out
         have hwr3 := fun W (hx : Ext w6 W) => disk_Write (w := W) (HD6.out.ext hx) (p := 1 - L.half) (by omega) HSL.out (by simp)
         have hht := HHF2.out
         generalize hhe : 1 - L.half = hf at hwr3 HRI hht
         have HHE2 := Lib.hid hhe
         clear hhe
         have HWR := Lib.hid hwr3
         clear hwr3 hdE
         have HCS : Hid (∀ W, KeepT [190, 257] wc W → W.cell? ⟨lb, 0, none⟩ = some (.pointer (some ⟨db, 0, none⟩)) ∧ W.cell? ⟨lb, 3, none⟩ = some (.int .i64 (hf : Int)) ∧ W.rangeAt sb 0 (byteV HS)) := Lib.hid fun W q => by
          have h := q.heap (HK.out.heap HT6.out) (by decide)
          have h3 := blk_cell h 3 (.int .i64 (LN.half : Int)) rfl
          rw [hht] at h3
          have hs := q.heap HSB.out (by decide)
          refine ⟨blk_cell h 0 _ rfl, h3, fun j v hv => ?_⟩
          rw [Nat.zero_add, cell_of_row _ _ _ _ _ _ hs]
          simpa using hv
         have HVL := Lib.hid hv64
         generalize byteV HS = V at HVL HCS HWR
         clear hv64 hht HSB
         have HE := Lib.hid HK.out.drew
         have HK0 := Lib.hid HK.out
         clear HK
         have HK : Hid (KeepT [190, 257] wc wc.drew) := Lib.hid (KeepT.drew (KeepT.refl _ _))
         obtain ⟨wb, rfl⟩ : ∃ x : World, x = wc := ⟨_, rfl⟩
         refine wp_region_noPanic ?_
         refine wp_region_held_drew (S := (fun W => W.cell? ⟨lb, 0, none⟩ = some (.pointer (some ⟨db, 0, none⟩)) ∧ W.cell? ⟨lb, 3, none⟩ = some (.int .i64 (hf : Int)) ∧ W.rangeAt sb 0 V)) (by kernel_rfl) (HCS.out _ HK.out) (fun hHeld => ?_)
         clear hHeld
         generalize wb.drew = wc at HK HE ⊢
         refine wpAnyH_take (i := 0) (v := ?_) rfl (by kernel_rfl) (by kernel_rfl) (by kernel_rfl) (fun _ _ _ h => h) (Or.inl ⟨by kernel_rfl, ?_⟩) (HCS.out _ HK.out) ?_
         rotate_left
         · (intro wq _; first | (go_simp; done) | (go_simp; with_reducible rfl))
         try simp only [List.getElem_toArray, List.getElem_cons_zero, Act.put, List.setIfInBounds_toArray, List.set_cons_zero, List.set_cons_succ]
         refine wpAnyH_take (i := 1) (v := ?_) rfl (by kernel_rfl) (by kernel_rfl) (by kernel_rfl) (fun _ _ _ h => h) (Or.inl ⟨by kernel_rfl, ?_⟩) (HCS.out _ HK.out) ?_
         rotate_left
         · (intro wq _; first | (go_simp; done) | (go_simp; with_reducible rfl))
         try simp only [List.getElem_toArray, List.getElem_cons_zero, List.getElem_cons_succ, Act.put, List.setIfInBounds_toArray, List.set_cons_zero, List.set_cons_succ]
         refine wpAnyH_take (i := 2) (v := ?_) rfl (by kernel_rfl) (by kernel_rfl) (by kernel_rfl) (fun _ _ _ h => h) (Or.inl ⟨by kernel_rfl, ?_⟩) (HCS.out _ HK.out) ?_
         rotate_left
         · (intro wq _; first | (go_simp; done) | (go_simp; with_reducible rfl))
         try simp only [List.getElem_toArray, List.getElem_cons_zero, List.getElem_cons_succ, Act.put, List.setIfInBounds_toArray, List.set_cons_zero, List.set_cons_succ]
         refine wpAnyH_take (i := 3) (v := ?_) rfl (by kernel_rfl) (by kernel_rfl) (by kernel_rfl) (fun _ _ _ h => h) (Or.inl ⟨by kernel_rfl, ?_⟩) (HCS.out _ HK.out) ?_
         rotate_left
         · (intro wq hSw; (try dsimp only at hSw); first | (go_simp; done) | (go_simp; with_reducible rfl))
         try simp only [List.getElem_toArray, List.getElem_cons_zero, List.getElem_cons_succ, Act.put, List.setIfInBounds_toArray, List.set_cons_zero, List.set_cons_succ]
         refine wpAnyH_take (i := 4) (v := ?_) rfl (by kernel_rfl) (by kernel_rfl) (by kernel_rfl) (fun _ _ _ h => h) (Or.inl ⟨by kernel_rfl, ?_⟩) (HCS.out _ HK.out) ?_
         rotate_left
         · (intro wq _; first | (go_simp; done) | (go_simp; with_reducible rfl))
         try simp only [List.getElem_toArray, List.getElem_cons_zero, List.getElem_cons_succ, Act.put, List.setIfInBounds_toArray, List.set_cons_zero, List.set_cons_succ]
         refine wpAnyH_take (i := 5) (v := ?_) rfl (by kernel_rfl) (by kernel_rfl) (by kernel_rfl) (fun _ _ _ h => h) (Or.inl ⟨by kernel_rfl, ?_⟩) (HCS.out _ HK.out) ?_
         rotate_left
         · (intro wq _; first | (go_simp; done) | (go_simp; with_reducible rfl))
         try simp only [List.getElem_toArray, List.getElem_cons_zero, List.getElem_cons_succ, Act.put, List.setIfInBounds_toArray, List.set_cons_zero, List.set_cons_succ]
         refine wpAnyH_take (i := 6) (v := ?_) rfl (by kernel_rfl) (by kernel_rfl) (by kernel_rfl) (fun _ _ _ h => h) (Or.inl ⟨by kernel_rfl, ?_⟩) (HCS.out _ HK.out) ?_
         rotate_left
         · (intro wq _; first | (go_simp; done) | (go_simp; with_reducible rfl))
         try simp only [List.getElem_toArray, List.getElem_cons_zero, List.getElem_cons_succ, Act.put, List.setIfInBounds_toArray, List.set_cons_zero, List.set_cons_succ]
         refine wpAnyH_take (i := 7) (v := ?_) rfl (by kernel_rfl) (by kernel_rfl) (by kernel_rfl) (fun _ _ _ h => h) (Or.inl ⟨by kernel_rfl, ?_⟩) (HCS.out _ HK.out) ?_
         rotate_left
         · (intro wq hSw; (try dsimp only at hSw); first | (go_simp; done) | (go_simp; with_reducible rfl))
         try simp only [List.getElem_toArray, List.getElem_cons_zero, List.getElem_cons_succ, Act.put, List.setIfInBounds_toArray, List.set_cons_zero, List.set_cons_succ]
         refine wpAnyH_take (i := 8) (v := .agg V.toArray) rfl (by kernel_rfl) (by kernel_rfl) (by kernel_rfl) (fun _ _ _ h => h) (Or.inl ⟨by kernel_rfl, ?_⟩) (HCS.out _ HK.out) ?_
         · (intro wq hSw; exact exec_load_mid _ _ (by rfl) sb 0 (by rfl) V _ hSw.2.2 Tryz.underlying234 rfl (by rw [HVL.out]; exact size_sector))
         try simp only [List.getElem_toArray, List.getElem_cons_zero, List.getElem_cons_succ, Act.put, List.setIfInBounds_toArray, List.set_cons_zero, List.set_cons_succ]
         all_goals (
          first
           | refine wpAnyH_ready (rs := [9]) (by decide +kernel) (by simp) ?_
          repeat' (first | exact AllReadyH.nil | (refine AllReadyH.cons rfl (fun K hK => ?_) ?_)))
         all_goals (
          first
           | (go_simp
              first
               | (go_at_call 169
                  refine (HWR.out wc HE.out).mono ?_
                  rintro E wn ⟨rfl, hd, hk⟩
                  have HDW := Lib.hid hd
                  replace HK := Lib.hid (HK.out.trans hk)
                  clear hd hk HE
                  go_wp2_with fail
                  refine hK.out _ _ (HCS.out _ HK.out) (fun _ => ?_)
                  clear hK K
                  obtain ⟨wc, rfl⟩ : ∃ x : World, x = wn := ⟨_, rfl⟩
                  try simp only [List.getElem_toArray, List.getElem_cons_zero, List.getElem_cons_succ, Act.put, List.setIfInBounds_toArray, List.set_cons_zero, List.set_cons_succ]
                  refine wpAnyH_take (i := 10) (v := ?_) rfl (by kernel_rfl) (by kernel_rfl) (by kernel_rfl) (fun _ _ _ h => h) (Or.inl ⟨by kernel_rfl, ?_⟩) (HCS.out _ HK.out) ?_
                  rotate_left
                  · (intro wq _; first | (go_simp; done) | (go_simp; with_reducible rfl))
                  try simp only [List.getElem_toArray, List.getElem_cons_zero, List.getElem_cons_succ, Act.put, List.setIfInBounds_toArray, List.set_cons_zero, List.set_cons_succ])))
         all_goals (
          refine wpAnyH_done (by kernel_rfl) ?_ _
          refine NoPanic.normal ?_
          clear HCS
          have hk9 : KeepT [190, 257] w6 wc := (KeepT.of_ext HK0.out).trans HK.out
          have HT9 := Lib.hid (hk9.heap HT6.out (by decide))
          have HRP9 := Lib.hid (HRP.out.keepT hk9 (by decide) (by decide))
          have HKW9 : Hid (KeepT [190, 234, 257, 209] w wc) := Lib.hid (HKW6.out.trans (hk9.mono (by decide)))
          clear hk9 HK HT6 HRP HKW6 HK0
          have hfl2 := disk_Flush HDW.out (by simp)
          rw [← HRI.out] at hfl2
          have HFL2 := Lib.hid hfl2
          clear hfl2 HDW
          have d0 := blk_cell HT9.out 0 (.pointer (some ⟨db, 0, none⟩)) rfl
          go_wp2_with (go_at_call 122; refine HFL2.out.mono ?_; rintro E w10 ⟨rfl, hd10, hk10⟩; have HD10 := Lib.hid hd10; have HK10 := Lib.hid hk10; clear hd10 hk10)
          have ht10 := HK10.out.heap HT9.out (by decide)
          have HDI := Lib.hid (log_die ht10)
          clear ht10
          go_wp2_with (go_at_call 123; refine HDI.out.mono ?_; rintro E w11 ⟨rfl, rfl⟩)
          rw [HR.out]
          have ht10 := HK10.out.heap HT9.out (by decide)
          have hk11 := (KeepT.refl [209] w10).set ht10 (by decide) 6 (.bool false)
          have h11 := setCell_row (i := 6) ht10 (.bool false)
          refine ⟨rfl, ⟨⟨la', lc', ?_, (HRP9.out.keepT HK10.out (by decide) (by decide)).keepT hk11 (by decide) (by decide)⟩, HD10.out.keepT hk11 (by decide), HLWL.out⟩, (HKW9.out.trans (KeepT.mono HK10.out (by decide))).trans (hk11.mono (by decide))⟩
          rw [h11]
          rfl)))
end
end Go.Proofs.YtefpllpichhojaaGreatDoor
