/- The log's put: a record is written, sector by sector. -/
import Derived.Test.YtefpllpichhojaaGreatDoorM7
import Derived.Test.YtefpllpichhojaaGreatDoorM1
import Derived.Laws.IdiomCopy
namespace Go.Proofs.YtefpllpichhojaaGreatDoor
open Go.RowKit
variable [Low]
def writesN (base seq epoch : Nat) (b : List UInt8) (n : Nat) : List (Nat × List UInt8) := (List.range n).map fun i => (base + i, recS seq epoch b i)
def writesR (base seq epoch : Nat) (b : List UInt8) : List (Nat × List UInt8) := writesN base seq epoch b (secN b.length)
omit [Low] in
theorem writesN_succ (base seq epoch : Nat) (b : List UInt8) (n : Nat) : writesN base seq epoch b (n + 1) = writesN base seq epoch b n ++ [(base + n, recS seq epoch b n)] := by
 unfold writesN; rw [List.range_succ, List.map_append]; rfl
omit [Low] in
theorem writesN_len (base seq epoch : Nat) (b : List UInt8) (n : Nat) : (writesN base seq epoch b n).length = n := by simp [writesN]
omit [Low] in
theorem writesR_len (base seq epoch : Nat) (b : List UInt8) : (writesR base seq epoch b).length = secN b.length := writesN_len ..
omit [Low] in
theorem applyI_writesN (k : Img) (base seq epoch : Nat) (b : List UInt8) : ∀ n, applyI k (writesN base seq epoch b n) = putN k base seq epoch b n
 | 0 => (putN_zero ..).symm
 | n + 1 => by rw [writesN_succ, applyI_app, applyI_writesN k base seq epoch b n, putN_succ]; rfl
omit [Low] in
theorem applyI_writes (k : Img) (base seq epoch : Nat) (b : List UInt8) : applyI k (writesR base seq epoch b) = putI k base seq epoch b := applyI_writesN ..
omit [Low] in
theorem sec_pad {w : World} {g : Nat} {cs : Array Value} {m : UInt8} (h : w.heap[g]? = some (.cells cs 234 (0, 0))) (hs : cs.size = 64) (h0 : cs[0]? = some (.int .u8 (m.toNat : Int))) (hz : ∀ i, 1 ≤ i → i < 64 → cs[i]? = some (.int .u8 0)) (l : List UInt8) :
 SecAt (w.setCells g 1 (byteV (l.take 63))) g (padS m l) ∧ Keep (· ≠ g) w (w.setCells g 1 (byteV (l.take 63))) := by
 refine ⟨⟨padS_len _ _, ?_⟩, setCells_keep _ _ _⟩
 obtain ⟨cs', h', hs'⟩ := setCells_blk (byteV (l.take 63)) 1 w ⟨cs, h, rfl⟩
 have hl : (byteV (l.take 63)).length ≤ 63 := by rw [byteV_len, List.length_take]; omega
 have e : cs' = (byteV (padS m l)).toArray := by
  apply Array.ext_getElem?
  intro i
  have hc : (w.setCells g 1 (byteV (l.take 63))).cell? ⟨g, i, none⟩ = cs'[i]? := cell_of_row _ _ _ _ _ _ h'
  have hv : (byteV (padS m l)).toArray[i]? = ((padS m l)[i]?).map fun b => (.int .u8 (b.toNat : Int) : Value) := by simp [byteV]
  rw [hv, ← hc]
  by_cases hi : 1 ≤ i ∧ i < 1 + (byteV (l.take 63)).length
  · have := World.cell?_setCells_in g (byteV (l.take 63)) 1 w (fun j hj => by rw [cell_of_row _ _ _ _ _ _ h]; simp [show 1 + j < cs.size by omega]) (i - 1) (by omega)
    rw [show 1 + (i - 1) = i by omega] at this
    rw [this]
    obtain ⟨j, rfl⟩ : ∃ j, i = j + 1 := ⟨i - 1, by omega⟩
    have hj : j < (l.take 63).length := by rw [byteV_len] at hi; omega
    simp only [padS, List.getElem?_cons_succ, Nat.add_sub_cancel]
    rw [List.getElem?_append_left hj, List.getElem?_eq_getElem hj]
    simp [byteV]
  · rw [World.cell?_setCells_out _ _ _ _ _ (fun _ _ => by show i < 1 ∨ 1 + _ ≤ i; omega), cell_of_row _ _ _ _ _ _ h]
    rcases Nat.eq_zero_or_pos i with rfl | hp
    · rw [h0]; rfl
    · obtain ⟨j, rfl⟩ : ∃ j, i = j + 1 := ⟨i - 1, by omega⟩
      simp only [padS, List.getElem?_cons_succ]
      have hj : ¬ j < (l.take 63).length := by rw [byteV_len] at hi; omega
      rw [List.getElem?_append_right (by omega)]
      by_cases h64 : j + 1 < 64
      · rw [hz (j + 1) (by omega) h64, List.getElem?_replicate, if_pos (by rw [List.length_take] at hj ⊢; omega)]
        rfl
      · rw [Array.getElem?_eq_none (by omega), List.getElem?_eq_none (by rw [List.length_replicate, List.length_take]; omega)]
        rfl
 rw [h', e]
omit [Low] in
theorem there_blk {w : World} {g o n : Nat} {C : Array Value} {t : TypeId} (h : w.heap[g]? = some (.cells C t (0, 0))) (hn : o + n ≤ C.size) : w.there g o n := fun j hj => by
 refine ⟨?_, blk_free h _⟩
 rw [cell_of_row _ _ _ _ _ _ h]
 simp [show o + j < C.size by omega]
omit [Low] in
theorem zero_rest {i : Nat} (h1 : 1 ≤ i) (h2 : i < 64) (v u : Value) : ((byteV zeroS).toArray.setIfInBounds 0 v)[i]? = some (.int .u8 0) ∧ (((byteV zeroS).toArray.setIfInBounds 0 v).setIfInBounds 0 u)[i]? = some (.int .u8 0) := by
 have e : (byteV zeroS).toArray[i]? = some (.int .u8 0) := by simpa using zero_cells h2
 rw [Array.getElem?_setIfInBounds_ne (by omega), Array.getElem?_setIfInBounds_ne (by omega), Array.getElem?_setIfInBounds_ne (by omega)]
 exact ⟨e, e⟩
omit [Low] in
theorem zero_size : (byteV zeroS).toArray.size = 64 := by simp [byteV, zeroS]
omit [Low] in
theorem data_cut {w : World} {ad : Option Addr} {l : List UInt8} {tk cc : Nat} (h : DataM w ad l) (h1 : tk ≤ l.length) (h2 : l.length ≤ cc) : DataM w (if cc = tk then ad else ad.map fun x => x.add tk) (l.drop tk) := by
 by_cases e : cc = tk
 · left; exact List.drop_of_length_le (by omega)
 · rw [if_neg e]
   rcases h with h | ⟨g, off, cs, fr, rfl, hg, hc⟩
   · left; rw [h]; simp
   · refine Or.inr ⟨g, off + tk, cs, fr, ?_, hg, fun i u hi => ?_⟩
     · rw [Option.map_some, addr_plus]
     · rw [Nat.add_assoc]
       refine hc (tk + i) u ?_
       rw [← hi]
       simp [byteV, List.getElem?_drop]
omit [Low] in
theorem drop_take63 (A : List UInt8) (k : Nat) : A.drop (63 * (k + 1)) = (A.drop (63 * k)).drop ((A.drop (63 * k)).take 63).length := by
 rw [List.drop_drop, List.length_take, List.length_drop]
 by_cases h : 63 ≤ A.length - 63 * k
 · congr 1; omega
 · rw [List.drop_of_length_le (by omega), List.drop_of_length_le (by omega)]
omit [Low] in
theorem size_u8 : (Tryz.prog.info? 5).map (·.size) = some 1 := by kernel_rfl
omit [Low] in
theorem wpList_copy_bytes {ops : Array Oper} {rest : List Oper} {o : Oper} {a : Act} {W : World} {Q : Exit → Act → World → Prop} (hgd : o.guard = none) (d s : Operand) (ho : o.op = .call { callee := .builtin .copy, args := #[d, s], argTypes := #[50, 50] })
 (b off dl dc : Nat) (hd : a.eval d = .slice (some ⟨b, off, none⟩) dl dc) (ad : Option Addr) (l : List UInt8) (ln c : Nat) (hs : a.eval s = .slice ad ln c) (hln : l.length = ln) (hl : l ≠ []) (hb : DataM W ad l) (ht : W.there b off dl) (tk : Nat) (htk : (l.take dl).length = tk)
 (h : wpList Tryz.prog ops Q rest (a.put o.dst (.int .i64 (tk : Int))) (W.setCells b off (byteV (l.take dl)))) : wpList Tryz.prog ops Q (o :: rest) a W := by
 subst hln htk
 rcases hb with hb | ⟨g, off2, cs, fr, rfl, hg, hc⟩
 · exact absurd hb hl
 have hr := run_copy_cells (P := Tryz.prog) W 50 50 o.type 5 b off dl dc ⟨g, off2, none⟩ l.length c (byteV (l.take dl)) Tryz.underlying50 size_u8
  (by rw [byteV_len, List.length_take]; exact Nat.min_comm ..)
  (fun j v hv => by
   rw [addr_plus]
   refine hc j v ?_
   have hj := (List.getElem?_eq_some_iff.1 hv).1
   rw [byteV_len, List.length_take] at hj
   unfold byteV at hv ⊢
   rw [List.getElem?_map] at hv ⊢
   rw [List.getElem?_take_of_lt (by omega)] at hv
   exact hv)
  (fun j hj => (ht j (by rw [byteV_len, List.length_take] at hj; omega)).1) (fun j hj => (ht j (by rw [byteV_len, List.length_take] at hj; omega)).2) (byteV_one _)
 refine wpList_plain hgd fun K hK => ?_
 have := hK _ _ h
 unfold Oper.wp execOp
 simp only [ho, resolve, invoke, builtin, Sem.run_bind, Sem.run_pure, Result.andThen_ok, List.map_toArray, List.map_cons, List.map_nil, hd, hs, hr, byteV_len]
 exact this
omit [Low] in
theorem parts_blk {w : World} {g : Nat} {vs : List Value} {t : TypeId} {fr : Nat × Nat} {L : List (List UInt8)} (hg : w.heap[g]? = some (.cells vs.toArray t fr)) (h : PartsS (fun _ => True) w vs L) : Parts w (some ⟨g, 0, none⟩) L :=
 ⟨vs, Or.inr ⟨g, 0, rfl, (Array.getElem?_eq_some_iff.1 hg).1, trivial, fun i _ => by rw [Nat.zero_add, cell_of_row _ _ _ _ _ _ hg]; simp⟩, h⟩
omit [Low] in
theorem numI_num4 {n : Nat} (h : n < 4294967296) : numI (n : Int) = num4 n := by unfold numI; rw [u32_of h]
section
variable {w : World} {lb db kb n : Nat} {img : Img} {C : List (Nat × List UInt8)} {L : LogD}
set_option maxRecDepth 100000 in
set_option maxHeartbeats 6400000 in
theorem log_put (h : LogC w lb db kb n img C L) {at_ seq : Nat} {b : List UInt8} {ba : Option Addr} {bc : Nat} (hb : DataM w ba b) (hbl : b.length ≤ 4096) (h2 : 2 ≤ n) (hh : L.half ≤ 1) (hroom : baseN n L.half + at_ + secN b.length ≤ n) (hseq : seq ≤ 2147483648) (hep : L.epoch ≤ 2147483648) (hC : C.length ≤ 900000) :
 Calls Tryz.prog 121 #[.pointer (some ⟨lb, 0, none⟩), .int .i64 at_, .int .i64 seq, .slice ba b.length bc] w fun e w' => e = .returned (.int .i64 0) ∧ LogC w' lb db kb n img (C ++ writesR (baseN n L.half + at_) seq L.epoch b) L ∧ KeepT [190, 257] w w' := by
 obtain ⟨R, hR⟩ : ∃ R : Ending → World → Prop, R = fun e w' => e = .returned (.int .i64 0) ∧ LogC w' lb db kb n img (C ++ writesR (baseN n L.half + at_) seq L.epoch b) L ∧ KeepT [190, 257] w w' := ⟨_, rfl⟩
 rw [← hR]
 have HR := Lib.hid hR; clear hR
 have HL := Lib.hid h
 have HLWL := Lib.hid h.low
 obtain ⟨⟨la, lc, ht, _⟩, _⟩ := h
 have HT := Lib.hid ht; clear ht
 have HDM := Lib.hid hb
 have hby := hb.bytes; clear hb
 have HB := Lib.hid hby; clear hby
 have hn1 := fun W => rec_num (seq : Int) W
 have hn2 := fun W => rec_num (L.epoch : Int) W
 have hn3 := fun W => rec_num (b.length : Int) W
 have hn4 := fun W => rec_num ((sumL seq L.epoch b : Nat) : Int) W
 have hq : sumL seq L.epoch b < 4294967296 := sumL_lt _ _ _
 have e1 := numI_num4 (n := seq) (by omega)
 have e2 := numI_num4 (n := L.epoch) (by omega)
 have e3 := numI_num4 (n := b.length) (by omega)
 have e4 := numI_num4 (n := sumL seq L.epoch b) hq
 have hsum : (crcL [[num4 seq, num4 L.epoch].flatten, b].flatten).toNat = sumL seq L.epoch b := by simp [sumL]
 have hall : [num4 b.length, num4 seq, num4 L.epoch, num4 (sumL seq L.epoch b), b].flatten = recAll seq L.epoch b := by simp [recAll]
 have hl1 : (num4 seq).length = 4 := num4_len _
 have hl2 : (num4 L.epoch).length = 4 := num4_len _
 have hpk := fun W a c (hp : Parts W a [num4 seq, num4 L.epoch]) => rec_pack a c [num4 seq, num4 L.epoch] W hp (by simp [num4_len]) (by simp)
 have hpk5 := fun W a c (hp : Parts W a [num4 b.length, num4 seq, num4 L.epoch, num4 (sumL seq L.epoch b), b]) => rec_pack a c _ W hp (by rw [hall, recAll_len]; omega) (by simp)
 have hcr := fun W a c (hp : Parts W a [[num4 seq, num4 L.epoch].flatten, b]) => crc_ofs a c [[num4 seq, num4 L.epoch].flatten, b] W hp (by intro l hl; simp only [List.mem_cons, List.not_mem_nil, or_false] at hl; rcases hl with rfl | rfl; (simp [num4_len]); omega) (by simp)
 simp only [hall] at hpk5
 simp only [hsum] at hcr
 rw [e1] at hn1; rw [e2] at hn2; rw [e3] at hn3; rw [e4] at hn4
 clear e1 e2 e3 e4 hsum
 generalize hrec : recAll seq L.epoch b = A at hpk5
 generalize [num4 seq, num4 L.epoch].flatten = PK at hpk hcr
 generalize num4 seq = N1 at hn1 hpk hpk5
 generalize num4 L.epoch = N2 at hn2 hpk hpk5
 generalize num4 b.length = N3 at hn3 hpk5
 generalize num4 (sumL seq L.epoch b) = N4 at hn4 hpk5
 generalize sumL seq L.epoch b = sm at hn4 hcr hq
 have hwr : IntKind.i64.wrap (sm : Int) = (sm : Int) := by rw [IntKind.wrap_i64]; omega
 generalize hbn : b.length = bn at hn3 hbl hroom ⊢
 have HBN := Lib.hid hbn; clear hbn
 have HN1 := Lib.hid hn1; have HN2 := Lib.hid hn2; have HN3 := Lib.hid hn3; have HN4 := Lib.hid hn4; have HPK := Lib.hid hpk; have HPK5 := Lib.hid hpk5; have HCR := Lib.hid hcr; have HREC := Lib.hid hrec
 clear hn1 hn2 hn3 hn4 hpk hpk5 hcr hrec hall hl1 hl2
 generalize hpb : baseN n L.half + at_ = pb at hroom HR
 have HPB := Lib.hid hpb; clear hpb
 go_enter Tryz.func121, Tryz.ntmps121
 go_upto_region 1 with (fail)
 have HCS : Hid (∀ W, Ext w W → W.cell? ⟨lb, 1, none⟩ = some (.int .i64 (L.epoch : Int))) := Lib.hid fun W k => blk_cell (k.heap HT.out) 1 _ rfl
 have HK : Hid (Ext w w.drew) := Lib.hid ((Ext.refl _).drew)
 refine wp_region_noPanic ?_
 refine wp_region_held_drew (S := (fun W => W.cell? ⟨lb, 1, none⟩ = some (.int .i64 (L.epoch : Int)))) (by kernel_rfl) (HCS.out _ HK.out) (fun hHeld => ?_)
 clear hHeld
 generalize w.drew = wc at HK ⊢
 refine wpAnyH_take (i := 0) (v := ?_) rfl (by kernel_rfl) (by kernel_rfl) (by kernel_rfl) (fun _ _ _ h => h) (Or.inl ⟨by kernel_rfl, ?_⟩) (HCS.out _ HK.out) ?_
 rotate_left
 · (intro wq _; first | (go_simp; done) | (go_simp; with_reducible rfl))
 try simp only [List.getElem_toArray, List.getElem_cons_zero, Act.put, List.setIfInBounds_toArray, List.set_cons_zero, List.set_cons_succ]
 refine wpAnyH_take (i := 2) (v := ?_) rfl (by kernel_rfl) (by kernel_rfl) (by kernel_rfl) (fun _ _ _ h => h) (Or.inl ⟨by kernel_rfl, ?_⟩) (HCS.out _ HK.out) ?_
 rotate_left
 · (intro wq _; first | (go_simp; done) | (go_simp; with_reducible rfl))
 try simp only [List.getElem_toArray, List.getElem_cons_zero, List.getElem_cons_succ, Act.put, List.setIfInBounds_toArray, List.set_cons_zero, List.set_cons_succ]
 refine wpAnyH_take (i := 3) (v := ?_) rfl (by kernel_rfl) (by kernel_rfl) (by kernel_rfl) (fun _ _ _ h => h) (Or.inl ⟨by kernel_rfl, ?_⟩) (HCS.out _ HK.out) ?_
 rotate_left
 · (intro wq _; first | (go_simp; done) | (go_simp; with_reducible rfl))
 try simp only [List.getElem_toArray, List.getElem_cons_zero, List.getElem_cons_succ, Act.put, List.setIfInBounds_toArray, List.set_cons_zero, List.set_cons_succ]
 refine wpAnyH_take (i := 4) (v := ?_) rfl (by kernel_rfl) (by kernel_rfl) (by kernel_rfl) (fun _ _ _ h => h) (Or.inl ⟨by kernel_rfl, ?_⟩) (HCS.out _ HK.out) ?_
 rotate_left
 · (intro wq _; first | (go_simp; done) | (go_simp; with_reducible rfl))
 try simp only [List.getElem_toArray, List.getElem_cons_zero, List.getElem_cons_succ, Act.put, List.setIfInBounds_toArray, List.set_cons_zero, List.set_cons_succ]
 refine wpAnyH_take (i := 5) (v := ?_) rfl (by kernel_rfl) (by kernel_rfl) (by kernel_rfl) (fun _ _ _ h => h) (Or.inl ⟨by kernel_rfl, ?_⟩) (HCS.out _ HK.out) ?_
 rotate_left
 · (intro wq hSw; (try dsimp only at hSw); first | (go_simp; done) | (go_simp; with_reducible rfl))
 try simp only [List.getElem_toArray, List.getElem_cons_zero, List.getElem_cons_succ, Act.put, List.setIfInBounds_toArray, List.set_cons_zero, List.set_cons_succ]
 refine wpAnyH_take (i := 9) (v := ?_) rfl (by kernel_rfl) (by kernel_rfl) (by kernel_rfl) (fun _ _ _ h => h) (Or.inl ⟨by kernel_rfl, ?_⟩) (HCS.out _ HK.out) ?_
 rotate_left
 · (intro wq _; first | (go_simp; done) | (go_simp; with_reducible rfl))
 try simp only [List.getElem_toArray, List.getElem_cons_zero, List.getElem_cons_succ, Act.put, List.setIfInBounds_toArray, List.set_cons_zero, List.set_cons_succ]
 all_goals (
  first
   | refine wpAnyH_ready (rs := [1]) (by decide +kernel) (by simp) ?_
  repeat' (first | exact AllReadyH.nil | (refine AllReadyH.cons rfl (fun K hK => ?_) ?_)))
 all_goals (
  first
   | (go_simp
      first
       | (go_at_call 124
          refine (HN1.out wc).mono ?_
          rintro E wn ⟨a1, c1, rfl, o1, hx⟩
          try replace H1 := Lib.hid (H1.out.ext hx)
          try replace H2 := Lib.hid (H2.out.ext hx)
          try replace H3 := Lib.hid (H3.out.ext hx)
          try replace H4 := Lib.hid (H4.out.ext hx)
          try replace H8 := Lib.hid (H8.out.ext hx)
          have H1 := Lib.hid (o1.bytes.1)
          clear o1
          replace HK := Lib.hid (HK.out.trans hx)
          clear hx
          go_wp2_with fail
          refine hK.out _ _ (HCS.out _ HK.out) (fun _ => ?_)
          clear hK K
          obtain ⟨wc, rfl⟩ : ∃ x : World, x = wn := ⟨_, rfl⟩
          try simp only [List.getElem_toArray, List.getElem_cons_zero, List.getElem_cons_succ, Act.put, List.setIfInBounds_toArray, List.set_cons_zero, List.set_cons_succ])))
 all_goals (
  first
   | refine wpAnyH_ready (rs := [6]) (by decide +kernel) (by simp) ?_
  repeat' (first | exact AllReadyH.nil | (refine AllReadyH.cons rfl (fun K hK => ?_) ?_)))
 all_goals (
  first
   | (go_simp
      first
       | (go_at_call 124
          refine (HN2.out wc).mono ?_
          rintro E wn ⟨a2, c2, rfl, o2, hx⟩
          try replace H1 := Lib.hid (H1.out.ext hx)
          try replace H2 := Lib.hid (H2.out.ext hx)
          try replace H3 := Lib.hid (H3.out.ext hx)
          try replace H4 := Lib.hid (H4.out.ext hx)
          try replace H8 := Lib.hid (H8.out.ext hx)
          have H2 := Lib.hid (o2.bytes.1)
          clear o2
          replace HK := Lib.hid (HK.out.trans hx)
          clear hx
          go_wp2_with fail
          refine hK.out _ _ (HCS.out _ HK.out) (fun _ => ?_)
          clear hK K
          obtain ⟨wc, rfl⟩ : ∃ x : World, x = wn := ⟨_, rfl⟩
          try simp only [List.getElem_toArray, List.getElem_cons_zero, List.getElem_cons_succ, Act.put, List.setIfInBounds_toArray, List.set_cons_zero, List.set_cons_succ])))
 all_goals (
  first
   | refine wpAnyH_ready (rs := [7]) (by decide +kernel) (by simp) ?_
  repeat' (first | exact AllReadyH.nil | (refine AllReadyH.cons rfl (fun K hK => ?_) ?_)))
 all_goals (
  first
   | (go_simp
      first
       | (have hx := Ext.alloc wc (.cells #[.slice a1 N1.length c1, .slice a2 N2.length c2] 215)
          have hbn := heap_alloc_new wc (.cells #[.slice a1 N1.length c1, .slice a2 N2.length c2] 215)
          refine hK.out _ (wc.alloc (.cells #[.slice a1 N1.length c1, .slice a2 N2.length c2] 215)) (HCS.out _ (HK.out.trans hx)) (fun _ => ?_)
          clear hK K
          try replace H1 := Lib.hid (H1.out.ext hx)
          try replace H2 := Lib.hid (H2.out.ext hx)
          try replace H3 := Lib.hid (H3.out.ext hx)
          try replace H4 := Lib.hid (H4.out.ext hx)
          try replace H8 := Lib.hid (H8.out.ext hx)
          replace HK := Lib.hid (HK.out.trans hx)
          obtain ⟨G7, hB⟩ : ∃ x, x = wc.heap.size := ⟨_, rfl⟩
          rw [← hB] at hbn ⊢
          have HG7 := Lib.hid hbn
          clear hbn hB hx
          generalize wc.alloc (.cells #[.slice a1 N1.length c1, .slice a2 N2.length c2] 215) = wc at *
          try simp only [List.getElem_toArray, List.getElem_cons_zero, List.getElem_cons_succ, Act.put, List.setIfInBounds_toArray, List.set_cons_zero, List.set_cons_succ])))
 all_goals (
  first
   | refine wpAnyH_ready (rs := [8]) (by decide +kernel) (by simp) ?_
  repeat' (first | exact AllReadyH.nil | (refine AllReadyH.cons rfl (fun K hK => ?_) ?_)))
 all_goals (
  first
   | (go_simp
      first
       | (go_at_call 127
          refine (HPK.out wc (some ⟨G7, 0, none⟩) 2 (parts_blk (vs := [.slice a1 N1.length c1, .slice a2 N2.length c2]) HG7.out (PartsS.cons (H1.out).row (PartsS.cons (H2.out).row (PartsS.nil _ _))))).mono ?_
          rintro E wn ⟨a8, c8, rfl, o8, hx⟩
          try replace H1 := Lib.hid (H1.out.ext hx)
          try replace H2 := Lib.hid (H2.out.ext hx)
          try replace H3 := Lib.hid (H3.out.ext hx)
          try replace H4 := Lib.hid (H4.out.ext hx)
          try replace H8 := Lib.hid (H8.out.ext hx)
          have H8 := Lib.hid (o8.bytes.1)
          clear o8
          replace HK := Lib.hid (HK.out.trans hx)
          clear hx
          go_wp2_with fail
          refine hK.out _ _ (HCS.out _ HK.out) (fun _ => ?_)
          clear hK K
          obtain ⟨wc, rfl⟩ : ∃ x : World, x = wn := ⟨_, rfl⟩
          try simp only [List.getElem_toArray, List.getElem_cons_zero, List.getElem_cons_succ, Act.put, List.setIfInBounds_toArray, List.set_cons_zero, List.set_cons_succ])))
 all_goals (
  first
   | refine wpAnyH_ready (rs := [10]) (by decide +kernel) (by simp) ?_
  repeat' (first | exact AllReadyH.nil | (refine AllReadyH.cons rfl (fun K hK => ?_) ?_)))
 all_goals (
  first
   | (go_simp
      first
       | (have hx := Ext.alloc wc (.cells #[.slice a8 PK.length c8, .slice ba bn bc] 50)
          have hbn := heap_alloc_new wc (.cells #[.slice a8 PK.length c8, .slice ba bn bc] 50)
          refine hK.out _ (wc.alloc (.cells #[.slice a8 PK.length c8, .slice ba bn bc] 50)) (HCS.out _ (HK.out.trans hx)) (fun _ => ?_)
          clear hK K
          try replace H1 := Lib.hid (H1.out.ext hx)
          try replace H2 := Lib.hid (H2.out.ext hx)
          try replace H3 := Lib.hid (H3.out.ext hx)
          try replace H4 := Lib.hid (H4.out.ext hx)
          try replace H8 := Lib.hid (H8.out.ext hx)
          replace HK := Lib.hid (HK.out.trans hx)
          obtain ⟨G10, hB⟩ : ∃ x, x = wc.heap.size := ⟨_, rfl⟩
          rw [← hB] at hbn ⊢
          have HG10 := Lib.hid hbn
          clear hbn hB hx
          generalize wc.alloc (.cells #[.slice a8 PK.length c8, .slice ba bn bc] 50) = wc at *
          try simp only [List.getElem_toArray, List.getElem_cons_zero, List.getElem_cons_succ, Act.put, List.setIfInBounds_toArray, List.set_cons_zero, List.set_cons_succ])))
 all_goals (
  first
   | refine wpAnyH_ready (rs := [11]) (by decide +kernel) (by simp) ?_
  repeat' (first | exact AllReadyH.nil | (refine AllReadyH.cons rfl (fun K hK => ?_) ?_)))
 all_goals (
  first
   | (go_simp
      first
       | (go_at_call 168
          have hbb := HB.out.ext HK.out
          have hps := PartsS.cons (c := c8) H8.out.row (PartsS.cons (c := bc) hbb.row (PartsS.nil _ _))
          rw [HBN.out] at hps
          refine (HCR.out wc (some ⟨G10, 0, none⟩) 2 (parts_blk (vs := [.slice a8 PK.length c8, .slice ba bn bc]) HG10.out hps)).mono ?_
          rintro E wn ⟨rfl, rfl⟩
          clear hps hbb
          go_wp2_with fail
          refine hK.out _ _ (HCS.out _ HK.out) (fun _ => ?_)
          clear hK K
          try simp only [List.getElem_toArray, List.getElem_cons_zero, List.getElem_cons_succ, Act.put, List.setIfInBounds_toArray, List.set_cons_zero, List.set_cons_succ]
          refine wpAnyH_take (i := 12) (v := ?_) rfl (by kernel_rfl) (by kernel_rfl) (by kernel_rfl) (fun _ _ _ h => h) (Or.inl ⟨by kernel_rfl, ?_⟩) (HCS.out _ HK.out) ?_
          rotate_left
          · (intro wq _; first | (go_simp; done) | (go_simp; with_reducible rfl))
          try simp only [List.getElem_toArray, List.getElem_cons_zero, List.getElem_cons_succ, Act.put, List.setIfInBounds_toArray, List.set_cons_zero, List.set_cons_succ])))
 all_goals (
  refine wpAnyH_done (by kernel_rfl) ?_ _
  refine NoPanic.normal ?_
  clear H1 H2 H8 HG7 HG10
  go_upto_region 2 with (fail)
  replace HK := Lib.hid (HK.out.drew)
  refine wp_region_noPanic ?_
  refine wp_region_held_drew (S := (fun W => W.cell? ⟨lb, 1, none⟩ = some (.int .i64 (L.epoch : Int)))) (by kernel_rfl) (HCS.out _ HK.out) (fun hHeld => ?_)
  clear hHeld
  generalize wc.drew = wc at HK ⊢
  refine wpAnyH_take (i := 0) (v := ?_) rfl (by kernel_rfl) (by kernel_rfl) (by kernel_rfl) (fun _ _ _ h => h) (Or.inl ⟨by kernel_rfl, ?_⟩) (HCS.out _ HK.out) ?_
  rotate_left
  · (intro wq _; first | (go_simp; done) | (go_simp; with_reducible rfl))
  try simp only [List.getElem_toArray, List.getElem_cons_zero, Act.put, List.setIfInBounds_toArray, List.set_cons_zero, List.set_cons_succ]
  refine wpAnyH_take (i := 1) (v := ?_) rfl (by kernel_rfl) (by kernel_rfl) (by kernel_rfl) (fun _ _ _ h => h) (Or.inl ⟨by kernel_rfl, ?_⟩) (HCS.out _ HK.out) ?_
  rotate_left
  · (intro wq _; first | (go_simp; done) | (go_simp; with_reducible rfl))
  try simp only [List.getElem_toArray, List.getElem_cons_zero, List.getElem_cons_succ, Act.put, List.setIfInBounds_toArray, List.set_cons_zero, List.set_cons_succ]
  refine wpAnyH_take (i := 3) (v := ?_) rfl (by kernel_rfl) (by kernel_rfl) (by kernel_rfl) (fun _ _ _ h => h) (Or.inl ⟨by kernel_rfl, ?_⟩) (HCS.out _ HK.out) ?_
  rotate_left
  · (intro wq _; first | (go_simp; done) | (go_simp; with_reducible rfl))
  try simp only [List.getElem_toArray, List.getElem_cons_zero, List.getElem_cons_succ, Act.put, List.setIfInBounds_toArray, List.set_cons_zero, List.set_cons_succ]
  refine wpAnyH_take (i := 5) (v := ?_) rfl (by kernel_rfl) (by kernel_rfl) (by kernel_rfl) (fun _ _ _ h => h) (Or.inl ⟨by kernel_rfl, ?_⟩) (HCS.out _ HK.out) ?_
  rotate_left
  · (intro wq _; first | (go_simp; done) | (go_simp; with_reducible rfl))
  try simp only [List.getElem_toArray, List.getElem_cons_zero, List.getElem_cons_succ, Act.put, List.setIfInBounds_toArray, List.set_cons_zero, List.set_cons_succ]
  refine wpAnyH_take (i := 6) (v := ?_) rfl (by kernel_rfl) (by kernel_rfl) (by kernel_rfl) (fun _ _ _ h => h) (Or.inl ⟨by kernel_rfl, ?_⟩) (HCS.out _ HK.out) ?_
  rotate_left
  · (intro wq _; first | (go_simp; done) | (go_simp; with_reducible rfl))
  try simp only [List.getElem_toArray, List.getElem_cons_zero, List.getElem_cons_succ, Act.put, List.setIfInBounds_toArray, List.set_cons_zero, List.set_cons_succ]
  refine wpAnyH_take (i := 7) (v := ?_) rfl (by kernel_rfl) (by kernel_rfl) (by kernel_rfl) (fun _ _ _ h => h) (Or.inl ⟨by kernel_rfl, ?_⟩) (HCS.out _ HK.out) ?_
  rotate_left
  · (intro wq _; first | (go_simp; done) | (go_simp; with_reducible rfl))
  try simp only [List.getElem_toArray, List.getElem_cons_zero, List.getElem_cons_succ, Act.put, List.setIfInBounds_toArray, List.set_cons_zero, List.set_cons_succ]
  refine wpAnyH_take (i := 8) (v := ?_) rfl (by kernel_rfl) (by kernel_rfl) (by kernel_rfl) (fun _ _ _ h => h) (Or.inl ⟨by kernel_rfl, ?_⟩) (HCS.out _ HK.out) ?_
  rotate_left
  · (intro wq hSw; (try dsimp only at hSw); first | (go_simp; done) | (go_simp; with_reducible rfl))
  try simp only [List.getElem_toArray, List.getElem_cons_zero, List.getElem_cons_succ, Act.put, List.setIfInBounds_toArray, List.set_cons_zero, List.set_cons_succ]
  refine wpAnyH_take (i := 10) (v := ?_) rfl (by kernel_rfl) (by kernel_rfl) (by kernel_rfl) (fun _ _ _ h => h) (Or.inl ⟨by kernel_rfl, ?_⟩) (HCS.out _ HK.out) ?_
  rotate_left
  · (intro wq _; first | (go_simp; done) | (go_simp; with_reducible rfl))
  try simp only [List.getElem_toArray, List.getElem_cons_zero, List.getElem_cons_succ, Act.put, List.setIfInBounds_toArray, List.set_cons_zero, List.set_cons_succ]
  refine wpAnyH_take (i := 11) (v := ?_) rfl (by kernel_rfl) (by kernel_rfl) (by kernel_rfl) (fun _ _ _ h => h) (Or.inl ⟨by kernel_rfl, ?_⟩) (HCS.out _ HK.out) ?_
  rotate_left
  · (intro wq _; first | (go_simp; done) | (go_simp; with_reducible rfl))
  try simp only [List.getElem_toArray, List.getElem_cons_zero, List.getElem_cons_succ, Act.put, List.setIfInBounds_toArray, List.set_cons_zero, List.set_cons_succ]
  refine wpAnyH_take (i := 13) (v := ?_) rfl (by kernel_rfl) (by kernel_rfl) (by kernel_rfl) (fun _ _ _ h => h) (Or.inl ⟨by kernel_rfl, ?_⟩) (HCS.out _ HK.out) ?_
  rotate_left
  · (intro wq _; first | (go_simp; done) | (go_simp; with_reducible rfl))
  try simp only [List.getElem_toArray, List.getElem_cons_zero, List.getElem_cons_succ, Act.put, List.setIfInBounds_toArray, List.set_cons_zero, List.set_cons_succ]
  all_goals (
   first
    | refine wpAnyH_ready (rs := [2]) (by decide +kernel) (by simp) ?_
   repeat' (first | exact AllReadyH.nil | (refine AllReadyH.cons rfl (fun K hK => ?_) ?_)))
  all_goals (
   first
    | (go_simp
       first
        | (go_at_call 124
           refine (HN3.out wc).mono ?_
           rintro E wn ⟨a3, c3, rfl, o3, hx⟩
           try replace H1 := Lib.hid (H1.out.ext hx)
           try replace H2 := Lib.hid (H2.out.ext hx)
           try replace H3 := Lib.hid (H3.out.ext hx)
           try replace H4 := Lib.hid (H4.out.ext hx)
           try replace H8 := Lib.hid (H8.out.ext hx)
           have H3 := Lib.hid (o3.bytes.1)
           clear o3
           replace HK := Lib.hid (HK.out.trans hx)
           clear hx
           go_wp2_with fail
           refine hK.out _ _ (HCS.out _ HK.out) (fun _ => ?_)
           clear hK K
           obtain ⟨wc, rfl⟩ : ∃ x : World, x = wn := ⟨_, rfl⟩
           try simp only [List.getElem_toArray, List.getElem_cons_zero, List.getElem_cons_succ, Act.put, List.setIfInBounds_toArray, List.set_cons_zero, List.set_cons_succ])))
  all_goals (
   first
    | refine wpAnyH_ready (rs := [4]) (by decide +kernel) (by simp) ?_
   repeat' (first | exact AllReadyH.nil | (refine AllReadyH.cons rfl (fun K hK => ?_) ?_)))
  all_goals (
   first
    | (go_simp
       first
        | (go_at_call 124
           refine (HN1.out wc).mono ?_
           rintro E wn ⟨a1, c1, rfl, o1, hx⟩
           try replace H1 := Lib.hid (H1.out.ext hx)
           try replace H2 := Lib.hid (H2.out.ext hx)
           try replace H3 := Lib.hid (H3.out.ext hx)
           try replace H4 := Lib.hid (H4.out.ext hx)
           try replace H8 := Lib.hid (H8.out.ext hx)
           have H1 := Lib.hid (o1.bytes.1)
           clear o1
           replace HK := Lib.hid (HK.out.trans hx)
           clear hx
           go_wp2_with fail
           refine hK.out _ _ (HCS.out _ HK.out) (fun _ => ?_)
           clear hK K
           obtain ⟨wc, rfl⟩ : ∃ x : World, x = wn := ⟨_, rfl⟩
           try simp only [List.getElem_toArray, List.getElem_cons_zero, List.getElem_cons_succ, Act.put, List.setIfInBounds_toArray, List.set_cons_zero, List.set_cons_succ])))
  all_goals (
   first
    | refine wpAnyH_ready (rs := [9]) (by decide +kernel) (by simp) ?_
   repeat' (first | exact AllReadyH.nil | (refine AllReadyH.cons rfl (fun K hK => ?_) ?_)))
  all_goals (
   first
    | (go_simp
       first
        | (go_at_call 124
           refine (HN2.out wc).mono ?_
           rintro E wn ⟨a2, c2, rfl, o2, hx⟩
           try replace H1 := Lib.hid (H1.out.ext hx)
           try replace H2 := Lib.hid (H2.out.ext hx)
           try replace H3 := Lib.hid (H3.out.ext hx)
           try replace H4 := Lib.hid (H4.out.ext hx)
           try replace H8 := Lib.hid (H8.out.ext hx)
           have H2 := Lib.hid (o2.bytes.1)
           clear o2
           replace HK := Lib.hid (HK.out.trans hx)
           clear hx
           go_wp2_with fail
           refine hK.out _ _ (HCS.out _ HK.out) (fun _ => ?_)
           clear hK K
           obtain ⟨wc, rfl⟩ : ∃ x : World, x = wn := ⟨_, rfl⟩
           try simp only [List.getElem_toArray, List.getElem_cons_zero, List.getElem_cons_succ, Act.put, List.setIfInBounds_toArray, List.set_cons_zero, List.set_cons_succ])))
  all_goals (
   first
    | refine wpAnyH_ready (rs := [12]) (by decide +kernel) (by simp) ?_
   repeat' (first | exact AllReadyH.nil | (refine AllReadyH.cons rfl (fun K hK => ?_) ?_)))
  all_goals (
   first
    | (go_simp
       first
        | (go_at_call 124
           refine (HN4.out wc).mono ?_
           rintro E wn ⟨a4, c4, rfl, o4, hx⟩
           try replace H1 := Lib.hid (H1.out.ext hx)
           try replace H2 := Lib.hid (H2.out.ext hx)
           try replace H3 := Lib.hid (H3.out.ext hx)
           try replace H4 := Lib.hid (H4.out.ext hx)
           try replace H8 := Lib.hid (H8.out.ext hx)
           have H4 := Lib.hid (o4.bytes.1)
           clear o4
           replace HK := Lib.hid (HK.out.trans hx)
           clear hx
           go_wp2_with fail
           refine hK.out _ _ (HCS.out _ HK.out) (fun _ => ?_)
           clear hK K
           obtain ⟨wc, rfl⟩ : ∃ x : World, x = wn := ⟨_, rfl⟩
           try simp only [List.getElem_toArray, List.getElem_cons_zero, List.getElem_cons_succ, Act.put, List.setIfInBounds_toArray, List.set_cons_zero, List.set_cons_succ])))
  all_goals (
   first
    | refine wpAnyH_ready (rs := [14]) (by decide +kernel) (by simp) ?_
   repeat' (first | exact AllReadyH.nil | (refine AllReadyH.cons rfl (fun K hK => ?_) ?_)))
  all_goals (
   first
    | (go_simp
       first
        | (have hx := Ext.alloc wc (.cells #[.slice a3 N3.length c3, .slice a1 N1.length c1, .slice a2 N2.length c2, .slice a4 N4.length c4, .slice ba bn bc] 215)
           have hbn := heap_alloc_new wc (.cells #[.slice a3 N3.length c3, .slice a1 N1.length c1, .slice a2 N2.length c2, .slice a4 N4.length c4, .slice ba bn bc] 215)
           refine hK.out _ (wc.alloc (.cells #[.slice a3 N3.length c3, .slice a1 N1.length c1, .slice a2 N2.length c2, .slice a4 N4.length c4, .slice ba bn bc] 215)) (HCS.out _ (HK.out.trans hx)) (fun _ => ?_)
           clear hK K
           try replace H1 := Lib.hid (H1.out.ext hx)
           try replace H2 := Lib.hid (H2.out.ext hx)
           try replace H3 := Lib.hid (H3.out.ext hx)
           try replace H4 := Lib.hid (H4.out.ext hx)
           try replace H8 := Lib.hid (H8.out.ext hx)
           replace HK := Lib.hid (HK.out.trans hx)
           obtain ⟨G14, hB⟩ : ∃ x, x = wc.heap.size := ⟨_, rfl⟩
           rw [← hB] at hbn ⊢
           have HG14 := Lib.hid hbn
           clear hbn hB hx
           generalize wc.alloc (.cells #[.slice a3 N3.length c3, .slice a1 N1.length c1, .slice a2 N2.length c2, .slice a4 N4.length c4, .slice ba bn bc] 215) = wc at *
           try simp only [List.getElem_toArray, List.getElem_cons_zero, List.getElem_cons_succ, Act.put, List.setIfInBounds_toArray, List.set_cons_zero, List.set_cons_succ])))
  all_goals (
   first
    | refine wpAnyH_ready (rs := [15]) (by decide +kernel) (by simp) ?_
   repeat' (first | exact AllReadyH.nil | (refine AllReadyH.cons rfl (fun K hK => ?_) ?_)))
  all_goals (
   first
    | (go_simp
       first
        | (have hbb := HB.out.ext HK.out
           have hps := PartsS.cons (c := c3) H3.out.row (PartsS.cons (c := c1) H1.out.row (PartsS.cons (c := c2) H2.out.row (PartsS.cons (c := c4) H4.out.row (PartsS.cons (c := bc) hbb.row (PartsS.nil _ _)))))
           rw [HBN.out] at hps
           go_at_call 127
           clear hbb
           refine (HPK5.out wc (some ⟨G14, 0, none⟩) 5 (parts_blk (vs := [.slice a3 N3.length c3, .slice a1 N1.length c1, .slice a2 N2.length c2, .slice a4 N4.length c4, .slice ba bn bc]) HG14.out hps)).mono ?_
           rintro E wn ⟨a9, c9, rfl, o9, hx⟩
           try replace H1 := Lib.hid (H1.out.ext hx)
           try replace H2 := Lib.hid (H2.out.ext hx)
           try replace H3 := Lib.hid (H3.out.ext hx)
           try replace H4 := Lib.hid (H4.out.ext hx)
           try replace H8 := Lib.hid (H8.out.ext hx)
           have hd := DataM.of_row o9
           obtain ⟨a9x, c9x, hve, h9c, h9d, _⟩ := hd
           cases hve
           have H9 := Lib.hid h9d
           clear o9 h9d
           replace HK := Lib.hid (HK.out.trans hx)
           clear hx
           go_wp2_with fail
           refine hK.out _ _ (HCS.out _ HK.out) (fun _ => ?_)
           clear hK K
           obtain ⟨wc, rfl⟩ : ∃ x : World, x = wn := ⟨_, rfl⟩
           try simp only [List.getElem_toArray, List.getElem_cons_zero, List.getElem_cons_succ, Act.put, List.setIfInBounds_toArray, List.set_cons_zero, List.set_cons_succ]
           refine wpAnyH_take (i := 16) (v := ?_) rfl (by kernel_rfl) (by kernel_rfl) (by kernel_rfl) (fun _ _ _ h => h) (Or.inl ⟨by kernel_rfl, ?_⟩) (HCS.out _ HK.out) ?_
           rotate_left
           · (intro wq _; first | (go_simp; done) | (go_simp; with_reducible rfl))
           try simp only [List.getElem_toArray, List.getElem_cons_zero, List.getElem_cons_succ, Act.put, List.setIfInBounds_toArray, List.set_cons_zero, List.set_cons_succ])))
  all_goals (
   refine wpAnyH_done (by kernel_rfl) ?_ _
   refine NoPanic.normal ?_
   clear H3 H1 H2 H4 HG14
   go_upto_region 4 with (go_at_call 119; refine (log_sectors bn (by omega)).mono ?_; rintro E wn ⟨rfl, rfl⟩)
   clear HCS
   generalize hsc : secN bn = sc at hroom ⊢
   have HSC := Lib.hid hsc; clear hsc
   go_loopw [10, 45] (fun v i wr => ∃ (k : Nat) (ad : Option Addr) (cc : Nat), i = .int .i64 k ∧ v = .slice ad (A.drop (63 * k)).length cc ∧ k ≤ sc ∧ (A.drop (63 * k)).length ≤ cc ∧ Hid (DataM wr ad (A.drop (63 * k))) ∧ Hid (LogC wr lb db kb n img (C ++ writesN pb seq L.epoch b k) L) ∧ Hid (KeepT [190, 257] w wr)) (fun _ i _ => sc - (intOf i).toNat)
   case atStart => exact ⟨0, _, _, rfl, rfl, Nat.zero_le _, h9c, H9, Lib.hid (by have e : writesN pb seq L.epoch b 0 = [] := rfl; rw [e, List.append_nil]; exact HL.out.ext HK.out), Lib.hid (KeepT.of_ext HK.out)⟩
   case round =>
    clear H9
    obtain ⟨k, ad, cc, rfl, rfl, hk, hcc, HD, HLC, HKT⟩ := hrel
    by_cases hlt : k < sc
    · have hAl : A.length = 16 + bn := by rw [← HREC.out, recAll_len, HBN.out]
      have htight := secN_tight bn
      have hscn := HSC.out
      rw [hscn] at htight
      have hll : 1 ≤ (A.drop (63 * k)).length := by rw [List.length_drop]; omega
      generalize hl : A.drop (63 * k) = l at hcc HD hll ⊢
      have HLE := Lib.hid hl; clear hl hAl htight hscn
      generalize hln : l.length = ln at hcc hll ⊢
      have HLN := Lib.hid hln; clear hln
      obtain ⟨tk, htk⟩ : ∃ tk, (l.take 63).length = tk := ⟨_, rfl⟩
      have htk2 : tk ≤ ln := by rw [← htk, ← HLN.out, List.length_take]; omega
      have HTK := Lib.hid htk; clear htk
      go_upto_region 7 with (fail)
      rw [alloc_sector]
      have hx := Ext.alloc wr (.cells (byteV zeroS).toArray 234)
      have hs := sec_zero wr
      obtain ⟨sb, hsb⟩ : ∃ sb, sb = wr.heap.size := ⟨_, rfl⟩
      rw [← hsb] at hs ⊢
      have HSB := Lib.hid (show wr.heap.size ≤ sb by omega)
      clear hsb
      generalize wr.alloc (.cells (byteV zeroS).toArray 234) = w3 at hx hs ⊢
      have HX3 := Lib.hid hx; have HS3 := Lib.hid hs
      clear hx hs
      have c0 : w3.cell? ⟨sb, 0, none⟩ = some (.int .u8 0) := blk_cell HS3.out.2 0 _ rfl
      have f0 := blk_free HS3.out.2 0
      by_cases hk0 : k = 0
      · subst hk0
        go_upto_region 10 with (fail)
        have hb4 : ((w3.setCell ⟨sb, 0, none⟩ (.int .u8 3)).setCell ⟨sb, 0, none⟩ (.int .u8 2)).heap[sb]? = some (.cells (((byteV zeroS).toArray.setIfInBounds 0 (.int .u8 3)).setIfInBounds 0 (.int .u8 2)) 234 (0, 0)) := setCell_row (setCell_row HS3.out.2 _) _
        have hk4 : Keep (· ≠ sb) w3 ((w3.setCell ⟨sb, 0, none⟩ (.int .u8 3)).setCell ⟨sb, 0, none⟩ (.int .u8 2)) := ((Keep.refl _ w3).setCell (fun _ h => h) 0 _).setCell (fun _ h => h) 0 _
        have h64 : (((byteV zeroS).toArray.setIfInBounds 0 (.int .u8 3)).setIfInBounds 0 (.int .u8 2)).size = 64 := by simp only [Array.size_setIfInBounds, zero_size]
        have h04 : (((byteV zeroS).toArray.setIfInBounds 0 (.int .u8 3)).setIfInBounds 0 (.int .u8 2))[0]? = some (.int .u8 ((2 : UInt8).toNat : Int)) := by rw [Array.getElem?_setIfInBounds_self_of_lt (by simp only [Array.size_setIfInBounds, zero_size]; omega)]; rfl
        have hz4 : ∀ i, 1 ≤ i → i < 64 → (((byteV zeroS).toArray.setIfInBounds 0 (.int .u8 3)).setIfInBounds 0 (.int .u8 2))[i]? = some (.int .u8 0) := fun i h1 h2 => (zero_rest h1 h2 (.int .u8 3) (.int .u8 2)).2
        generalize ((byteV zeroS).toArray.setIfInBounds 0 (.int .u8 3)).setIfInBounds 0 (.int .u8 2) = C4 at hb4 h64 h04 hz4
        generalize (w3.setCell ⟨sb, 0, none⟩ (.int .u8 3)).setCell ⟨sb, 0, none⟩ (.int .u8 2) = w4 at hb4 hk4 ⊢
        clear c0 f0
        have hpad := sec_pad hb4 h64 h04 hz4 l
        have hx4 := ext_ne HX3.out HSB.out hk4
        have hx5 := ext_ne hx4 HSB.out hpad.2
        have hth := there_blk (o := 1) (n := 63) hb4 (by omega)
        have HD4 := Lib.hid (HD.out.keep (Keep.of_ext (S := fun _ => True) hx4) (datas_all _)); have HTH := Lib.hid hth; have HPAD := Lib.hid hpad.1; have HX5 := Lib.hid hx5
        clear hb4 hk4 h64 h04 hz4 hpad hx4 hx5 hth HX3 HS3
        go_upto_region 11 with (first | (refine wpList_copy_bytes rfl _ _ rfl sb 1 63 63 (by rfl) ad l ln cc (by rfl) HLN.out (by intro e; have h := HLN.out; rw [e, List.length_nil] at h; omega) HD4.out HTH.out tk HTK.out ?_))
        have hcut := data_cut (tk := tk) (cc := cc) (HD.out.keep (Keep.of_ext (S := fun _ => True) HX5.out) (datas_all _)) (by rw [HLN.out]; exact htk2) (by rw [HLN.out]; exact hcc)
        generalize (if cc = tk then ad else Option.map (fun x => x.add tk) ad) = ad2 at hcut ⊢
        generalize w4.setCells sb 1 (byteV (List.take 63 l)) = w5 at hcut HX5 HPAD ⊢
        have HD6 := Lib.hid hcut
        have hlc5 := HLC.out.ext HX5.out
        have hkt5 := HKT.out.trans (KeepT.of_ext (ts := [190, 257]) HX5.out)
        have HKT5 := Lib.hid hkt5
        have hsec : SecAt w5 sb (recS seq L.epoch b 0) := by
         have h := HPAD.out
         rw [← HLE.out, ← HREC.out] at h
         exact h
        have hnx : (A.drop (63 * (0 + 1))).length = ln - tk ∧ A.drop (63 * (0 + 1)) = l.drop tk := by
         have e := drop_take63 A 0
         rw [HLE.out, HTK.out] at e
         rw [e, List.length_drop, HLN.out]
         exact ⟨rfl, rfl⟩
        have HNX := Lib.hid hnx
        clear hcut hnx hkt5 HPAD HD4 HTH
        generalize hs : recS seq L.epoch b 0 = s at hsec
        have hvl : (byteV s).length = 64 := by rw [byteV_len]; exact hsec.1
        obtain ⟨⟨la5, lc5, ht5, hr5⟩, hd5⟩ := hlc5
        have hpos : pb + 0 < n := by have := HSC.out; omega
        have hwr2 : ∀ W, Ext w5 W → Calls Tryz.prog 169 #[.pointer (some ⟨db, 0, none⟩), .int .i64 ((pb + 0 : Nat) : Int), .agg (byteV s).toArray] W fun e w' => e = .returned (.int .i64 0) ∧ DiskC w' db kb n img (C ++ writesN pb seq L.epoch b 0 ++ [(pb + 0, recS seq L.epoch b 0)]) ∧ KeepT [190, 257] W w' := fun W hx => by
         rw [hs]
         exact disk_Write (hd5.ext hx) hpos hsec.1 (by rw [List.length_append, writesN_len]; have := secN_room bn; have := secN_tight bn; have := HSC.out; omega)
        have htop : ∀ W, KeepT [190, 257] w5 W → ∃ la lc, W.heap[lb]? = some (.cells (logV db L la lc) 209 (0, 0)) ∧ RowsM W Low.low la lc L.list := fun W hk => ⟨la5, lc5, hk.heap ht5 (by decide), hr5.keepT hk (by decide) (by decide)⟩
        have hhf : ∀ W, Ext w5 W → Calls Tryz.prog 120 #[.pointer (some ⟨db, 0, none⟩)] W fun e w' => e = .returned (.int .i64 (halfN n : Nat)) ∧ W = w' := fun W hx => log_half (hd5.ext hx) h2
        have HTOP := Lib.hid htop
        clear htop hr5
        have hhalf : halfN n ≤ 2048 := by have := hd5.size; unfold halfN; omega
        have hb0 : pb = 2 + L.half * halfN n + at_ := HPB.out.symm
        generalize hps : pb + 0 = ps at hwr2 hpos
        generalize hhn : halfN n = hn at hhf hhalf hb0
        generalize hff : L.half = hf at ht5 hb0 hps hh ⊢
        have hq1 : hf * hn ≤ 2048 := by have : hf * hn ≤ 1 * hn := Nat.mul_le_mul_right _ hh; omega
        obtain ⟨q1, hqe⟩ : ∃ q1, q1 = hf * hn := ⟨_, rfl⟩
        have hw1 : IntKind.i64.wrap ((hf : Int) * (hn : Int)) = (q1 : Int) := by rw [hqe, ← Int.natCast_mul, IntKind.wrap_i64]; omega
        have e1 : (hf : Int) * (hn : Int) = (q1 : Int) := by rw [hqe, Int.natCast_mul]
        have e2 : 2 + (q1 : Int) + (at_ : Int) + (0 : Int) = (ps : Int) := by omega
        try have e3 : 2 + (q1 : Int) + (at_ : Int) = (ps : Int) := by omega
        have hps4 : ps ≤ 4096 := by have := hd5.size; omega
        have hq3 : q1 ≤ 2048 := by omega
        have hw2 : IntKind.i64.wrap (q1 : Int) = (q1 : Int) := by rw [IntKind.wrap_i64]; omega
        have hw3 : IntKind.i64.wrap (2 + (q1 : Int)) = 2 + (q1 : Int) := by rw [IntKind.wrap_i64]; omega
        have hw4 : IntKind.i64.wrap (2 + (q1 : Int) + (at_ : Int)) = 2 + (q1 : Int) + (at_ : Int) := by rw [IntKind.wrap_i64]; omega
        have hw5 : IntKind.i64.wrap (ps : Int) = (ps : Int) := by rw [IntKind.wrap_i64]; omega
        clear hw1
        have HVL := Lib.hid hvl; have HHF := Lib.hid hhf; have HWR := Lib.hid hwr2
        have HCS : Hid (∀ W, KeepT [190, 257] w5 W → W.cell? ⟨lb, 0, none⟩ = some (.pointer (some ⟨db, 0, none⟩)) ∧ W.cell? ⟨lb, 3, none⟩ = some (.int .i64 (hf : Int)) ∧ W.rangeAt sb 0 (byteV s)) := Lib.hid fun W k => by
         have h := k.heap ht5 (by decide)
         refine ⟨blk_cell h 0 _ rfl, ?_, rangeAt_keep hsec.range k (notTy_of hsec.2 (by decide))⟩
         have h3 := blk_cell h 3 (.int .i64 (L.half : Int)) rfl
         rw [hff] at h3
         exact h3
        have HPS := Lib.hid hps
        clear hvl hhf hwr2 hsec ht5 hd5 hqe hb0 hps hhalf hq1 hhn hff hs
        generalize byteV s = V at HVL HWR HCS
        have HE : Hid (Ext w5 w5.drew) := Lib.hid ((Ext.refl _).drew)
        have HK : Hid (KeepT [190, 257] w5 w5.drew) := Lib.hid (KeepT.of_ext HE.out)
        refine wp_region_noPanic ?_
        refine wp_region_held_drew (S := (fun W => W.cell? ⟨lb, 0, none⟩ = some (.pointer (some ⟨db, 0, none⟩)) ∧ W.cell? ⟨lb, 3, none⟩ = some (.int .i64 (hf : Int)) ∧ W.rangeAt sb 0 V)) (by kernel_rfl) (HCS.out _ HK.out) (fun hHeld => ?_)
        clear hHeld
        generalize w5.drew = wc at HK HE ⊢
        refine wpAnyH_take (i := 0) (v := ?_) rfl (by kernel_rfl) (by kernel_rfl) (by kernel_rfl) (fun _ _ _ h => h) (Or.inl ⟨by kernel_rfl, ?_⟩) (HCS.out _ HK.out) ?_
        rotate_left
        · (intro wq _; first | (go_simp; done) | (go_simp; with_reducible rfl))
        try simp only [List.getElem_toArray, List.getElem_cons_zero, Act.put, List.setIfInBounds_toArray, List.set_cons_zero, List.set_cons_succ]
        refine wpAnyH_take (i := 1) (v := ?_) rfl (by kernel_rfl) (by kernel_rfl) (by kernel_rfl) (fun _ _ _ h => h) (Or.inl ⟨by kernel_rfl, ?_⟩) (HCS.out _ HK.out) ?_
        rotate_left
        · (intro wq _; first | (go_simp; done) | (go_simp; with_reducible rfl))
        try simp only [List.getElem_toArray, List.getElem_cons_zero, List.getElem_cons_succ, Act.put, List.setIfInBounds_toArray, List.set_cons_zero, List.set_cons_succ]
        refine wpAnyH_take (i := 2) (v := ?_) rfl (by kernel_rfl) (by kernel_rfl) (by kernel_rfl) (fun _ _ _ h => h) (Or.inl ⟨by kernel_rfl, ?_⟩) (HCS.out _ HK.out) ?_
        rotate_left
        · (intro wq _; first | (go_simp; done) | (go_simp; with_reducible rfl))
        try simp only [List.getElem_toArray, List.getElem_cons_zero, List.getElem_cons_succ, Act.put, List.setIfInBounds_toArray, List.set_cons_zero, List.set_cons_succ]
        refine wpAnyH_take (i := 3) (v := ?_) rfl (by kernel_rfl) (by kernel_rfl) (by kernel_rfl) (fun _ _ _ h => h) (Or.inl ⟨by kernel_rfl, ?_⟩) (HCS.out _ HK.out) ?_
        rotate_left
        · (intro wq hSw; (try dsimp only at hSw); first | (go_simp; done) | (go_simp; with_reducible rfl))
        try simp only [List.getElem_toArray, List.getElem_cons_zero, List.getElem_cons_succ, Act.put, List.setIfInBounds_toArray, List.set_cons_zero, List.set_cons_succ]
        refine wpAnyH_take (i := 4) (v := ?_) rfl (by kernel_rfl) (by kernel_rfl) (by kernel_rfl) (fun _ _ _ h => h) (Or.inl ⟨by kernel_rfl, ?_⟩) (HCS.out _ HK.out) ?_
        rotate_left
        · (intro wq _; first | (go_simp; done) | (go_simp; with_reducible rfl))
        try simp only [List.getElem_toArray, List.getElem_cons_zero, List.getElem_cons_succ, Act.put, List.setIfInBounds_toArray, List.set_cons_zero, List.set_cons_succ]
        refine wpAnyH_take (i := 5) (v := ?_) rfl (by kernel_rfl) (by kernel_rfl) (by kernel_rfl) (fun _ _ _ h => h) (Or.inl ⟨by kernel_rfl, ?_⟩) (HCS.out _ HK.out) ?_
        rotate_left
        · (intro wq _; first | (go_simp; done) | (go_simp; with_reducible rfl))
        try simp only [List.getElem_toArray, List.getElem_cons_zero, List.getElem_cons_succ, Act.put, List.setIfInBounds_toArray, List.set_cons_zero, List.set_cons_succ]
        refine wpAnyH_take (i := 6) (v := ?_) rfl (by kernel_rfl) (by kernel_rfl) (by kernel_rfl) (fun _ _ _ h => h) (Or.inl ⟨by kernel_rfl, ?_⟩) (HCS.out _ HK.out) ?_
        rotate_left
        · (intro wq _; first | (go_simp; done) | (go_simp; with_reducible rfl))
        try simp only [List.getElem_toArray, List.getElem_cons_zero, List.getElem_cons_succ, Act.put, List.setIfInBounds_toArray, List.set_cons_zero, List.set_cons_succ]
        refine wpAnyH_take (i := 7) (v := ?_) rfl (by kernel_rfl) (by kernel_rfl) (by kernel_rfl) (fun _ _ _ h => h) (Or.inl ⟨by kernel_rfl, ?_⟩) (HCS.out _ HK.out) ?_
        rotate_left
        · (intro wq hSw; (try dsimp only at hSw); first | (go_simp; done) | (go_simp; with_reducible rfl))
        try simp only [List.getElem_toArray, List.getElem_cons_zero, List.getElem_cons_succ, Act.put, List.setIfInBounds_toArray, List.set_cons_zero, List.set_cons_succ]
        refine wpAnyH_take (i := 8) (v := ?_) rfl (by kernel_rfl) (by kernel_rfl) (by kernel_rfl) (fun _ _ _ h => h) (Or.inl ⟨by kernel_rfl, ?_⟩) (HCS.out _ HK.out) ?_
        rotate_left
        · (intro wq _; first | (go_simp; done) | (go_simp; with_reducible rfl))
        try simp only [List.getElem_toArray, List.getElem_cons_zero, List.getElem_cons_succ, Act.put, List.setIfInBounds_toArray, List.set_cons_zero, List.set_cons_succ]
        refine wpAnyH_take (i := 9) (v := ?_) rfl (by kernel_rfl) (by kernel_rfl) (by kernel_rfl) (fun _ _ _ h => h) (Or.inl ⟨by kernel_rfl, ?_⟩) (HCS.out _ HK.out) ?_
        rotate_left
        · (intro wq _; first | (go_simp; done) | (go_simp; with_reducible rfl))
        try simp only [List.getElem_toArray, List.getElem_cons_zero, List.getElem_cons_succ, Act.put, List.setIfInBounds_toArray, List.set_cons_zero, List.set_cons_succ]
        refine wpAnyH_take (i := 10) (v := ?_) rfl (by kernel_rfl) (by kernel_rfl) (by kernel_rfl) (fun _ _ _ h => h) (Or.inl ⟨by kernel_rfl, ?_⟩) (HCS.out _ HK.out) ?_
        rotate_left
        · (intro wq _; first | (go_simp; done) | (go_simp; with_reducible rfl))
        try simp only [List.getElem_toArray, List.getElem_cons_zero, List.getElem_cons_succ, Act.put, List.setIfInBounds_toArray, List.set_cons_zero, List.set_cons_succ]
        refine wpAnyH_take (i := 11) (v := ?_) rfl (by kernel_rfl) (by kernel_rfl) (by kernel_rfl) (fun _ _ _ h => h) (Or.inl ⟨by kernel_rfl, ?_⟩) (HCS.out _ HK.out) ?_
        rotate_left
        · (intro wq hSw; (try dsimp only at hSw); first | (go_simp; done) | (go_simp; with_reducible rfl))
        try simp only [List.getElem_toArray, List.getElem_cons_zero, List.getElem_cons_succ, Act.put, List.setIfInBounds_toArray, List.set_cons_zero, List.set_cons_succ]
        refine wpAnyH_take (i := 15) (v := ?_) rfl (by kernel_rfl) (by kernel_rfl) (by kernel_rfl) (fun _ _ _ h => h) (Or.inl ⟨by kernel_rfl, ?_⟩) (HCS.out _ HK.out) ?_
        rotate_left
        · (intro wq _; first | (go_simp; done) | (go_simp; with_reducible rfl))
        try simp only [List.getElem_toArray, List.getElem_cons_zero, List.getElem_cons_succ, Act.put, List.setIfInBounds_toArray, List.set_cons_zero, List.set_cons_succ]
        refine wpAnyH_take (i := 17) (v := ?_) rfl (by kernel_rfl) (by kernel_rfl) (by kernel_rfl) (fun _ _ _ h => h) (Or.inl ⟨by kernel_rfl, ?_⟩) (HCS.out _ HK.out) ?_
        rotate_left
        · (intro wq _; first | (go_simp; done) | (go_simp; with_reducible rfl))
        try simp only [List.getElem_toArray, List.getElem_cons_zero, List.getElem_cons_succ, Act.put, List.setIfInBounds_toArray, List.set_cons_zero, List.set_cons_succ]
        refine wpAnyH_take (i := 19) (v := .agg V.toArray) rfl (by kernel_rfl) (by kernel_rfl) (by kernel_rfl) (fun _ _ _ h => h) (Or.inl ⟨by kernel_rfl, ?_⟩) (HCS.out _ HK.out) ?_
        · (intro wq hSw; exact exec_load_mid _ _ (by rfl) sb 0 (by rfl) V _ hSw.2.2 Tryz.underlying234 rfl (by rw [HVL.out]; exact size_sector))
        try simp only [List.getElem_toArray, List.getElem_cons_zero, List.getElem_cons_succ, Act.put, List.setIfInBounds_toArray, List.set_cons_zero, List.set_cons_succ]
        all_goals (
         first
          | refine wpAnyH_ready (rs := [12]) (by decide +kernel) (by simp) ?_
         repeat' (first | exact AllReadyH.nil | (refine AllReadyH.cons rfl (fun K hK => ?_) ?_)))
        all_goals (
         first
          | (go_simp
             first
              | (go_at_call 120
                 refine (HHF.out wc HE.out).mono ?_
                 rintro E wn ⟨rfl, rfl⟩
                 go_wp2_with fail
                 refine hK.out _ _ (HCS.out _ HK.out) (fun _ => ?_)
                 clear hK K
                 try simp only [List.getElem_toArray, List.getElem_cons_zero, List.getElem_cons_succ, Act.put, List.setIfInBounds_toArray, List.set_cons_zero, List.set_cons_succ]
                 refine wpAnyH_take (i := 13) (v := ?_) rfl (by kernel_rfl) (by kernel_rfl) (by kernel_rfl) (fun _ _ _ h => h) (Or.inl ⟨by kernel_rfl, ?_⟩) (HCS.out _ HK.out) ?_
                 rotate_left
                 · (intro wq _; first | (go_simp; done) | (go_simp; with_reducible rfl))
                 try simp only [List.getElem_toArray, List.getElem_cons_zero, List.getElem_cons_succ, Act.put, List.setIfInBounds_toArray, List.set_cons_zero, List.set_cons_succ]
                 refine wpAnyH_take (i := 14) (v := ?_) rfl (by kernel_rfl) (by kernel_rfl) (by kernel_rfl) (fun _ _ _ h => h) (Or.inl ⟨by kernel_rfl, ?_⟩) (HCS.out _ HK.out) ?_
                 rotate_left
                 · (intro wq _; first | (go_simp; done) | (go_simp; with_reducible rfl))
                 try simp only [List.getElem_toArray, List.getElem_cons_zero, List.getElem_cons_succ, Act.put, List.setIfInBounds_toArray, List.set_cons_zero, List.set_cons_succ]
                 refine wpAnyH_take (i := 16) (v := ?_) rfl (by kernel_rfl) (by kernel_rfl) (by kernel_rfl) (fun _ _ _ h => h) (Or.inl ⟨by kernel_rfl, ?_⟩) (HCS.out _ HK.out) ?_
                 rotate_left
                 · (intro wq _; first | (go_simp; done) | (go_simp; with_reducible rfl))
                 try simp only [List.getElem_toArray, List.getElem_cons_zero, List.getElem_cons_succ, Act.put, List.setIfInBounds_toArray, List.set_cons_zero, List.set_cons_succ]
                 refine wpAnyH_take (i := 18) (v := ?_) rfl (by kernel_rfl) (by kernel_rfl) (by kernel_rfl) (fun _ _ _ h => h) (Or.inl ⟨by kernel_rfl, ?_⟩) (HCS.out _ HK.out) ?_
                 rotate_left
                 · (intro wq _; first | (go_simp; done) | (go_simp; with_reducible rfl))
                 try simp only [List.getElem_toArray, List.getElem_cons_zero, List.getElem_cons_succ, Act.put, List.setIfInBounds_toArray, List.set_cons_zero, List.set_cons_succ])))
        all_goals (
         first
          | refine wpAnyH_ready (rs := [20]) (by decide +kernel) (by simp) ?_
         repeat' (first | exact AllReadyH.nil | (refine AllReadyH.cons rfl (fun K hK => ?_) ?_)))
        all_goals (
         first
          | (go_simp
             first
              | (go_at_call 169
                 refine (HWR.out wc HE.out).mono ?_
                 rintro E wn ⟨rfl, hd, hk⟩
                 have HDW := Lib.hid hd; have HKW := Lib.hid (HKT5.out.trans (HK.out.trans hk))
                 replace HK := Lib.hid (HK.out.trans hk)
                 clear hd hk HE
                 go_wp2_with fail
                 refine hK.out _ _ (HCS.out _ HK.out) (fun _ => ?_)
                 clear hK K
                 obtain ⟨wc, rfl⟩ : ∃ x : World, x = wn := ⟨_, rfl⟩
                 try simp only [List.getElem_toArray, List.getElem_cons_zero, List.getElem_cons_succ, Act.put, List.setIfInBounds_toArray, List.set_cons_zero, List.set_cons_succ]
                 refine wpAnyH_take (i := 21) (v := ?_) rfl (by kernel_rfl) (by kernel_rfl) (by kernel_rfl) (fun _ _ _ h => h) (Or.inl ⟨by kernel_rfl, ?_⟩) (HCS.out _ HK.out) ?_
                 rotate_left
                 · (intro wq _; first | (go_simp; done) | (go_simp; with_reducible rfl))
                 try simp only [List.getElem_toArray, List.getElem_cons_zero, List.getElem_cons_succ, Act.put, List.setIfInBounds_toArray, List.set_cons_zero, List.set_cons_succ])))
        all_goals (
         refine wpAnyH_done (by kernel_rfl) ?_ _
         refine NoPanic.normal ?_
         go_wp2_with fail
         go_roundw
         case rel => exact ⟨0 + 1, ad2, cc - tk, by go_num, by rw [HNX.out.1], by omega, by rw [HNX.out.1]; omega, Lib.hid (by rw [HNX.out.2]; exact HD6.out.keep HK.out (KeepT.datas (by decide))), Lib.hid (by rw [writesN_succ, ← List.append_assoc, HPS.out]; exact ⟨HTOP.out _ HK.out, HDW.out, HLWL.out⟩), HKW⟩
         case measure => simp [intOf]; omega)
      · have hk1 : ¬ (k : Int) = 0 := by omega
        go_upto_region 10 with (fail)
        clear hk1
        have hb4 : (w3.setCell ⟨sb, 0, none⟩ (.int .u8 3)).heap[sb]? = some (.cells ((byteV zeroS).toArray.setIfInBounds 0 (.int .u8 3)) 234 (0, 0)) := setCell_row HS3.out.2 _
        have hk4 : Keep (· ≠ sb) w3 (w3.setCell ⟨sb, 0, none⟩ (.int .u8 3)) := (Keep.refl _ w3).setCell (fun _ h => h) 0 _
        have h64 : ((byteV zeroS).toArray.setIfInBounds 0 (.int .u8 3)).size = 64 := by simp only [Array.size_setIfInBounds, zero_size]
        have h04 : ((byteV zeroS).toArray.setIfInBounds 0 (.int .u8 3))[0]? = some (.int .u8 ((3 : UInt8).toNat : Int)) := by rw [Array.getElem?_setIfInBounds_self_of_lt (by simp only [zero_size]; omega)]; rfl
        have hz4 : ∀ i, 1 ≤ i → i < 64 → ((byteV zeroS).toArray.setIfInBounds 0 (.int .u8 3))[i]? = some (.int .u8 0) := fun i h1 h2 => (zero_rest h1 h2 (.int .u8 3) (.int .u8 3)).1
        generalize (byteV zeroS).toArray.setIfInBounds 0 (.int .u8 3) = C4 at hb4 h64 h04 hz4
        generalize w3.setCell ⟨sb, 0, none⟩ (.int .u8 3) = w4 at hb4 hk4 ⊢
        clear c0 f0
        have hpad := sec_pad hb4 h64 h04 hz4 l
        have hx4 := ext_ne HX3.out HSB.out hk4
        have hx5 := ext_ne hx4 HSB.out hpad.2
        have hth := there_blk (o := 1) (n := 63) hb4 (by omega)
        have HD4 := Lib.hid (HD.out.keep (Keep.of_ext (S := fun _ => True) hx4) (datas_all _)); have HTH := Lib.hid hth; have HPAD := Lib.hid hpad.1; have HX5 := Lib.hid hx5
        clear hb4 hk4 h64 h04 hz4 hpad hx4 hx5 hth HX3 HS3
        go_upto_region 11 with (first | (refine wpList_copy_bytes rfl _ _ rfl sb 1 63 63 (by rfl) ad l ln cc (by rfl) HLN.out (by intro e; have h := HLN.out; rw [e, List.length_nil] at h; omega) HD4.out HTH.out tk HTK.out ?_))
        have hcut := data_cut (tk := tk) (cc := cc) (HD.out.keep (Keep.of_ext (S := fun _ => True) HX5.out) (datas_all _)) (by rw [HLN.out]; exact htk2) (by rw [HLN.out]; exact hcc)
        generalize (if cc = tk then ad else Option.map (fun x => x.add tk) ad) = ad2 at hcut ⊢
        generalize w4.setCells sb 1 (byteV (List.take 63 l)) = w5 at hcut HX5 HPAD ⊢
        have HD6 := Lib.hid hcut
        have hlc5 := HLC.out.ext HX5.out
        have hkt5 := HKT.out.trans (KeepT.of_ext (ts := [190, 257]) HX5.out)
        have HKT5 := Lib.hid hkt5
        have hsec : SecAt w5 sb (recS seq L.epoch b k) := by
         have h := HPAD.out
         rw [← HLE.out, ← HREC.out] at h
         have e : markS k = 3 := if_neg hk0
         rw [← e] at h
         exact h
        have hnx : (A.drop (63 * (k + 1))).length = ln - tk ∧ A.drop (63 * (k + 1)) = l.drop tk := by
         have e := drop_take63 A k
         rw [HLE.out, HTK.out] at e
         rw [e, List.length_drop, HLN.out]
         exact ⟨rfl, rfl⟩
        have HNX := Lib.hid hnx
        clear hcut hnx hkt5 HPAD HD4 HTH
        generalize hs : recS seq L.epoch b k = s at hsec
        have hvl : (byteV s).length = 64 := by rw [byteV_len]; exact hsec.1
        obtain ⟨⟨la5, lc5, ht5, hr5⟩, hd5⟩ := hlc5
        have hpos : pb + k < n := by have := HSC.out; omega
        have hwr2 : ∀ W, Ext w5 W → Calls Tryz.prog 169 #[.pointer (some ⟨db, 0, none⟩), .int .i64 ((pb + k : Nat) : Int), .agg (byteV s).toArray] W fun e w' => e = .returned (.int .i64 0) ∧ DiskC w' db kb n img (C ++ writesN pb seq L.epoch b k ++ [(pb + k, recS seq L.epoch b k)]) ∧ KeepT [190, 257] W w' := fun W hx => by
         rw [hs]
         exact disk_Write (hd5.ext hx) hpos hsec.1 (by rw [List.length_append, writesN_len]; have := secN_room bn; have := secN_tight bn; have := HSC.out; omega)
        have htop : ∀ W, KeepT [190, 257] w5 W → ∃ la lc, W.heap[lb]? = some (.cells (logV db L la lc) 209 (0, 0)) ∧ RowsM W Low.low la lc L.list := fun W hk => ⟨la5, lc5, hk.heap ht5 (by decide), hr5.keepT hk (by decide) (by decide)⟩
        have hhf : ∀ W, Ext w5 W → Calls Tryz.prog 120 #[.pointer (some ⟨db, 0, none⟩)] W fun e w' => e = .returned (.int .i64 (halfN n : Nat)) ∧ W = w' := fun W hx => log_half (hd5.ext hx) h2
        have HTOP := Lib.hid htop
        clear htop hr5
        have hhalf : halfN n ≤ 2048 := by have := hd5.size; unfold halfN; omega
        have hb0 : pb = 2 + L.half * halfN n + at_ := HPB.out.symm
        generalize hps : pb + k = ps at hwr2 hpos
        generalize hhn : halfN n = hn at hhf hhalf hb0
        generalize hff : L.half = hf at ht5 hb0 hps hh ⊢
        have hq1 : hf * hn ≤ 2048 := by have : hf * hn ≤ 1 * hn := Nat.mul_le_mul_right _ hh; omega
        obtain ⟨q1, hqe⟩ : ∃ q1, q1 = hf * hn := ⟨_, rfl⟩
        have hw1 : IntKind.i64.wrap ((hf : Int) * (hn : Int)) = (q1 : Int) := by rw [hqe, ← Int.natCast_mul, IntKind.wrap_i64]; omega
        have e1 : (hf : Int) * (hn : Int) = (q1 : Int) := by rw [hqe, Int.natCast_mul]
        have e2 : 2 + (q1 : Int) + (at_ : Int) + (k : Int) = (ps : Int) := by omega
        try have e3 : 2 + (q1 : Int) + (at_ : Int) = (ps : Int) := by omega
        have hps4 : ps ≤ 4096 := by have := hd5.size; omega
        have hq3 : q1 ≤ 2048 := by omega
        have hw2 : IntKind.i64.wrap (q1 : Int) = (q1 : Int) := by rw [IntKind.wrap_i64]; omega
        have hw3 : IntKind.i64.wrap (2 + (q1 : Int)) = 2 + (q1 : Int) := by rw [IntKind.wrap_i64]; omega
        have hw4 : IntKind.i64.wrap (2 + (q1 : Int) + (at_ : Int)) = 2 + (q1 : Int) + (at_ : Int) := by rw [IntKind.wrap_i64]; omega
        have hw5 : IntKind.i64.wrap (ps : Int) = (ps : Int) := by rw [IntKind.wrap_i64]; omega
        clear hw1
        have HVL := Lib.hid hvl; have HHF := Lib.hid hhf; have HWR := Lib.hid hwr2
        have HCS : Hid (∀ W, KeepT [190, 257] w5 W → W.cell? ⟨lb, 0, none⟩ = some (.pointer (some ⟨db, 0, none⟩)) ∧ W.cell? ⟨lb, 3, none⟩ = some (.int .i64 (hf : Int)) ∧ W.rangeAt sb 0 (byteV s)) := Lib.hid fun W k => by
         have h := k.heap ht5 (by decide)
         refine ⟨blk_cell h 0 _ rfl, ?_, rangeAt_keep hsec.range k (notTy_of hsec.2 (by decide))⟩
         have h3 := blk_cell h 3 (.int .i64 (L.half : Int)) rfl
         rw [hff] at h3
         exact h3
        have HPS := Lib.hid hps
        clear hvl hhf hwr2 hsec ht5 hd5 hqe hb0 hps hhalf hq1 hhn hff hs
        generalize byteV s = V at HVL HWR HCS
        have HE : Hid (Ext w5 w5.drew) := Lib.hid ((Ext.refl _).drew)
        have HK : Hid (KeepT [190, 257] w5 w5.drew) := Lib.hid (KeepT.of_ext HE.out)
        refine wp_region_noPanic ?_
        refine wp_region_held_drew (S := (fun W => W.cell? ⟨lb, 0, none⟩ = some (.pointer (some ⟨db, 0, none⟩)) ∧ W.cell? ⟨lb, 3, none⟩ = some (.int .i64 (hf : Int)) ∧ W.rangeAt sb 0 V)) (by kernel_rfl) (HCS.out _ HK.out) (fun hHeld => ?_)
        clear hHeld
        generalize w5.drew = wc at HK HE ⊢
        refine wpAnyH_take (i := 0) (v := ?_) rfl (by kernel_rfl) (by kernel_rfl) (by kernel_rfl) (fun _ _ _ h => h) (Or.inl ⟨by kernel_rfl, ?_⟩) (HCS.out _ HK.out) ?_
        rotate_left
        · (intro wq _; first | (go_simp; done) | (go_simp; with_reducible rfl))
        try simp only [List.getElem_toArray, List.getElem_cons_zero, Act.put, List.setIfInBounds_toArray, List.set_cons_zero, List.set_cons_succ]
        refine wpAnyH_take (i := 1) (v := ?_) rfl (by kernel_rfl) (by kernel_rfl) (by kernel_rfl) (fun _ _ _ h => h) (Or.inl ⟨by kernel_rfl, ?_⟩) (HCS.out _ HK.out) ?_
        rotate_left
        · (intro wq _; first | (go_simp; done) | (go_simp; with_reducible rfl))
        try simp only [List.getElem_toArray, List.getElem_cons_zero, List.getElem_cons_succ, Act.put, List.setIfInBounds_toArray, List.set_cons_zero, List.set_cons_succ]
        refine wpAnyH_take (i := 2) (v := ?_) rfl (by kernel_rfl) (by kernel_rfl) (by kernel_rfl) (fun _ _ _ h => h) (Or.inl ⟨by kernel_rfl, ?_⟩) (HCS.out _ HK.out) ?_
        rotate_left
        · (intro wq _; first | (go_simp; done) | (go_simp; with_reducible rfl))
        try simp only [List.getElem_toArray, List.getElem_cons_zero, List.getElem_cons_succ, Act.put, List.setIfInBounds_toArray, List.set_cons_zero, List.set_cons_succ]
        refine wpAnyH_take (i := 3) (v := ?_) rfl (by kernel_rfl) (by kernel_rfl) (by kernel_rfl) (fun _ _ _ h => h) (Or.inl ⟨by kernel_rfl, ?_⟩) (HCS.out _ HK.out) ?_
        rotate_left
        · (intro wq hSw; (try dsimp only at hSw); first | (go_simp; done) | (go_simp; with_reducible rfl))
        try simp only [List.getElem_toArray, List.getElem_cons_zero, List.getElem_cons_succ, Act.put, List.setIfInBounds_toArray, List.set_cons_zero, List.set_cons_succ]
        refine wpAnyH_take (i := 4) (v := ?_) rfl (by kernel_rfl) (by kernel_rfl) (by kernel_rfl) (fun _ _ _ h => h) (Or.inl ⟨by kernel_rfl, ?_⟩) (HCS.out _ HK.out) ?_
        rotate_left
        · (intro wq _; first | (go_simp; done) | (go_simp; with_reducible rfl))
        try simp only [List.getElem_toArray, List.getElem_cons_zero, List.getElem_cons_succ, Act.put, List.setIfInBounds_toArray, List.set_cons_zero, List.set_cons_succ]
        refine wpAnyH_take (i := 5) (v := ?_) rfl (by kernel_rfl) (by kernel_rfl) (by kernel_rfl) (fun _ _ _ h => h) (Or.inl ⟨by kernel_rfl, ?_⟩) (HCS.out _ HK.out) ?_
        rotate_left
        · (intro wq _; first | (go_simp; done) | (go_simp; with_reducible rfl))
        try simp only [List.getElem_toArray, List.getElem_cons_zero, List.getElem_cons_succ, Act.put, List.setIfInBounds_toArray, List.set_cons_zero, List.set_cons_succ]
        refine wpAnyH_take (i := 6) (v := ?_) rfl (by kernel_rfl) (by kernel_rfl) (by kernel_rfl) (fun _ _ _ h => h) (Or.inl ⟨by kernel_rfl, ?_⟩) (HCS.out _ HK.out) ?_
        rotate_left
        · (intro wq _; first | (go_simp; done) | (go_simp; with_reducible rfl))
        try simp only [List.getElem_toArray, List.getElem_cons_zero, List.getElem_cons_succ, Act.put, List.setIfInBounds_toArray, List.set_cons_zero, List.set_cons_succ]
        refine wpAnyH_take (i := 7) (v := ?_) rfl (by kernel_rfl) (by kernel_rfl) (by kernel_rfl) (fun _ _ _ h => h) (Or.inl ⟨by kernel_rfl, ?_⟩) (HCS.out _ HK.out) ?_
        rotate_left
        · (intro wq hSw; (try dsimp only at hSw); first | (go_simp; done) | (go_simp; with_reducible rfl))
        try simp only [List.getElem_toArray, List.getElem_cons_zero, List.getElem_cons_succ, Act.put, List.setIfInBounds_toArray, List.set_cons_zero, List.set_cons_succ]
        refine wpAnyH_take (i := 8) (v := ?_) rfl (by kernel_rfl) (by kernel_rfl) (by kernel_rfl) (fun _ _ _ h => h) (Or.inl ⟨by kernel_rfl, ?_⟩) (HCS.out _ HK.out) ?_
        rotate_left
        · (intro wq _; first | (go_simp; done) | (go_simp; with_reducible rfl))
        try simp only [List.getElem_toArray, List.getElem_cons_zero, List.getElem_cons_succ, Act.put, List.setIfInBounds_toArray, List.set_cons_zero, List.set_cons_succ]
        refine wpAnyH_take (i := 9) (v := ?_) rfl (by kernel_rfl) (by kernel_rfl) (by kernel_rfl) (fun _ _ _ h => h) (Or.inl ⟨by kernel_rfl, ?_⟩) (HCS.out _ HK.out) ?_
        rotate_left
        · (intro wq _; first | (go_simp; done) | (go_simp; with_reducible rfl))
        try simp only [List.getElem_toArray, List.getElem_cons_zero, List.getElem_cons_succ, Act.put, List.setIfInBounds_toArray, List.set_cons_zero, List.set_cons_succ]
        refine wpAnyH_take (i := 10) (v := ?_) rfl (by kernel_rfl) (by kernel_rfl) (by kernel_rfl) (fun _ _ _ h => h) (Or.inl ⟨by kernel_rfl, ?_⟩) (HCS.out _ HK.out) ?_
        rotate_left
        · (intro wq _; first | (go_simp; done) | (go_simp; with_reducible rfl))
        try simp only [List.getElem_toArray, List.getElem_cons_zero, List.getElem_cons_succ, Act.put, List.setIfInBounds_toArray, List.set_cons_zero, List.set_cons_succ]
        refine wpAnyH_take (i := 11) (v := ?_) rfl (by kernel_rfl) (by kernel_rfl) (by kernel_rfl) (fun _ _ _ h => h) (Or.inl ⟨by kernel_rfl, ?_⟩) (HCS.out _ HK.out) ?_
        rotate_left
        · (intro wq hSw; (try dsimp only at hSw); first | (go_simp; done) | (go_simp; with_reducible rfl))
        try simp only [List.getElem_toArray, List.getElem_cons_zero, List.getElem_cons_succ, Act.put, List.setIfInBounds_toArray, List.set_cons_zero, List.set_cons_succ]
        refine wpAnyH_take (i := 15) (v := ?_) rfl (by kernel_rfl) (by kernel_rfl) (by kernel_rfl) (fun _ _ _ h => h) (Or.inl ⟨by kernel_rfl, ?_⟩) (HCS.out _ HK.out) ?_
        rotate_left
        · (intro wq _; first | (go_simp; done) | (go_simp; with_reducible rfl))
        try simp only [List.getElem_toArray, List.getElem_cons_zero, List.getElem_cons_succ, Act.put, List.setIfInBounds_toArray, List.set_cons_zero, List.set_cons_succ]
        refine wpAnyH_take (i := 17) (v := ?_) rfl (by kernel_rfl) (by kernel_rfl) (by kernel_rfl) (fun _ _ _ h => h) (Or.inl ⟨by kernel_rfl, ?_⟩) (HCS.out _ HK.out) ?_
        rotate_left
        · (intro wq _; first | (go_simp; done) | (go_simp; with_reducible rfl))
        try simp only [List.getElem_toArray, List.getElem_cons_zero, List.getElem_cons_succ, Act.put, List.setIfInBounds_toArray, List.set_cons_zero, List.set_cons_succ]
        refine wpAnyH_take (i := 19) (v := .agg V.toArray) rfl (by kernel_rfl) (by kernel_rfl) (by kernel_rfl) (fun _ _ _ h => h) (Or.inl ⟨by kernel_rfl, ?_⟩) (HCS.out _ HK.out) ?_
        · (intro wq hSw; exact exec_load_mid _ _ (by rfl) sb 0 (by rfl) V _ hSw.2.2 Tryz.underlying234 rfl (by rw [HVL.out]; exact size_sector))
        try simp only [List.getElem_toArray, List.getElem_cons_zero, List.getElem_cons_succ, Act.put, List.setIfInBounds_toArray, List.set_cons_zero, List.set_cons_succ]
        all_goals (
         first
          | refine wpAnyH_ready (rs := [12]) (by decide +kernel) (by simp) ?_
         repeat' (first | exact AllReadyH.nil | (refine AllReadyH.cons rfl (fun K hK => ?_) ?_)))
        all_goals (
         first
          | (go_simp
             first
              | (go_at_call 120
                 refine (HHF.out wc HE.out).mono ?_
                 rintro E wn ⟨rfl, rfl⟩
                 go_wp2_with fail
                 refine hK.out _ _ (HCS.out _ HK.out) (fun _ => ?_)
                 clear hK K
                 try simp only [List.getElem_toArray, List.getElem_cons_zero, List.getElem_cons_succ, Act.put, List.setIfInBounds_toArray, List.set_cons_zero, List.set_cons_succ]
                 refine wpAnyH_take (i := 13) (v := ?_) rfl (by kernel_rfl) (by kernel_rfl) (by kernel_rfl) (fun _ _ _ h => h) (Or.inl ⟨by kernel_rfl, ?_⟩) (HCS.out _ HK.out) ?_
                 rotate_left
                 · (intro wq _; first | (go_simp; done) | (go_simp; with_reducible rfl))
                 try simp only [List.getElem_toArray, List.getElem_cons_zero, List.getElem_cons_succ, Act.put, List.setIfInBounds_toArray, List.set_cons_zero, List.set_cons_succ]
                 refine wpAnyH_take (i := 14) (v := ?_) rfl (by kernel_rfl) (by kernel_rfl) (by kernel_rfl) (fun _ _ _ h => h) (Or.inl ⟨by kernel_rfl, ?_⟩) (HCS.out _ HK.out) ?_
                 rotate_left
                 · (intro wq _; first | (go_simp; done) | (go_simp; with_reducible rfl))
                 try simp only [List.getElem_toArray, List.getElem_cons_zero, List.getElem_cons_succ, Act.put, List.setIfInBounds_toArray, List.set_cons_zero, List.set_cons_succ]
                 refine wpAnyH_take (i := 16) (v := ?_) rfl (by kernel_rfl) (by kernel_rfl) (by kernel_rfl) (fun _ _ _ h => h) (Or.inl ⟨by kernel_rfl, ?_⟩) (HCS.out _ HK.out) ?_
                 rotate_left
                 · (intro wq _; first | (go_simp; done) | (go_simp; with_reducible rfl))
                 try simp only [List.getElem_toArray, List.getElem_cons_zero, List.getElem_cons_succ, Act.put, List.setIfInBounds_toArray, List.set_cons_zero, List.set_cons_succ]
                 refine wpAnyH_take (i := 18) (v := ?_) rfl (by kernel_rfl) (by kernel_rfl) (by kernel_rfl) (fun _ _ _ h => h) (Or.inl ⟨by kernel_rfl, ?_⟩) (HCS.out _ HK.out) ?_
                 rotate_left
                 · (intro wq _; first | (go_simp; done) | (go_simp; with_reducible rfl))
                 try simp only [List.getElem_toArray, List.getElem_cons_zero, List.getElem_cons_succ, Act.put, List.setIfInBounds_toArray, List.set_cons_zero, List.set_cons_succ])))
        all_goals (
         first
          | refine wpAnyH_ready (rs := [20]) (by decide +kernel) (by simp) ?_
         repeat' (first | exact AllReadyH.nil | (refine AllReadyH.cons rfl (fun K hK => ?_) ?_)))
        all_goals (
         first
          | (go_simp
             first
              | (go_at_call 169
                 refine (HWR.out wc HE.out).mono ?_
                 rintro E wn ⟨rfl, hd, hk⟩
                 have HDW := Lib.hid hd; have HKW := Lib.hid (HKT5.out.trans (HK.out.trans hk))
                 replace HK := Lib.hid (HK.out.trans hk)
                 clear hd hk HE
                 go_wp2_with fail
                 refine hK.out _ _ (HCS.out _ HK.out) (fun _ => ?_)
                 clear hK K
                 obtain ⟨wc, rfl⟩ : ∃ x : World, x = wn := ⟨_, rfl⟩
                 try simp only [List.getElem_toArray, List.getElem_cons_zero, List.getElem_cons_succ, Act.put, List.setIfInBounds_toArray, List.set_cons_zero, List.set_cons_succ]
                 refine wpAnyH_take (i := 21) (v := ?_) rfl (by kernel_rfl) (by kernel_rfl) (by kernel_rfl) (fun _ _ _ h => h) (Or.inl ⟨by kernel_rfl, ?_⟩) (HCS.out _ HK.out) ?_
                 rotate_left
                 · (intro wq _; first | (go_simp; done) | (go_simp; with_reducible rfl))
                 try simp only [List.getElem_toArray, List.getElem_cons_zero, List.getElem_cons_succ, Act.put, List.setIfInBounds_toArray, List.set_cons_zero, List.set_cons_succ])))
        all_goals (
         refine wpAnyH_done (by kernel_rfl) ?_ _
         refine NoPanic.normal ?_
         go_wp2_with fail
         go_roundw
         case rel => exact ⟨k + 1, ad2, cc - tk, by go_num, by rw [HNX.out.1], by omega, by rw [HNX.out.1]; omega, Lib.hid (by rw [HNX.out.2]; exact HD6.out.keep HK.out (KeepT.datas (by decide))), Lib.hid (by rw [writesN_succ, ← List.append_assoc, HPS.out]; exact ⟨HTOP.out _ HK.out, HDW.out, HLWL.out⟩), HKW⟩
         case measure => simp [intOf]; omega)
    · have hkk : k = sc := by omega
      subst hkk
      have HE2 := Lib.hid (HSC.out)
      go_wp2_with fail
      rw [HR.out]
      have hlc := HLC.out
      rw [← HSC.out, ← HBN.out] at hlc
      exact ⟨rfl, hlc, HKT.out⟩))
end
end Go.Proofs.YtefpllpichhojaaGreatDoor
