/- The log's die and Append. -/
import Derived.Test.YtefpllpichhojaaGreatDoorLogPut
import Derived.Test.YtefpllpichhojaaGreatDoorM18
namespace Go.Proofs.YtefpllpichhojaaGreatDoor
open Go.RowKit
variable [Low]
section
variable {w : World} {lb db kb n : Nat} {img : Img} {C : List (Nat × List UInt8)} {L : LogD}
omit [Low] in
theorem log_die {la : Option Addr} {lc : Nat} (ht : w.heap[lb]? = some (.cells (logV db L la lc) 209 (0, 0))) :
 Calls Tryz.prog 123 #[.pointer (some ⟨lb, 0, none⟩), .int .i64 0] w fun e w' => e = .returned (.int .i64 0) ∧ w' = w.setCell ⟨lb, 6, none⟩ (.bool false) := by
 have c6 := blk_cell ht 6 (.bool false) rfl
 have f6 := blk_free ht 6
 clear ht
 go_enter Tryz.func123, Tryz.ntmps123
 go_wp2_with fail
 all_goals go_ret
 all_goals exact ⟨rfl, rfl⟩
set_option maxRecDepth 100000 in
set_option maxHeartbeats 6400000 in
theorem log_Append (h : LogM w lb db kb n img L) {b : List UInt8} {ba : Option Addr} {bc : Nat} (hb : DataM w ba b) (_hbc : b.length ≤ bc) (hbl : b.length ≤ 4096) (h6 : 6 ≤ n) (hh : L.half ≤ 1) (hroom : L.off + secN b.length ≤ halfN n) (hseq : L.list.length ≤ 1000000) (hep : L.epoch ≤ 2147483648) :
 Calls Tryz.prog 77 #[.pointer (some ⟨lb, 0, none⟩), .slice ba b.length bc] w fun e w' => e = .returned (.int .i64 0) ∧ LogM w' lb db kb n (putI img (baseN n L.half + L.off) L.list.length L.epoch b) (appL L b) ∧ KeepT logT w w' := by
 obtain ⟨R, hR⟩ : ∃ R : Ending → World → Prop, R = fun e w' => e = .returned (.int .i64 0) ∧ LogM w' lb db kb n (putI img (baseN n L.half + L.off) L.list.length L.epoch b) (appL L b) ∧ KeepT logT w w' := ⟨_, rfl⟩
 rw [← hR]
 have HR := Lib.hid hR; clear hR
 have hbn2 := baseN_lt hh h6
 have hsz := h.disk.size
 have hhn : halfN n ≤ 2047 := by unfold halfN; omega
 have hput := fun W hx => log_put (h.ext (w' := W) hx) (at_ := L.off) (seq := L.list.length) (b := b) (ba := ba) (bc := bc) (hb.keep (Keep.of_ext (S := fun _ => True) hx) (datas_all _)) hbl (by omega) hh (by omega) (by omega) hep (by simp)
 have hhf := fun W (hx : Ext w W) => log_half (w := W) (h.disk.ext hx) (by omega)
 have HL := Lib.hid h
 have HLWL := Lib.hid h.low
 have hl1 := h.low
 have hls : Low.low ≤ w.heap.size := by obtain ⟨⟨_, _, ht, _⟩, _⟩ := h; have := (Array.getElem?_eq_some_iff.1 ht).1; omega
 have HLS := Lib.hid hls; clear hls
 obtain ⟨⟨la, lc, ht, hr⟩, hd⟩ := h
 have HT := Lib.hid ht; have HRW := Lib.hid hr; have HDB := Lib.hid hb; clear hd hr hb
 have d6 := blk_cell ht 6 (.bool false) rfl
 clear ht
 have hw5 : IntKind.i64.wrap ((L.off : Int) + (secN b.length : Nat)) = (L.off : Int) + (secN b.length : Nat) := by rw [IntKind.wrap_i64]; omega
 generalize hbn : b.length = bn at hput hroom hbl hw5 ⊢
 have HBN := Lib.hid hbn; clear hbn
 generalize hsc : secN bn = sc at hroom hw5
 have HSC := Lib.hid hsc; clear hsc
 generalize hhe : halfN n = hn at hhf hroom hhn hbn2
 have HHE := Lib.hid hhe; clear hhe
 have hsec : ∀ W, Calls Tryz.prog 119 #[.int .i64 bn] W fun e w' => e = .returned (.int .i64 (sc : Nat)) ∧ W = w' := fun W => by rw [← HSC.out]; exact log_sectors bn (by omega)
 have HSEC := Lib.hid hsec; have HPUT := Lib.hid hput; have HHF := Lib.hid hhf; clear hsec hput hhf
 generalize hof : L.off = of at hroom hw5 HPUT
 have HOF := Lib.hid hof; clear hof
 generalize hm : L.list.length = m at hseq HPUT
 have HM := Lib.hid hm; clear hm
 go_enter Tryz.func77, Tryz.ntmps77
 go_upto_region 6 with (go_at_call 119; refine (HSEC.out _).mono ?_; rintro E wn ⟨rfl, rfl⟩)
 clear d6
 have HCS : Hid (∀ W, Ext w W → W.cell? ⟨lb, 4, none⟩ = some (.int .i64 (of : Int)) ∧ W.cell? ⟨lb, 0, none⟩ = some (.pointer (some ⟨db, 0, none⟩))) := Lib.hid fun W k => by
  have h := k.heap HT.out
  have h4 := blk_cell h 4 (.int .i64 (L.off : Int)) rfl
  rw [HOF.out] at h4
  exact ⟨h4, blk_cell h 0 _ rfl⟩
 have HK : Hid (Ext w w.drew) := Lib.hid ((Ext.refl _).drew)
 refine wp_region_noPanic ?_
 refine wp_region_held_drew (S := (fun W => W.cell? ⟨lb, 4, none⟩ = some (.int .i64 (of : Int)) ∧ W.cell? ⟨lb, 0, none⟩ = some (.pointer (some ⟨db, 0, none⟩)))) (by kernel_rfl) (HCS.out _ HK.out) (fun hHeld => ?_)
 clear hHeld
 generalize w.drew = wc at HK ⊢
 refine wpAnyH_take (i := 0) (v := ?_) rfl (by kernel_rfl) (by kernel_rfl) (by kernel_rfl) (fun _ _ _ h => h) (Or.inl ⟨by kernel_rfl, ?_⟩) (HCS.out _ HK.out) ?_
 rotate_left
 · (intro wq _; first | (go_simp; done) | (go_simp; with_reducible rfl))
 try simp only [List.getElem_toArray, List.getElem_cons_zero, Act.put, List.setIfInBounds_toArray, List.set_cons_zero, List.set_cons_succ]
 refine wpAnyH_take (i := 1) (v := ?_) rfl (by kernel_rfl) (by kernel_rfl) (by kernel_rfl) (fun _ _ _ h => h) (Or.inl ⟨by kernel_rfl, ?_⟩) (HCS.out _ HK.out) ?_
 rotate_left
 · (intro wq _; first | (go_simp; done) | (go_simp; with_reducible rfl))
 try simp only [List.getElem_toArray, List.getElem_cons_zero, List.getElem_cons_succ, Act.put, List.setIfInBounds_toArray, List.set_cons_zero, List.set_cons_succ]
 refine wpAnyH_take (i := 2) (v := ?_) rfl (by kernel_rfl) (by kernel_rfl) (by kernel_rfl) (fun _ _ _ h => h) (Or.inl ⟨by kernel_rfl, ?_⟩) (HCS.out _ HK.out) ?_
 rotate_left
 · (intro wq _; first | (go_simp; done) | (go_simp; with_reducible rfl))
 try simp only [List.getElem_toArray, List.getElem_cons_zero, List.getElem_cons_succ, Act.put, List.setIfInBounds_toArray, List.set_cons_zero, List.set_cons_succ]
 refine wpAnyH_take (i := 3) (v := ?_) rfl (by kernel_rfl) (by kernel_rfl) (by kernel_rfl) (fun _ _ _ h => h) (Or.inl ⟨by kernel_rfl, ?_⟩) (HCS.out _ HK.out) ?_
 rotate_left
 · (intro wq hSw; (try dsimp only at hSw); first | (go_simp; done) | (go_simp; with_reducible rfl))
 try simp only [List.getElem_toArray, List.getElem_cons_zero, List.getElem_cons_succ, Act.put, List.setIfInBounds_toArray, List.set_cons_zero, List.set_cons_succ]
 refine wpAnyH_take (i := 4) (v := ?_) rfl (by kernel_rfl) (by kernel_rfl) (by kernel_rfl) (fun _ _ _ h => h) (Or.inl ⟨by kernel_rfl, ?_⟩) (HCS.out _ HK.out) ?_
 rotate_left
 · (intro wq _; first | (go_simp; done) | (go_simp; with_reducible rfl))
 try simp only [List.getElem_toArray, List.getElem_cons_zero, List.getElem_cons_succ, Act.put, List.setIfInBounds_toArray, List.set_cons_zero, List.set_cons_succ]
 refine wpAnyH_take (i := 5) (v := ?_) rfl (by kernel_rfl) (by kernel_rfl) (by kernel_rfl) (fun _ _ _ h => h) (Or.inl ⟨by kernel_rfl, ?_⟩) (HCS.out _ HK.out) ?_
 rotate_left
 · (intro wq _; first | (go_simp; done) | (go_simp; with_reducible rfl))
 try simp only [List.getElem_toArray, List.getElem_cons_zero, List.getElem_cons_succ, Act.put, List.setIfInBounds_toArray, List.set_cons_zero, List.set_cons_succ]
 refine wpAnyH_take (i := 6) (v := ?_) rfl (by kernel_rfl) (by kernel_rfl) (by kernel_rfl) (fun _ _ _ h => h) (Or.inl ⟨by kernel_rfl, ?_⟩) (HCS.out _ HK.out) ?_
 rotate_left
 · (intro wq _; first | (go_simp; done) | (go_simp; with_reducible rfl))
 try simp only [List.getElem_toArray, List.getElem_cons_zero, List.getElem_cons_succ, Act.put, List.setIfInBounds_toArray, List.set_cons_zero, List.set_cons_succ]
 refine wpAnyH_take (i := 7) (v := ?_) rfl (by kernel_rfl) (by kernel_rfl) (by kernel_rfl) (fun _ _ _ h => h) (Or.inl ⟨by kernel_rfl, ?_⟩) (HCS.out _ HK.out) ?_
 rotate_left
 · (intro wq _; first | (go_simp; done) | (go_simp; with_reducible rfl))
 try simp only [List.getElem_toArray, List.getElem_cons_zero, List.getElem_cons_succ, Act.put, List.setIfInBounds_toArray, List.set_cons_zero, List.set_cons_succ]
 refine wpAnyH_take (i := 8) (v := ?_) rfl (by kernel_rfl) (by kernel_rfl) (by kernel_rfl) (fun _ _ _ h => h) (Or.inl ⟨by kernel_rfl, ?_⟩) (HCS.out _ HK.out) ?_
 rotate_left
 · (intro wq _; first | (go_simp; done) | (go_simp; with_reducible rfl))
 try simp only [List.getElem_toArray, List.getElem_cons_zero, List.getElem_cons_succ, Act.put, List.setIfInBounds_toArray, List.set_cons_zero, List.set_cons_succ]
 refine wpAnyH_take (i := 9) (v := ?_) rfl (by kernel_rfl) (by kernel_rfl) (by kernel_rfl) (fun _ _ _ h => h) (Or.inl ⟨by kernel_rfl, ?_⟩) (HCS.out _ HK.out) ?_
 rotate_left
 · (intro wq hSw; (try dsimp only at hSw); first | (go_simp; done) | (go_simp; with_reducible rfl))
 try simp only [List.getElem_toArray, List.getElem_cons_zero, List.getElem_cons_succ, Act.put, List.setIfInBounds_toArray, List.set_cons_zero, List.set_cons_succ]
 all_goals (
  first
   | refine wpAnyH_ready (rs := [10]) (by decide +kernel) (by simp) ?_
  repeat' (first | exact AllReadyH.nil | (refine AllReadyH.cons rfl (fun K hK => ?_) ?_)))
 all_goals (
  first
   | (go_simp
      first
       | (go_at_call 120
          refine (HHF.out wc HK.out).mono ?_
          rintro E wn ⟨rfl, rfl⟩
          go_wp2_with fail
          refine hK.out _ _ (HCS.out _ HK.out) (fun _ => ?_)
          clear hK K
          try simp only [List.getElem_toArray, List.getElem_cons_zero, List.getElem_cons_succ, Act.put, List.setIfInBounds_toArray, List.set_cons_zero, List.set_cons_succ]
          refine wpAnyH_take (i := 11) (v := ?_) rfl (by kernel_rfl) (by kernel_rfl) (by kernel_rfl) (fun _ _ _ h => h) (Or.inl ⟨by kernel_rfl, ?_⟩) (HCS.out _ HK.out) ?_
          rotate_left
          · (intro wq _; first | (go_simp; done) | (go_simp; with_reducible rfl))
          try simp only [List.getElem_toArray, List.getElem_cons_zero, List.getElem_cons_succ, Act.put, List.setIfInBounds_toArray, List.set_cons_zero, List.set_cons_succ]
          refine wpAnyH_take (i := 12) (v := ?_) rfl (by kernel_rfl) (by kernel_rfl) (by kernel_rfl) (fun _ _ _ h => h) (Or.inl ⟨by kernel_rfl, ?_⟩) (HCS.out _ HK.out) ?_
          rotate_left
          · (intro wq _; first | (go_simp; done) | (go_simp; with_reducible rfl))
          try simp only [List.getElem_toArray, List.getElem_cons_zero, List.getElem_cons_succ, Act.put, List.setIfInBounds_toArray, List.set_cons_zero, List.set_cons_succ])))
 all_goals (
  refine wpAnyH_done (by kernel_rfl) ?_ _
  refine NoPanic.normal ?_
  go_upto_region 8 with (fail)
  clear HCS
  have HCS : Hid (∀ W, KeepT [190, 257] w W → W.cell? ⟨lb, 4, none⟩ = some (.int .i64 (of : Int)) ∧ W.cell? ⟨lb, 5, none⟩ = some (.slice la m lc)) := Lib.hid fun W k => by
   have h := k.heap HT.out (by decide)
   have h4 := blk_cell h 4 (.int .i64 (L.off : Int)) rfl
   have h5 := blk_cell h 5 (.slice la L.list.length lc) rfl
   rw [HOF.out] at h4
   rw [HM.out] at h5
   exact ⟨h4, h5⟩
  have HE := Lib.hid (HK.out.drew)
  clear HK
  have HK : Hid (KeepT [190, 257] w wc.drew) := Lib.hid (KeepT.of_ext HE.out)
  refine wp_region_noPanic ?_
  refine wp_region_held_drew (S := (fun W => W.cell? ⟨lb, 4, none⟩ = some (.int .i64 (of : Int)) ∧ W.cell? ⟨lb, 5, none⟩ = some (.slice la m lc))) (by kernel_rfl) (HCS.out _ HK.out) (fun hHeld => ?_)
  clear hHeld
  generalize wc.drew = wc at HK HE ⊢
  refine wpAnyH_take (i := 0) (v := ?_) rfl (by kernel_rfl) (by kernel_rfl) (by kernel_rfl) (fun _ _ _ h => h) (Or.inl ⟨by kernel_rfl, ?_⟩) (HCS.out _ HK.out) ?_
  rotate_left
  · (intro wq _; first | (go_simp; done) | (go_simp; with_reducible rfl))
  try simp only [List.getElem_toArray, List.getElem_cons_zero, Act.put, List.setIfInBounds_toArray, List.set_cons_zero, List.set_cons_succ]
  refine wpAnyH_take (i := 1) (v := ?_) rfl (by kernel_rfl) (by kernel_rfl) (by kernel_rfl) (fun _ _ _ h => h) (Or.inl ⟨by kernel_rfl, ?_⟩) (HCS.out _ HK.out) ?_
  rotate_left
  · (intro wq _; first | (go_simp; done) | (go_simp; with_reducible rfl))
  try simp only [List.getElem_toArray, List.getElem_cons_zero, List.getElem_cons_succ, Act.put, List.setIfInBounds_toArray, List.set_cons_zero, List.set_cons_succ]
  refine wpAnyH_take (i := 2) (v := ?_) rfl (by kernel_rfl) (by kernel_rfl) (by kernel_rfl) (fun _ _ _ h => h) (Or.inl ⟨by kernel_rfl, ?_⟩) (HCS.out _ HK.out) ?_
  rotate_left
  · (intro wq _; first | (go_simp; done) | (go_simp; with_reducible rfl))
  try simp only [List.getElem_toArray, List.getElem_cons_zero, List.getElem_cons_succ, Act.put, List.setIfInBounds_toArray, List.set_cons_zero, List.set_cons_succ]
  refine wpAnyH_take (i := 3) (v := ?_) rfl (by kernel_rfl) (by kernel_rfl) (by kernel_rfl) (fun _ _ _ h => h) (Or.inl ⟨by kernel_rfl, ?_⟩) (HCS.out _ HK.out) ?_
  rotate_left
  · (intro wq _; first | (go_simp; done) | (go_simp; with_reducible rfl))
  try simp only [List.getElem_toArray, List.getElem_cons_zero, List.getElem_cons_succ, Act.put, List.setIfInBounds_toArray, List.set_cons_zero, List.set_cons_succ]
  refine wpAnyH_take (i := 4) (v := ?_) rfl (by kernel_rfl) (by kernel_rfl) (by kernel_rfl) (fun _ _ _ h => h) (Or.inl ⟨by kernel_rfl, ?_⟩) (HCS.out _ HK.out) ?_
  rotate_left
  · (intro wq hSw; (try dsimp only at hSw); first | (go_simp; done) | (go_simp; with_reducible rfl))
  try simp only [List.getElem_toArray, List.getElem_cons_zero, List.getElem_cons_succ, Act.put, List.setIfInBounds_toArray, List.set_cons_zero, List.set_cons_succ]
  refine wpAnyH_take (i := 5) (v := ?_) rfl (by kernel_rfl) (by kernel_rfl) (by kernel_rfl) (fun _ _ _ h => h) (Or.inl ⟨by kernel_rfl, ?_⟩) (HCS.out _ HK.out) ?_
  rotate_left
  · (intro wq _; first | (go_simp; done) | (go_simp; with_reducible rfl))
  try simp only [List.getElem_toArray, List.getElem_cons_zero, List.getElem_cons_succ, Act.put, List.setIfInBounds_toArray, List.set_cons_zero, List.set_cons_succ]
  refine wpAnyH_take (i := 6) (v := ?_) rfl (by kernel_rfl) (by kernel_rfl) (by kernel_rfl) (fun _ _ _ h => h) (Or.inl ⟨by kernel_rfl, ?_⟩) (HCS.out _ HK.out) ?_
  rotate_left
  · (intro wq _; first | (go_simp; done) | (go_simp; with_reducible rfl))
  try simp only [List.getElem_toArray, List.getElem_cons_zero, List.getElem_cons_succ, Act.put, List.setIfInBounds_toArray, List.set_cons_zero, List.set_cons_succ]
  refine wpAnyH_take (i := 7) (v := ?_) rfl (by kernel_rfl) (by kernel_rfl) (by kernel_rfl) (fun _ _ _ h => h) (Or.inl ⟨by kernel_rfl, ?_⟩) (HCS.out _ HK.out) ?_
  rotate_left
  · (intro wq _; first | (go_simp; done) | (go_simp; with_reducible rfl))
  try simp only [List.getElem_toArray, List.getElem_cons_zero, List.getElem_cons_succ, Act.put, List.setIfInBounds_toArray, List.set_cons_zero, List.set_cons_succ]
  refine wpAnyH_take (i := 8) (v := ?_) rfl (by kernel_rfl) (by kernel_rfl) (by kernel_rfl) (fun _ _ _ h => h) (Or.inl ⟨by kernel_rfl, ?_⟩) (HCS.out _ HK.out) ?_
  rotate_left
  · (intro wq hSw; (try dsimp only at hSw); first | (go_simp; done) | (go_simp; with_reducible rfl))
  try simp only [List.getElem_toArray, List.getElem_cons_zero, List.getElem_cons_succ, Act.put, List.setIfInBounds_toArray, List.set_cons_zero, List.set_cons_succ]
  refine wpAnyH_take (i := 9) (v := ?_) rfl (by kernel_rfl) (by kernel_rfl) (by kernel_rfl) (fun _ _ _ h => h) (Or.inl ⟨by kernel_rfl, ?_⟩) (HCS.out _ HK.out) ?_
  rotate_left
  · (intro wq _; first | (go_simp; done) | (go_simp; with_reducible rfl))
  try simp only [List.getElem_toArray, List.getElem_cons_zero, List.getElem_cons_succ, Act.put, List.setIfInBounds_toArray, List.set_cons_zero, List.set_cons_succ]
  refine wpAnyH_take (i := 10) (v := ?_) rfl (by kernel_rfl) (by kernel_rfl) (by kernel_rfl) (fun _ _ _ h => h) (Or.inl ⟨by kernel_rfl, ?_⟩) (HCS.out _ HK.out) ?_
  rotate_left
  · (intro wq _; first | (go_simp; done) | (go_simp; with_reducible rfl))
  try simp only [List.getElem_toArray, List.getElem_cons_zero, List.getElem_cons_succ, Act.put, List.setIfInBounds_toArray, List.set_cons_zero, List.set_cons_succ]
  all_goals (
   first
    | refine wpAnyH_ready (rs := [11]) (by decide +kernel) (by simp) ?_
   repeat' (first | exact AllReadyH.nil | (refine AllReadyH.cons rfl (fun K hK => ?_) ?_)))
  all_goals (
   first
    | (go_simp
       first
        | (go_at_call 121
           refine (HPUT.out wc HE.out).mono ?_
           rintro E wn ⟨rfl, hl, hk⟩
           replace HK := Lib.hid (HK.out.trans hk)
           have HLC := Lib.hid hl
           clear hl hk HE
           go_wp2_with fail
           refine hK.out _ _ (HCS.out _ HK.out) (fun _ => ?_)
           clear hK K
           obtain ⟨wc, rfl⟩ : ∃ x : World, x = wn := ⟨_, rfl⟩
           try simp only [List.getElem_toArray, List.getElem_cons_zero, List.getElem_cons_succ, Act.put, List.setIfInBounds_toArray, List.set_cons_zero, List.set_cons_succ]
           refine wpAnyH_take (i := 12) (v := ?_) rfl (by kernel_rfl) (by kernel_rfl) (by kernel_rfl) (fun _ _ _ h => h) (Or.inl ⟨by kernel_rfl, ?_⟩) (HCS.out _ HK.out) ?_
           rotate_left
           · (intro wq _; first | (go_simp; done) | (go_simp; with_reducible rfl))
           try simp only [List.getElem_toArray, List.getElem_cons_zero, List.getElem_cons_succ, Act.put, List.setIfInBounds_toArray, List.set_cons_zero, List.set_cons_succ])))
  all_goals (
   refine wpAnyH_done (by kernel_rfl) ?_ _
   refine NoPanic.normal ?_
   clear HCS
   have hfl := disk_Flush HLC.out.disk (by rw [List.length_append, List.length_nil, writesR_len, HBN.out, HSC.out]; omega)
   have HFL := Lib.hid hfl
   clear hfl
   have d0 := blk_cell (HK.out.heap HT.out (by decide)) 0 (.pointer (some ⟨db, 0, none⟩)) rfl
   go_upto_region 13 with (go_at_call 122; refine HFL.out.mono ?_; rintro E w5 ⟨rfl, hd, hk⟩; have HD := Lib.hid hd; have HK50 := Lib.hid hk; clear hd hk)
   have HK5 : Hid (KeepT [190, 234, 257] w w5) := Lib.hid ((HK.out.mono (by decide)).trans (KeepT.mono HK50.out (by decide)))
   clear HFL HK50 d0
   clear HLC HK
   have HT5 := Lib.hid (HK5.out.heap HT.out (by decide))
   have HRW5 := Lib.hid (HRW.out.keepT HK5.out (by decide) (by decide))
   have HDB5 := Lib.hid (HDB.out.keep HK5.out (KeepT.datas (by decide)))
   clear HT HRW HDB
   have HCS : Hid (∀ W, Ext w5 W → W.cell? ⟨lb, 4, none⟩ = some (.int .i64 (of : Int))) := Lib.hid fun W k => by
    have h4 := blk_cell (k.heap HT5.out) 4 (.int .i64 (L.off : Int)) rfl
    rw [HOF.out] at h4
    exact h4
   have HK : Hid (Ext w5 w5.drew) := Lib.hid ((Ext.refl _).drew)
   refine wp_region_noPanic ?_
   refine wp_region_K (S := (fun W => W.cell? ⟨lb, 4, none⟩ = some (.int .i64 (of : Int)))) (I := [3]) (by kernel_rfl) (HCS.out _ HK.out) (fun hHeld => ?_)
   clear hHeld
   generalize w5.drew = wc at HK ⊢
   refine wpAnyK_free (i := 0) (v := ?_) rfl (by kernel_rfl) (by kernel_rfl) (by kernel_rfl) (fun _ _ _ h => h) (by kernel_rfl) ?_ (fun _ => (HCS.out _ HK.out)) ?_
   rotate_left
   · (intro wq; first | (go_simp; done) | (go_simp; with_reducible rfl))
   try simp only [List.getElem_toArray, List.getElem_cons_zero, Act.put, List.setIfInBounds_toArray, List.set_cons_zero, List.set_cons_succ]
   refine wpAnyK_free (i := 1) (v := ?_) rfl (by kernel_rfl) (by kernel_rfl) (by kernel_rfl) (fun _ _ _ h => h) (by kernel_rfl) ?_ (fun _ => (HCS.out _ HK.out)) ?_
   rotate_left
   · (intro wq; first | (go_simp; done) | (go_simp; with_reducible rfl))
   try simp only [List.getElem_toArray, List.getElem_cons_zero, List.getElem_cons_succ, Act.put, List.setIfInBounds_toArray, List.set_cons_zero, List.set_cons_succ]
   refine wpAnyK_free (i := 2) (v := ?_) rfl (by kernel_rfl) (by kernel_rfl) (by kernel_rfl) (fun _ _ _ h => h) (by kernel_rfl) ?_ (fun _ => (HCS.out _ HK.out)) ?_
   rotate_left
   · (intro wq; first | (go_simp; done) | (go_simp; with_reducible rfl))
   try simp only [List.getElem_toArray, List.getElem_cons_zero, List.getElem_cons_succ, Act.put, List.setIfInBounds_toArray, List.set_cons_zero, List.set_cons_succ]
   refine wpAnyK_load (i := 3) (v := ?_) rfl (by kernel_rfl) (by kernel_rfl) (by kernel_rfl) (fun _ _ _ h => h) (by kernel_rfl) (by kernel_rfl) ?_ (HCS.out _ HK.out) ?_
   rotate_left
   · (intro wq hSw; (try dsimp only at hSw); first | (go_simp; done) | (go_simp; with_reducible rfl))
   try simp only [List.getElem_toArray, List.getElem_cons_zero, List.getElem_cons_succ, Act.put, List.setIfInBounds_toArray, List.set_cons_zero, List.set_cons_succ]
   refine wpAnyK_free (i := 4) (v := ?_) rfl (by kernel_rfl) (by kernel_rfl) (by kernel_rfl) (fun _ _ _ h => h) (by kernel_rfl) ?_ (fun _ => (HCS.out _ HK.out)) ?_
   rotate_left
   · (intro wq; first | (go_simp; done) | (go_simp; with_reducible rfl))
   try simp only [List.getElem_toArray, List.getElem_cons_zero, List.getElem_cons_succ, Act.put, List.setIfInBounds_toArray, List.set_cons_zero, List.set_cons_succ]
   refine wpAnyK_free (i := 5) (v := ?_) rfl (by kernel_rfl) (by kernel_rfl) (by kernel_rfl) (fun _ _ _ h => h) (by kernel_rfl) ?_ (fun _ => (HCS.out _ HK.out)) ?_
   rotate_left
   · (intro wq; first | (go_simp; done) | (go_simp; with_reducible rfl))
   try simp only [List.getElem_toArray, List.getElem_cons_zero, List.getElem_cons_succ, Act.put, List.setIfInBounds_toArray, List.set_cons_zero, List.set_cons_succ]
   all_goals (
    first
     | refine wpAnyK_ready (rs := [6]) (by decide +kernel) (by simp) ?_
    repeat' (first | exact AllReadyK.nil | (refine AllReadyK.cons rfl (fun K hK => ?_) ?_)))
   all_goals (
    first
     | (go_simp
        first
         | (go_at_call 119
            refine (HSEC.out wc).mono ?_
            rintro E wn ⟨rfl, rfl⟩
            go_wp2_with fail
            refine hK.out _ _ (HCS.out _ HK.out) (fun _ => ?_)
            clear hK K
            try simp only [List.getElem_toArray, List.getElem_cons_zero, List.getElem_cons_succ, Act.put, List.setIfInBounds_toArray, List.set_cons_zero, List.set_cons_succ]
            refine wpAnyK_free (i := 7) (v := ?_) rfl (by kernel_rfl) (by kernel_rfl) (by kernel_rfl) (fun _ _ _ h => h) (by kernel_rfl) ?_ (fun _ => (HCS.out _ HK.out)) ?_
            rotate_left
            · (intro wq; first | (go_simp; done) | (go_simp; with_reducible rfl))
            try simp only [List.getElem_toArray, List.getElem_cons_zero, List.getElem_cons_succ, Act.put, List.setIfInBounds_toArray, List.set_cons_zero, List.set_cons_succ]
            refine wpAnyK_free (i := 8) (v := ?_) rfl (by kernel_rfl) (by kernel_rfl) (by kernel_rfl) (fun _ _ _ h => h) (by kernel_rfl) ?_ (fun _ => (HCS.out _ HK.out)) ?_
            rotate_left
            · (intro wq; first | (go_simp; done) | (go_simp; with_reducible rfl))
            try simp only [List.getElem_toArray, List.getElem_cons_zero, List.getElem_cons_succ, Act.put, List.setIfInBounds_toArray, List.set_cons_zero, List.set_cons_succ]
            refine wpAnyK_free (i := 9) (v := ?_) rfl (by kernel_rfl) (by kernel_rfl) (by kernel_rfl) (fun _ _ _ h => h) (by kernel_rfl) ?_ (fun _ => (HCS.out _ HK.out)) ?_
            rotate_left
            · (intro wq; first | (go_simp; done) | (go_simp; with_reducible rfl))
            try simp only [List.getElem_toArray, List.getElem_cons_zero, List.getElem_cons_succ, Act.put, List.setIfInBounds_toArray, List.set_cons_zero, List.set_cons_succ])))
   all_goals (
    have n1 := HCS.out _ HK.out
    have g1 := blk_free (HK.out.heap HT5.out) 4
    refine wpAnyK_last (i := 10) (by kernel_rfl) rfl (by kernel_rfl) ?_
    intro K hK
    go_simp
    refine hK.out _ _ ?_
    clear hK K
    try simp only [List.getElem_toArray, List.getElem_cons_zero, List.getElem_cons_succ, Act.put, List.setIfInBounds_toArray, List.set_cons_zero, List.set_cons_succ])
   all_goals (
    refine wpAnyK_done (by kernel_rfl) ?_ _
    refine NoPanic.normal ?_
    clear n1 g1
    have h7 := setCell_row (i := 4) (HK.out.heap HT5.out) (.int .i64 ((of : Int) + (sc : Int)))
    have hk7 : KeepT [190, 234, 257, 209] w (wc.setCell ⟨lb, 4, none⟩ (.int .i64 ((of : Int) + (sc : Int)))) := ((HK5.out.trans (KeepT.of_ext HK.out)).mono (by decide)).set (HK.out.heap HT5.out) (by decide) 4 _
    have hk75 : KeepT [209] w5 (wc.setCell ⟨lb, 4, none⟩ (.int .i64 ((of : Int) + (sc : Int)))) := (KeepT.of_ext HK.out).set (HK.out.heap HT5.out) (by decide) 4 _
    generalize wc.setCell ⟨lb, 4, none⟩ (.int .i64 ((of : Int) + (sc : Int))) = w7 at h7 hk7 hk75 ⊢
    have hd7 := HD.out.keepT hk75 (by decide)
    have hr7 := HRW5.out.keepT hk75 (by decide) (by decide)
    have hb7 := HDB5.out.keep hk75 (KeepT.datas (by decide))
    have ht7 : w7.heap[lb]? = some (.cells (logV db { L with off := of + sc } la lc) 209 (0, 0)) := by
     rw [h7]
     unfold logV
     simp only [Int.natCast_add]
     rfl
    have HT7 := Lib.hid ht7; have HK7 := Lib.hid hk7; have HD7 := Lib.hid hd7; have HB7 := Lib.hid hb7
    obtain ⟨Z, hZ, hro, hzd⟩ := hr7
    rw [HM.out] at hro
    have HZ := Lib.hid hZ; have HO := Lib.hid hro; have HZD := Lib.hid hzd
    clear h7 hk7 hk75 hd7 hb7 ht7 HD HRW5 HDB5 HT5 HK5 HCS HK hZ hro hzd
    go_upto_region 14 with (fail)
    have HCS : Hid (∀ W, KeepT [50] w7 W → W.cell? ⟨lb, 5, none⟩ = some (.slice la m lc)) := Lib.hid fun W k => by
     have h5 := blk_cell (k.heap HT7.out (by decide)) 5 (.slice la L.list.length lc) rfl
     rw [HM.out] at h5
     exact h5
    have HK : Hid (KeepT [50] w7 w7.drew) := Lib.hid (KeepT.drew (KeepT.refl _ _))
    replace HO := Lib.hid (ownsRow_keep HO.out (show Keep (fun _ => True) w7 w7.drew from ⟨rfl, rfl, rfl, Nat.le_refl _, fun _ _ _ => rfl⟩) (fun _ _ _ _ _ => trivial))
    have HB8 := Lib.hid (HB7.out.keep (Keep.of_ext (S := fun _ => True) ((Ext.refl w7).drew)) (datas_all _))
    refine wp_region_noPanic ?_
    refine wp_region_K (S := (fun W => W.cell? ⟨lb, 5, none⟩ = some (.slice la m lc))) (I := [4]) (by kernel_rfl) (HCS.out _ HK.out) (fun hHeld => ?_)
    clear hHeld
    generalize w7.drew = wc at HK HO HB8 ⊢
    refine wpAnyK_free (i := 0) (v := ?_) rfl (by kernel_rfl) (by kernel_rfl) (by kernel_rfl) (fun _ _ _ h => h) (by kernel_rfl) ?_ (fun _ => (HCS.out _ HK.out)) ?_
    rotate_left
    · (intro wq; first | (go_simp; done) | (go_simp; with_reducible rfl))
    try simp only [List.getElem_toArray, List.getElem_cons_zero, Act.put, List.setIfInBounds_toArray, List.set_cons_zero, List.set_cons_succ]
    refine wpAnyK_free (i := 1) (v := ?_) rfl (by kernel_rfl) (by kernel_rfl) (by kernel_rfl) (fun _ _ _ h => h) (by kernel_rfl) ?_ (fun _ => (HCS.out _ HK.out)) ?_
    rotate_left
    · (intro wq; first | (go_simp; done) | (go_simp; with_reducible rfl))
    try simp only [List.getElem_toArray, List.getElem_cons_zero, List.getElem_cons_succ, Act.put, List.setIfInBounds_toArray, List.set_cons_zero, List.set_cons_succ]
    refine wpAnyK_free (i := 2) (v := ?_) rfl (by kernel_rfl) (by kernel_rfl) (by kernel_rfl) (fun _ _ _ h => h) (by kernel_rfl) ?_ (fun _ => (HCS.out _ HK.out)) ?_
    rotate_left
    · (intro wq; first | (go_simp; done) | (go_simp; with_reducible rfl))
    try simp only [List.getElem_toArray, List.getElem_cons_zero, List.getElem_cons_succ, Act.put, List.setIfInBounds_toArray, List.set_cons_zero, List.set_cons_succ]
    refine wpAnyK_free (i := 3) (v := ?_) rfl (by kernel_rfl) (by kernel_rfl) (by kernel_rfl) (fun _ _ _ h => h) (by kernel_rfl) ?_ (fun _ => (HCS.out _ HK.out)) ?_
    rotate_left
    · (intro wq; first | (go_simp; done) | (go_simp; with_reducible rfl))
    try simp only [List.getElem_toArray, List.getElem_cons_zero, List.getElem_cons_succ, Act.put, List.setIfInBounds_toArray, List.set_cons_zero, List.set_cons_succ]
    refine wpAnyK_load (i := 4) (v := ?_) rfl (by kernel_rfl) (by kernel_rfl) (by kernel_rfl) (fun _ _ _ h => h) (by kernel_rfl) (by kernel_rfl) ?_ (HCS.out _ HK.out) ?_
    rotate_left
    · (intro wq hSw; (try dsimp only at hSw); first | (go_simp; done) | (go_simp; with_reducible rfl))
    try simp only [List.getElem_toArray, List.getElem_cons_zero, List.getElem_cons_succ, Act.put, List.setIfInBounds_toArray, List.set_cons_zero, List.set_cons_succ]
    refine wpAnyK_free (i := 5) (v := ?_) rfl (by kernel_rfl) (by kernel_rfl) (by kernel_rfl) (fun _ _ _ h => h) (by kernel_rfl) ?_ (fun _ => (HCS.out _ HK.out)) ?_
    rotate_left
    · (intro wq; first | (go_simp; done) | (go_simp; with_reducible rfl))
    try simp only [List.getElem_toArray, List.getElem_cons_zero, List.getElem_cons_succ, Act.put, List.setIfInBounds_toArray, List.set_cons_zero, List.set_cons_succ]
    all_goals (
     first
      | refine wpAnyK_ready (rs := [6]) (by decide +kernel) (by simp) ?_
     repeat' (first | exact AllReadyK.nil | (refine AllReadyK.cons rfl (fun K hK => ?_) ?_)))
    all_goals (
     first
      | (refine step_append_any (by rfl) _ _ 50 5 (.int .u8 0) 1 1 (by rfl) Tryz.underlying50 info_byte1 rfl (by decide) wc.heap.size none 0 0 [] (by rfl) (World.ownsRow_nil _ _ _ _) ba bn bc (byteV b) (by simp [Act.eval]) (by rw [byteV_len, HBN.out, Nat.mul_one]) HB8.out.bytes.run (byteV_one b) (by omega) (by decide) (Nat.le_refl _) bn (by omega) ?_
         intro a6 c6 wn hown hkp hbl
         have hx : Ext wc wn := (hkp.mono (T := fun _ => True) (fun _ _ _ => by simp [Value.ownBlock])).ext
         replace HK := Lib.hid (HK.out.trans (KeepT.of_ext hx))
         replace HO := Lib.hid (ownsRow_keep HO.out (Keep.of_ext (S := fun _ => True) hx) (fun _ _ _ _ _ => trivial))
         obtain ⟨a6x, c6x, hve, h6c, h6d, _⟩ := DataM.of_row (l := b) (by simpa using hown)
         cases hve
         have H6 := Lib.hid h6d; have H6C := Lib.hid h6c
         clear hown hkp hbl hx h6d h6c
         refine hK.out _ _ (HCS.out _ HK.out) (fun _ => ?_)
         clear hK K
         obtain ⟨wc, rfl⟩ : ∃ x : World, x = wn := ⟨_, rfl⟩
         try simp only [List.getElem_toArray, List.getElem_cons_zero, List.getElem_cons_succ, Act.put, List.setIfInBounds_toArray, List.set_cons_zero, List.set_cons_succ]))
    all_goals (
     first
      | refine wpAnyK_ready (rs := [7]) (by decide +kernel) (by simp) ?_
     repeat' (first | exact AllReadyK.nil | (refine AllReadyK.cons rfl (fun K hK => ?_) ?_)))
    all_goals (
     first
      | (go_simp
         first
          | (have hx := Ext.alloc wc (.cells #[.slice a6 bn c6] 50)
             have hbn := heap_alloc_new wc (.cells #[.slice a6 bn c6] 50)
             refine hK.out _ (wc.alloc (.cells #[.slice a6 bn c6] 50)) (HCS.out _ (HK.out.trans (KeepT.of_ext hx))) (fun _ => ?_)
             clear hK K
             replace HK := Lib.hid (HK.out.trans (KeepT.of_ext hx))
             replace HO := Lib.hid (ownsRow_keep HO.out (Keep.of_ext (S := fun _ => True) hx) (fun _ _ _ _ _ => trivial))
             replace H6 := Lib.hid (H6.out.keep (Keep.of_ext (S := fun _ => True) hx) (datas_all _))
             obtain ⟨GN, hB⟩ : ∃ x, x = wc.heap.size := ⟨_, rfl⟩
             rw [← hB] at hbn ⊢
             have HGN := Lib.hid hbn
             clear hbn hB hx
             generalize wc.alloc (.cells #[.slice a6 bn c6] 50) = wc at *
             try simp only [List.getElem_toArray, List.getElem_cons_zero, List.getElem_cons_succ, Act.put, List.setIfInBounds_toArray, List.set_cons_zero, List.set_cons_succ])))
    all_goals (
     first
      | refine wpAnyK_ready (rs := [8]) (by decide +kernel) (by simp) ?_
     repeat' (first | exact AllReadyK.nil | (refine AllReadyK.cons rfl (fun K hK => ?_) ?_)))
    all_goals (
     first
      | (refine step_append_any (by rfl) _ _ 194 50 (.slice none 0 0) 1 24 (by rfl) Tryz.underlying194 info_row rfl (by decide) Low.low la m lc (Z.flatMap rowV) (by simp [Act.eval]) HO.out (some ⟨GN, 0, none⟩) 1 1 [.slice a6 bn c6] (by simp [Act.eval]) rfl (run_blk HGN.out) (by intro u hu; rw [List.mem_singleton.1 hu]; rfl) (by omega) (by decide) (Nat.le_trans HLS.out (Nat.le_trans HK7.out.size HK.out.size)) (m + 1) (by omega) ?_
         intro a8 c8 wn hown hkp hbl
         have HKP := Lib.hid HK.out
         have hkt := KeepT.grown (ts := [50]) hkp HO.out (by decide)
         replace HK := Lib.hid (HK.out.trans hkt)
         have hra := rows_app (c := lc) (c' := c8) (D := L.list) (l := b) (o := ⟨a6, c6⟩) HZ.out (by rw [HM.out]; exact HO.out) (fun z hz => ⟨(HZD.out z hz).1.keep HKP.out (KeepT.datas (by decide)), (HZD.out z hz).2⟩) H6.out (by rw [HBN.out]; exact H6C.out) (by rw [HM.out, HBN.out]; exact hown) (by rw [HM.out]; exact hkp)
         have HRA := Lib.hid hra
         clear hown hkp hbl hkt hra HO
         refine hK.out _ _ (HCS.out _ HK.out) (fun _ => ?_)
         clear hK K
         obtain ⟨wc, rfl⟩ : ∃ x : World, x = wn := ⟨_, rfl⟩
         try simp only [List.getElem_toArray, List.getElem_cons_zero, List.getElem_cons_succ, Act.put, List.setIfInBounds_toArray, List.set_cons_zero, List.set_cons_succ]
         refine wpAnyK_free (i := 9) (v := ?_) rfl (by kernel_rfl) (by kernel_rfl) (by kernel_rfl) (fun _ _ _ h => h) (by kernel_rfl) ?_ (fun _ => (HCS.out _ HK.out)) ?_
         rotate_left
         · (intro wq; first | (go_simp; done) | (go_simp; with_reducible rfl))
         try simp only [List.getElem_toArray, List.getElem_cons_zero, List.getElem_cons_succ, Act.put, List.setIfInBounds_toArray, List.set_cons_zero, List.set_cons_succ]
         refine wpAnyK_free (i := 10) (v := ?_) rfl (by kernel_rfl) (by kernel_rfl) (by kernel_rfl) (fun _ _ _ h => h) (by kernel_rfl) ?_ (fun _ => (HCS.out _ HK.out)) ?_
         rotate_left
         · (intro wq; first | (go_simp; done) | (go_simp; with_reducible rfl))
         try simp only [List.getElem_toArray, List.getElem_cons_zero, List.getElem_cons_succ, Act.put, List.setIfInBounds_toArray, List.set_cons_zero, List.set_cons_succ]))
    all_goals (
     have n1 := HCS.out _ HK.out
     have g1 := blk_free (HK.out.heap HT7.out (by decide)) 5
     refine wpAnyK_last (i := 11) (by kernel_rfl) rfl (by kernel_rfl) ?_
     intro K hK
     go_simp
     refine hK.out _ _ ?_
     clear hK K
     try simp only [List.getElem_toArray, List.getElem_cons_zero, List.getElem_cons_succ, Act.put, List.setIfInBounds_toArray, List.set_cons_zero, List.set_cons_succ])
    all_goals (
     refine wpAnyK_done (by kernel_rfl) ?_ _
     refine NoPanic.normal ?_
     clear n1 g1
     have ht8 := HK.out.heap HT7.out (by decide)
     have h9 := setCell_row (i := 5) ht8 (.slice a8 (m + 1) c8)
     have hk97 : KeepT [209, 50] w7 (wc.setCell ⟨lb, 5, none⟩ (.slice a8 (m + 1) c8)) := (HK.out.mono (by decide)).set ht8 (by decide) 5 _
     have hk9c : KeepT [209] wc (wc.setCell ⟨lb, 5, none⟩ (.slice a8 (m + 1) c8)) := (KeepT.refl _ _).set ht8 (by decide) 5 _
     generalize wc.setCell ⟨lb, 5, none⟩ (.slice a8 (m + 1) c8) = w9 at h9 hk97 hk9c ⊢
     have hra9 := HRA.out.keepT hk9c (by decide) (by decide)
     have hd9 := HD7.out.keepT hk97 (by decide)
     have HFIN : Hid (R (.returned (.int .i64 0)) w9) := Lib.hid (by
      rw [HR.out]
      refine ⟨rfl, ⟨⟨a8, c8, ?_, hra9⟩, ?_, HLWL.out⟩, (HK7.out.mono (by decide)).trans (hk97.mono (by decide))⟩
      · rw [h9]
        unfold logV appL
        simp only [List.length_append, HM.out, HBN.out, HSC.out, HOF.out]
        rfl
      · have e : putI img (baseN n L.half + L.off) L.list.length L.epoch b = applyI img ([] ++ writesR (baseN n L.half + of) m L.epoch b) := by
             rw [List.nil_append, applyI_writes, HOF.out, HM.out]
        rw [e]
        exact hd9)
     clear h9 hk97 hk9c hra9 hd9 ht8
     go_wp2_with fail
     exact HFIN.out))))
end
end Go.Proofs.YtefpllpichhojaaGreatDoor
