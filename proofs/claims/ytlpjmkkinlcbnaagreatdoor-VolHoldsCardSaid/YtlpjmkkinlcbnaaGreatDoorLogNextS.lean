/- The log's next, where a record stands behind those that are known. -/
import Derived.Test.YtlpjmkkinlcbnaaGreatDoorLogNext
namespace Go.Proofs.YtlpjmkkinlcbnaaGreatDoor
open Go.RowKit
variable [Low]
omit [Low] in
theorem sec_run {w : World} {g o : Nat} {s : List UInt8} (h : SecAt w g s) : RunM w (some ⟨g, o, none⟩) (byteV (s.drop o)) := by
  refine Or.inr ⟨g, o, rfl, (Array.getElem?_eq_some_iff.1 h.2).1, fun j u hj => ?_⟩
  rw [cell_of_row _ _ _ _ _ _ h.2]
  rw [← hj]
  simp [byteV, List.getElem?_drop]
omit [Low] in
theorem data_take {w : World} {a : Option Addr} {l : List UInt8} (h : DataM w a l) (n : Nat) : DataM w a (l.take n) := by
  rcases h with h | ⟨g, off, cs, fr, ha, hg, hc⟩
  · left; rw [h]; simp
  · refine Or.inr ⟨g, off, cs, fr, ha, hg, fun i u hi => hc i u ?_⟩
    unfold byteV at hi ⊢
    rw [List.map_take] at hi
    rw [List.getElem?_take] at hi
    split at hi
    · exact hi
    · cases hi
omit [Low] in
theorem dataI_len {f : Nat → List UInt8} : ∀ (i : Nat), (∀ j, j ≤ i → (f j).length = 64) → (dataI f i).length = 47 + 63 * i
  | 0, h => by rw [dataI, List.length_drop, h 0 (Nat.le_refl _)]
  | i + 1, h => by
    rw [dataI, List.length_append, dataI_len i (fun j hj => h j (by omega)), List.length_drop, h (i + 1) (Nat.le_refl _)]; omega
section
variable {w : World} {lb db kb n : Nat} {img : Img} {L : LogD}
set_option maxRecDepth 100000 in
set_option maxHeartbeats 12800000 in
theorem log_next_some (h : LogM w lb db kb n img L) (h6 : 6 ≤ n) (hh : L.half ≤ 1) {b : List UInt8} (hrec : ∀ i, i < secN b.length → img (baseN n L.half + L.off + i) = recS L.list.length L.epoch b i) (hroom : L.off + secN b.length ≤ halfN n) (hbl : b.length ≤ 4096) (hm : L.list.length ≤ 2147483648) (hep : L.epoch ≤ 2147483648) :
    Calls Tryz.prog 38 #[.pointer (some ⟨lb, 0, none⟩)] w fun e w' => ∃ a c, e = .returned (.tuple #[.slice a b.length c, .int .i64 (secN b.length : Nat), .int .i64 0]) ∧ DataM w' a b ∧ b.length ≤ c ∧ Ext w w' := by
  obtain ⟨Q, hQ⟩ : ∃ Q : Ending → World → Prop, Q = fun e w' => ∃ a c, e = .returned (.tuple #[.slice a b.length c, .int .i64 (secN b.length : Nat), .int .i64 0]) ∧ DataM w' a b ∧ b.length ≤ c ∧ Ext w w' := ⟨_, rfl⟩
  rw [← hQ]
  have HQ := Lib.hid hQ; clear hQ
  have hsp := secN_pos b.length
  have hoff : L.off < halfN n := by omega
  have hb2 := baseN_lt (n := n) hh h6
  have hs64 := h.disk.len (baseN n L.half + L.off) (by omega)
  have hhf := fun W (hx : Ext w W) => log_half (w := W) (h.disk.ext hx) (by omega)
  have hrds : ∀ k, k < secN b.length → ∀ W, Ext w W → Calls Tryz.prog 69 #[.pointer (some ⟨lb, 0, none⟩), .int .i64 ((L.off + k : Nat) : Int)] W fun e w' => e = .returned (.tuple #[.agg (byteV (recS L.list.length L.epoch b k)).toArray, .int .i64 0]) ∧ Ext W w' := fun k hk W hx => by
    have h1 := log_read (h.ext (w' := W) hx) h6 hh (p := L.off + k) (by omega)
    rw [← Nat.add_assoc, hrec k hk] at h1
    exact h1
  have hrd : ∀ W, Ext w W → _ := hrds 0 hsp
  have h0 := hrec 0 hsp
  rw [Nat.add_zero] at h0 hrd
  have hsz := h.disk.size
  have hh1 : halfN n ≤ 2047 := by unfold halfN; omega
  obtain ⟨⟨la, lc, ht, _⟩, _⟩ := h
  rw [h0] at hs64
  have hhd := recS_hd hbl hm hep
  have hmk2 : (recS L.list.length L.epoch b 0).getD 0 0 = 2 := rfl
  have hdat := dataI_rec L.list.length L.epoch b
  have hf64 : ∀ j, (recS L.list.length L.epoch b j).length = 64 := fun j => recS_len _ _ _ _
  have hmk3 : ∀ k, 1 ≤ k → (recS L.list.length L.epoch b k).getD 0 0 = 3 := fun k hk => by rw [recS_mark]; unfold markS; rw [if_neg (by omega)]
  have hsq : sumL L.list.length L.epoch b < 4294967296 := sumL_lt _ _ _
  have hn1 := fun W => rec_num (L.list.length : Int) W
  have hn2 := fun W => rec_num (L.epoch : Int) W
  have e1 := numI_num4 (n := L.list.length) (by omega)
  have e2 := numI_num4 (n := L.epoch) (by omega)
  have hsum : (crcL [[num4 L.list.length, num4 L.epoch].flatten, b].flatten).toNat = sumL L.list.length L.epoch b := by simp [sumL]
  have hpk := fun W a c (hp : Parts W a [num4 L.list.length, num4 L.epoch]) => rec_pack a c [num4 L.list.length, num4 L.epoch] W hp (by simp [num4_len]) (by simp)
  have hcr := fun W a c (hp : Parts W a [[num4 L.list.length, num4 L.epoch].flatten, b]) => crc_ofs a c [[num4 L.list.length, num4 L.epoch].flatten, b] W hp (by intro l hl; simp only [List.mem_cons, List.not_mem_nil, or_false] at hl; rcases hl with rfl | rfl; (simp [num4_len]); omega) (by simp)
  simp only [hsum] at hcr
  rw [e1] at hn1; rw [e2] at hn2
  clear e1 e2 hsum
  generalize [num4 L.list.length, num4 L.epoch].flatten = PK at hpk hcr
  generalize num4 L.list.length = N1 at hn1 hpk
  generalize num4 L.epoch = N2 at hn2 hpk
  generalize sumL L.list.length L.epoch b = sm at hcr hsq hhd
  have hwu : IntKind.u32.wrap (sm : Int) = (sm : Int) := IntWalk.u32_in _ ⟨by omega, by omega⟩
  have HM1 := Lib.hid hn1; have HM2 := Lib.hid hn2; have HPK := Lib.hid hpk; have HCR := Lib.hid hcr
  clear hn1 hn2 hpk hcr
  generalize hfr : recS L.list.length L.epoch b = f at hs64 hrd hrds hhd hmk2 hdat hf64 hmk3
  clear h0 hrec hfr
  have HDAT := Lib.hid hdat; have HF64 := Lib.hid hf64; have HMK3 := Lib.hid hmk3; clear hdat hf64 hmk3
  generalize hs : f 0 = s at hs64 hrd hhd hmk2
  have HS0 := Lib.hid hs; clear hs
  have HT := Lib.hid ht; have HHF := Lib.hid hhf; clear ht hhf
  generalize hof : L.off = of at hoff hrd hrds hroom hb2
  have HOF := Lib.hid hof; clear hof
  generalize halfN n = hn at hoff HHF hh1 hroom hb2
  generalize hlm : L.list.length = m at hhd hm HM1
  have HM := Lib.hid hlm; clear hlm
  generalize hle : L.epoch = ep at hhd hep HM2
  have HEP := Lib.hid hle; clear hle
  generalize hbn : b.length = bn at hhd hroom hbl hrds hsp HDAT HQ
  have HBN := Lib.hid hbn; clear hbn
  generalize hsc : secN bn = sc at hroom hrds hsp HDAT HQ
  have HSC := Lib.hid hsc; clear hsc hb2
  have HRD := Lib.hid hrd; have HRDS := Lib.hid hrds; have HS64 := Lib.hid hs64; clear hrd hs64 hrds
  have hvl : (byteV s).length = 64 := by rw [byteV_len]; exact HS64.out
  have hv1 := byteV_one s
  generalize hV : byteV s = V at HRD hvl hv1
  have HV := Lib.hid hV; have HVL := Lib.hid hvl; have HV1 := Lib.hid hv1; clear hV hvl hv1
  go_enter Tryz.func38, Tryz.ntmps38
  go_upto_region 1 with (fail)
  have HCS : Hid (∀ W, Ext w W → W.cell? ⟨lb, 4, none⟩ = some (.int .i64 (of : Int)) ∧ W.cell? ⟨lb, 0, none⟩ = some (.pointer (some ⟨db, 0, none⟩))) := Lib.hid fun W q => by
    have h := q.heap HT.out
    have h4 := blk_cell h 4 (.int .i64 (L.off : Int)) rfl
    rw [HOF.out] at h4
    exact ⟨h4, blk_cell h 0 _ rfl⟩
  have HK : Hid (Ext w w.drew) := Lib.hid ((Ext.refl _).drew)
  refine wp_region_noPanic ?_
  refine wp_region_held_drew (S := (fun W => W.cell? ⟨lb, 4, none⟩ = some (.int .i64 (of : Int)) ∧ W.cell? ⟨lb, 0, none⟩ = some (.pointer (some ⟨db, 0, none⟩)))) (by kernel_rfl) (HCS.out _ HK.out) (fun hHeld => ?_)
  clear hHeld
  generalize w.drew = wc at HK ⊢
  refine wpAnyH_take (i := 0) (v := ?_) rfl (by kernel_rfl) (by kernel_rfl) (by kernel_rfl) (fun _ _ _ h => h) (Or.inl ⟨by kernel_rfl, ?_⟩) (HCS.out _ HK.out) ?_
  rotate_left
  · (intro wq _; first | (go_simp; done) | (go_simp; with_reducible rfl))
  try simp only [List.getElem_toArray, List.getElem_cons_zero, Act.put, List.setIfInBounds_toArray, List.set_cons_zero, List.set_cons_succ]
  refine wpAnyH_take (i := 1) (v := ?_) rfl (by kernel_rfl) (by kernel_rfl) (by kernel_rfl) (fun _ _ _ h => h) (Or.inl ⟨by kernel_rfl, ?_⟩) (HCS.out _ HK.out) ?_
  rotate_left
  · (intro wq _; first | (go_simp; done) | (go_simp; with_reducible rfl))
  try simp only [List.getElem_toArray, List.getElem_cons_zero, List.getElem_cons_succ, Act.put, List.setIfInBounds_toArray, List.set_cons_zero, List.set_cons_succ]
  refine wpAnyH_take (i := 2) (v := ?_) rfl (by kernel_rfl) (by kernel_rfl) (by kernel_rfl) (fun _ _ _ h => h) (Or.inl ⟨by kernel_rfl, ?_⟩) (HCS.out _ HK.out) ?_
  rotate_left
  · (intro wq _; first | (go_simp; done) | (go_simp; with_reducible rfl))
  try simp only [List.getElem_toArray, List.getElem_cons_zero, List.getElem_cons_succ, Act.put, List.setIfInBounds_toArray, List.set_cons_zero, List.set_cons_succ]
  refine wpAnyH_take (i := 3) (v := ?_) rfl (by kernel_rfl) (by kernel_rfl) (by kernel_rfl) (fun _ _ _ h => h) (Or.inl ⟨by kernel_rfl, ?_⟩) (HCS.out _ HK.out) ?_
  rotate_left
  · (intro wq hSw; (try dsimp only at hSw); first | (go_simp; done) | (go_simp; with_reducible rfl))
  try simp only [List.getElem_toArray, List.getElem_cons_zero, List.getElem_cons_succ, Act.put, List.setIfInBounds_toArray, List.set_cons_zero, List.set_cons_succ]
  refine wpAnyH_take (i := 4) (v := ?_) rfl (by kernel_rfl) (by kernel_rfl) (by kernel_rfl) (fun _ _ _ h => h) (Or.inl ⟨by kernel_rfl, ?_⟩) (HCS.out _ HK.out) ?_
  rotate_left
  · (intro wq _; first | (go_simp; done) | (go_simp; with_reducible rfl))
  try simp only [List.getElem_toArray, List.getElem_cons_zero, List.getElem_cons_succ, Act.put, List.setIfInBounds_toArray, List.set_cons_zero, List.set_cons_succ]
  refine wpAnyH_take (i := 5) (v := ?_) rfl (by kernel_rfl) (by kernel_rfl) (by kernel_rfl) (fun _ _ _ h => h) (Or.inl ⟨by kernel_rfl, ?_⟩) (HCS.out _ HK.out) ?_
  rotate_left
  · (intro wq _; first | (go_simp; done) | (go_simp; with_reducible rfl))
  try simp only [List.getElem_toArray, List.getElem_cons_zero, List.getElem_cons_succ, Act.put, List.setIfInBounds_toArray, List.set_cons_zero, List.set_cons_succ]
  refine wpAnyH_take (i := 6) (v := ?_) rfl (by kernel_rfl) (by kernel_rfl) (by kernel_rfl) (fun _ _ _ h => h) (Or.inl ⟨by kernel_rfl, ?_⟩) (HCS.out _ HK.out) ?_
  rotate_left
  · (intro wq _; first | (go_simp; done) | (go_simp; with_reducible rfl))
  try simp only [List.getElem_toArray, List.getElem_cons_zero, List.getElem_cons_succ, Act.put, List.setIfInBounds_toArray, List.set_cons_zero, List.set_cons_succ]
  refine wpAnyH_take (i := 7) (v := ?_) rfl (by kernel_rfl) (by kernel_rfl) (by kernel_rfl) (fun _ _ _ h => h) (Or.inl ⟨by kernel_rfl, ?_⟩) (HCS.out _ HK.out) ?_
  rotate_left
  · (intro wq hSw; (try dsimp only at hSw); first | (go_simp; done) | (go_simp; with_reducible rfl))
  try simp only [List.getElem_toArray, List.getElem_cons_zero, List.getElem_cons_succ, Act.put, List.setIfInBounds_toArray, List.set_cons_zero, List.set_cons_succ]
  all_goals (
    first
      | refine wpAnyH_ready (rs := [8]) (by decide +kernel) (by simp) ?_
    repeat' (first | exact AllReadyH.nil | (refine AllReadyH.cons rfl (fun K hK => ?_) ?_)))
  all_goals (
    first
      | (go_simp
         first
           | (go_at_call 53
              refine (HHF.out wc HK.out).mono ?_
              rintro E wn ⟨rfl, rfl⟩
              go_wp2_with fail
              refine hK.out _ _ (HCS.out _ HK.out) (fun _ => ?_)
              clear hK K
              try simp only [List.getElem_toArray, List.getElem_cons_zero, List.getElem_cons_succ, Act.put, List.setIfInBounds_toArray, List.set_cons_zero, List.set_cons_succ]
              refine wpAnyH_take (i := 9) (v := ?_) rfl (by kernel_rfl) (by kernel_rfl) (by kernel_rfl) (fun _ _ _ h => h) (Or.inl ⟨by kernel_rfl, ?_⟩) (HCS.out _ HK.out) ?_
              rotate_left
              · (intro wq _; first | (go_simp; done) | (go_simp; with_reducible rfl))
              try simp only [List.getElem_toArray, List.getElem_cons_zero, List.getElem_cons_succ, Act.put, List.setIfInBounds_toArray, List.set_cons_zero, List.set_cons_succ])))
  all_goals (
    refine wpAnyH_done (by kernel_rfl) ?_ _
    refine NoPanic.normal ?_
    clear HCS
    have HK1 := HK
    clear HK
    obtain ⟨w1, rfl⟩ : ∃ x : World, x = wc := ⟨_, rfl⟩
    have d4 : w1.cell? ⟨lb, 4, none⟩ = some (.int .i64 (of : Int)) := by
      have h4 := blk_cell (HK1.out.heap HT.out) 4 (.int .i64 (L.off : Int)) rfl
      rw [HOF.out] at h4
      exact h4
    have HRD1 := Lib.hid (HRD.out w1 HK1.out)
    clear HRD
    go_upto_region 6 with (first | (go_at_call 69; refine HRD1.out.mono ?_; rintro E w2 ⟨rfl, hx2⟩; have HX2 := Lib.hid hx2; clear hx2) | (refine wpList_store_mid rfl _ _ _ rfl _ _ V.toArray rfl rfl (there_new _ _ _ (by rw [List.size_toArray, HVL.out]; decide)) (by rw [List.size_toArray, HVL.out]; exact size_sector) (all_oneCell_toArray HV1.out) ?_))
    clear d4 HRD1
    rw [alloc_sector]
    have hset := (sec_zero w2).set HS64.out
    rw [HV.out] at hset
    have hx3 := ext_ne ((Ext.refl w2).trans (Ext.alloc w2 (.cells (byteV zeroS).toArray 83))) (Nat.le_refl _) hset.2
    obtain ⟨B, hB⟩ : ∃ B, B = w2.heap.size := ⟨_, rfl⟩
    rw [← hB] at hset hx3 ⊢
    clear hB
    have hsa := hset.1
    clear hset
    try simp only [List.toList_toArray]
    generalize (w2.alloc (.cells (byteV zeroS).toArray 83)).setCells B 0 V = w3 at hsa hx3 ⊢
    have HX3 := Lib.hid (HK1.out.trans (HX2.out.trans hx3)); have HSA := Lib.hid hsa
    clear hx3 hsa HK1 HX2
    have hl16 : ((s.drop 1).take 16).length = 16 := by rw [List.length_take, List.length_drop, HS64.out]; decide
    have hrr := rec_read (some ⟨B, 1, none⟩) 63 ((s.drop 1).take 16) w3 (bytes_mid (o := 1) HSA.out.2 (by rw [hl16])) (by rw [hl16]; omega)
    rw [hl16] at hrr
    have HRR := Lib.hid hrr; have HL16 := Lib.hid hl16; clear hrr hl16
    go_upto_region 7 with (go_at_call 39; refine HRR.out.mono ?_; rintro E w4 ⟨RB, rfl, hRw, hrd, hx4⟩; have HRW := Lib.hid (Nat.le_trans (HX3.out.size) hRw); have HRD0 := Lib.hid hrd; have HX4 := Lib.hid (HX3.out.trans hx4); have HSA4 := Lib.hid (HSA.out.ext hx4); have HRS := Lib.hid hRw; clear hRw hrd hx4)
    have HBR := Lib.hid (Nat.lt_of_lt_of_le (Array.getElem?_eq_some_iff.1 HSA.out.2).1 HRS.out)
    clear HRR HSA HX3 HRS
    have HN1 := Lib.hid (rd_num _ RB 4096 (hdS s) w4 HRD0.out (by show ((s.drop 1).take 16).length ≤ _; rw [HL16.out]; omega) (by omega))
    have hq1 := Nat.le_trans (rNum_len 4096 (hdS s)) (show ((s.drop 1).take 16).length ≤ 16 by rw [HL16.out]; omega)
    have hq2 := Nat.le_trans (rNum_len 2147483648 (hd1 s).2) hq1
    have hq3 := Nat.le_trans (rNum_len 2147483648 (hd2 s).2) hq2
    have HN2 := Lib.hid (fun (S : Nat → Prop) W (h : Rd S W RB (hd1 s).2) => rd_num S RB 2147483648 (hd1 s).2 W h (Nat.le_trans hq1 (by omega)) (by omega))
    have HN3 := Lib.hid (fun (S : Nat → Prop) W (h : Rd S W RB (hd2 s).2) => rd_num S RB 2147483648 (hd2 s).2 W h (Nat.le_trans hq2 (by omega)) (by omega))
    have HN4 := Lib.hid (fun (S : Nat → Prop) W (h : Rd S W RB (hd3 s).2) => rd_num S RB 4294967295 (hd3 s).2 W h (Nat.le_trans hq3 (by omega)) (by omega))
    have HGO := Lib.hid (fun (S : Nat → Prop) W (h : Rd S W RB (hd4 s).2) => rd_good S RB (hd4 s).2 W h)
    have hn4096 : (hd1 s).1 ≤ 4096 := rNum_le _ _
    obtain ⟨e1, e2, e3, e4⟩ := hhd
    clear hq1 hq2 hq3
    change Hid (Calls Tryz.prog 40 #[.pointer (some ⟨RB, 0, none⟩), .int .i64 ((4096 : Nat) : Int)] w4 (RdR _ RB w4 (.int .i64 ((hd1 s).1 : Nat)) (hd1 s).2)) at HN1
    change Hid (∀ (S : Nat → Prop) W, Rd S W RB (hd1 s).2 → Calls Tryz.prog 40 #[.pointer (some ⟨RB, 0, none⟩), .int .i64 ((2147483648 : Nat) : Int)] W (RdR S RB W (.int .i64 ((hd2 s).1 : Nat)) (hd2 s).2)) at HN2
    change Hid (∀ (S : Nat → Prop) W, Rd S W RB (hd2 s).2 → Calls Tryz.prog 40 #[.pointer (some ⟨RB, 0, none⟩), .int .i64 ((2147483648 : Nat) : Int)] W (RdR S RB W (.int .i64 ((hd3 s).1 : Nat)) (hd3 s).2)) at HN3
    change Hid (∀ (S : Nat → Prop) W, Rd S W RB (hd3 s).2 → Calls Tryz.prog 40 #[.pointer (some ⟨RB, 0, none⟩), .int .i64 ((4294967295 : Nat) : Int)] W (RdR S RB W (.int .i64 ((hd4 s).1 : Nat)) (hd4 s).2)) at HN4
    rw [e4] at HN4 HGO
    rw [e3] at HN3
    rw [e2] at HN2
    rw [e1] at HN1 hn4096
    clear e1 e2 e3 e4
    generalize (hd3 s).2 = r3 at HN3 HN4
    generalize (hd2 s).2 = r2 at HN2 HN3
    generalize (hd1 s).2 = r1 at HN1 HN2
    generalize (hd1 s).2 = r1 at HN1 HN2
    go_upto_region 8 with (first | (go_at_call 40; refine HN1.out.mono ?_; rintro E w5 ⟨rfl, h5, b5⟩; have HQ2 := Lib.hid (HN2.out _ _ h5); have HB5 := Lib.hid b5; clear h5 b5 HN1 HN2) | (go_at_call 40; refine HQ2.out.mono ?_; rintro E w6 ⟨rfl, h5, b5⟩; have HQ3 := Lib.hid (HN3.out _ _ h5); have HB6 := Lib.hid (HB5.out.trans b5); clear h5 b5 HQ2 HN3 HB5) | (go_at_call 40; refine HQ3.out.mono ?_; rintro E w7 ⟨rfl, h5, b5⟩; have HQ4 := Lib.hid (HN4.out _ _ h5); have HB7 := Lib.hid (HB6.out.trans b5); clear h5 b5 HQ3 HN4 HB6) | (go_at_call 40; refine HQ4.out.mono ?_; rintro E w8 ⟨rfl, h5, b5⟩; have HRD8 := Lib.hid h5; have HB8 := Lib.hid (HB7.out.trans b5); clear h5 b5 HQ4 HB7))
    have HX8 := Lib.hid (But.ext HX4.out HB8.out HRW.out)
    have HSA8 := Lib.hid (HSA4.out.keep (Keep.of_but HB8.out) (by show B ≠ RB; have := HBR.out; omega))
    clear HX4 HB8 HRW HSA4 HBR
    go_upto_region 9 with (go_at_call 52; refine (log_sectors bn (by omega)).mono ?_; rintro E wn ⟨rfl, rfl⟩)
    rw [HSC.out]
    have hcl : ∀ W, Ext w8 W → W.cell? ⟨lb, 5, none⟩ = some (.slice la m lc) ∧ W.cell? ⟨lb, 1, none⟩ = some (.int .i64 (ep : Int)) ∧ W.cell? ⟨lb, 4, none⟩ = some (.int .i64 (of : Int)) ∧ W.cell? ⟨lb, 0, none⟩ = some (.pointer (some ⟨db, 0, none⟩)) := fun W q => by
      have h := (HX8.out.trans q).heap HT.out
      have h5 := blk_cell h 5 (.slice la L.list.length lc) rfl
      have h1 := blk_cell h 1 (.int .i64 (L.epoch : Int)) rfl
      have h4 := blk_cell h 4 (.int .i64 (L.off : Int)) rfl
      rw [HM.out] at h5
      rw [HEP.out] at h1
      rw [HOF.out] at h4
      exact ⟨h5, h1, h4, blk_cell h 0 _ rfl⟩
    have hmk : ∀ W, Ext w8 W → W.cell? ⟨B, 0, none⟩ = some (.int .u8 2) := fun W q => by
      have h := mark_cell (q.heap HSA8.out.2) HSA8.out.1
      rw [hmk2] at h
      exact h
    have HCS : Hid (∀ W, Ext w8 W → W.cell? ⟨B, 0, none⟩ = some (.int .u8 2) ∧ W.cell? ⟨lb, 5, none⟩ = some (.slice la m lc) ∧ W.cell? ⟨lb, 1, none⟩ = some (.int .i64 (ep : Int)) ∧ W.cell? ⟨lb, 4, none⟩ = some (.int .i64 (of : Int)) ∧ W.cell? ⟨lb, 0, none⟩ = some (.pointer (some ⟨db, 0, none⟩))) := Lib.hid fun W q => ⟨hmk W q, hcl W q⟩
    clear hmk hcl hmk2
    have HGB : Hid (∀ W, Ext w8 W → Calls Tryz.prog 46 #[.pointer (some ⟨RB, 0, none⟩)] W fun e w' => e = .returned (.bool true) ∧ W = w') := Lib.hid fun W q => HGO.out _ W (HRD8.out.ext q)
    have hw31 : IntKind.i64.wrap ((of : Int) + (sc : Int)) = (of : Int) + (sc : Int) := by rw [IntKind.wrap_i64]; omega
    have HK : Hid (Ext w8 w8.drew) := Lib.hid ((Ext.refl _).drew)
    refine wp_region_noPanic ?_
    refine wp_region_held_drew (S := (fun W => W.cell? ⟨B, 0, none⟩ = some (.int .u8 2) ∧ W.cell? ⟨lb, 5, none⟩ = some (.slice la m lc) ∧ W.cell? ⟨lb, 1, none⟩ = some (.int .i64 (ep : Int)) ∧ W.cell? ⟨lb, 4, none⟩ = some (.int .i64 (of : Int)) ∧ W.cell? ⟨lb, 0, none⟩ = some (.pointer (some ⟨db, 0, none⟩)))) (by kernel_rfl) (HCS.out _ HK.out) (fun hHeld => ?_)
    clear hHeld
    generalize w8.drew = wc at HK ⊢
    refine wpAnyH_take (i := 0) (v := ?_) rfl (by kernel_rfl) (by kernel_rfl) (by kernel_rfl) (fun _ _ _ h => h) (Or.inl ⟨by kernel_rfl, ?_⟩) (HCS.out _ HK.out) ?_
    rotate_left
    · (intro wq _; first | (go_simp; done) | (go_simp; with_reducible rfl))
    try simp only [List.getElem_toArray, List.getElem_cons_zero, Act.put, List.setIfInBounds_toArray, List.set_cons_zero, List.set_cons_succ]
    refine wpAnyH_take (i := 1) (v := ?_) rfl (by kernel_rfl) (by kernel_rfl) (by kernel_rfl) (fun _ _ _ h => h) (Or.inl ⟨by kernel_rfl, ?_⟩) (HCS.out _ HK.out) ?_
    rotate_left
    · (intro wq hSw; (try dsimp only at hSw); first | (go_simp; done) | (go_simp; with_reducible rfl))
    try simp only [List.getElem_toArray, List.getElem_cons_zero, List.getElem_cons_succ, Act.put, List.setIfInBounds_toArray, List.set_cons_zero, List.set_cons_succ]
    refine wpAnyH_take (i := 2) (v := ?_) rfl (by kernel_rfl) (by kernel_rfl) (by kernel_rfl) (fun _ _ _ h => h) (Or.inl ⟨by kernel_rfl, ?_⟩) (HCS.out _ HK.out) ?_
    rotate_left
    · (intro wq _; first | (go_simp; done) | (go_simp; with_reducible rfl))
    try simp only [List.getElem_toArray, List.getElem_cons_zero, List.getElem_cons_succ, Act.put, List.setIfInBounds_toArray, List.set_cons_zero, List.set_cons_succ]
    refine wpAnyH_take (i := 3) (v := ?_) rfl (by kernel_rfl) (by kernel_rfl) (by kernel_rfl) (fun _ _ _ h => h) (Or.inl ⟨by kernel_rfl, ?_⟩) (HCS.out _ HK.out) ?_
    rotate_left
    · (intro wq _; first | (go_simp; done) | (go_simp; with_reducible rfl))
    try simp only [List.getElem_toArray, List.getElem_cons_zero, List.getElem_cons_succ, Act.put, List.setIfInBounds_toArray, List.set_cons_zero, List.set_cons_succ]
    refine wpAnyH_take (i := 4) (v := ?_) rfl (by kernel_rfl) (by kernel_rfl) (by kernel_rfl) (fun _ _ _ h => h) (Or.inl ⟨by kernel_rfl, ?_⟩) (HCS.out _ HK.out) ?_
    rotate_left
    · (intro wq _; first | (go_simp; done) | (go_simp; with_reducible rfl))
    try simp only [List.getElem_toArray, List.getElem_cons_zero, List.getElem_cons_succ, Act.put, List.setIfInBounds_toArray, List.set_cons_zero, List.set_cons_succ]
    all_goals (
      first
        | refine wpAnyH_ready (rs := [5]) (by decide +kernel) (by simp) ?_
      repeat' (first | exact AllReadyH.nil | (refine AllReadyH.cons rfl (fun K hK => ?_) ?_)))
    all_goals (
      first
        | (go_simp
           first
             | (go_at_call 46
                refine (HGB.out wc HK.out).mono ?_
                rintro E wn ⟨rfl, rfl⟩
                go_wp2_with fail
                refine hK.out _ _ (HCS.out _ HK.out) (fun _ => ?_)
                clear hK K
                try simp only [List.getElem_toArray, List.getElem_cons_zero, List.getElem_cons_succ, Act.put, List.setIfInBounds_toArray, List.set_cons_zero, List.set_cons_succ]
                refine wpAnyH_take (i := 6) (v := ?_) rfl (by kernel_rfl) (by kernel_rfl) (by kernel_rfl) (fun _ _ _ h => h) (Or.inl ⟨by kernel_rfl, ?_⟩) (HCS.out _ HK.out) ?_
                rotate_left
                · (intro wq _; first | (go_simp; done) | (go_simp; with_reducible rfl))
                try simp only [List.getElem_toArray, List.getElem_cons_zero, List.getElem_cons_succ, Act.put, List.setIfInBounds_toArray, List.set_cons_zero, List.set_cons_succ]
                refine wpAnyH_take (i := 7) (v := ?_) rfl (by kernel_rfl) (by kernel_rfl) (by kernel_rfl) (fun _ _ _ h => h) (Or.inl ⟨by kernel_rfl, ?_⟩) (HCS.out _ HK.out) ?_
                rotate_left
                · (intro wq _; first | (go_simp; done) | (go_simp; with_reducible rfl))
                try simp only [List.getElem_toArray, List.getElem_cons_zero, List.getElem_cons_succ, Act.put, List.setIfInBounds_toArray, List.set_cons_zero, List.set_cons_succ]
                refine wpAnyH_take (i := 8) (v := ?_) rfl (by kernel_rfl) (by kernel_rfl) (by kernel_rfl) (fun _ _ _ h => h) (Or.inl ⟨by kernel_rfl, ?_⟩) (HCS.out _ HK.out) ?_
                rotate_left
                · (intro wq _; first | (go_simp; done) | (go_simp; with_reducible rfl))
                try simp only [List.getElem_toArray, List.getElem_cons_zero, List.getElem_cons_succ, Act.put, List.setIfInBounds_toArray, List.set_cons_zero, List.set_cons_succ]
                refine wpAnyH_take (i := 9) (v := ?_) rfl (by kernel_rfl) (by kernel_rfl) (by kernel_rfl) (fun _ _ _ h => h) (Or.inl ⟨by kernel_rfl, ?_⟩) (HCS.out _ HK.out) ?_
                rotate_left
                · (intro wq _; first | (go_simp; done) | (go_simp; with_reducible rfl))
                try simp only [List.getElem_toArray, List.getElem_cons_zero, List.getElem_cons_succ, Act.put, List.setIfInBounds_toArray, List.set_cons_zero, List.set_cons_succ]
                refine wpAnyH_take (i := 10) (v := ?_) rfl (by kernel_rfl) (by kernel_rfl) (by kernel_rfl) (fun _ _ _ h => h) (Or.inl ⟨by kernel_rfl, ?_⟩) (HCS.out _ HK.out) ?_
                rotate_left
                · (intro wq _; first | (go_simp; done) | (go_simp; with_reducible rfl))
                try simp only [List.getElem_toArray, List.getElem_cons_zero, List.getElem_cons_succ, Act.put, List.setIfInBounds_toArray, List.set_cons_zero, List.set_cons_succ]
                refine wpAnyH_take (i := 11) (v := ?_) rfl (by kernel_rfl) (by kernel_rfl) (by kernel_rfl) (fun _ _ _ h => h) (Or.inl ⟨by kernel_rfl, ?_⟩) (HCS.out _ HK.out) ?_
                rotate_left
                · (intro wq _; first | (go_simp; done) | (go_simp; with_reducible rfl))
                try simp only [List.getElem_toArray, List.getElem_cons_zero, List.getElem_cons_succ, Act.put, List.setIfInBounds_toArray, List.set_cons_zero, List.set_cons_succ]
                refine wpAnyH_take (i := 12) (v := ?_) rfl (by kernel_rfl) (by kernel_rfl) (by kernel_rfl) (fun _ _ _ h => h) (Or.inl ⟨by kernel_rfl, ?_⟩) (HCS.out _ HK.out) ?_
                rotate_left
                · (intro wq _; first | (go_simp; done) | (go_simp; with_reducible rfl))
                try simp only [List.getElem_toArray, List.getElem_cons_zero, List.getElem_cons_succ, Act.put, List.setIfInBounds_toArray, List.set_cons_zero, List.set_cons_succ]
                refine wpAnyH_take (i := 13) (v := ?_) rfl (by kernel_rfl) (by kernel_rfl) (by kernel_rfl) (fun _ _ _ h => h) (Or.inl ⟨by kernel_rfl, ?_⟩) (HCS.out _ HK.out) ?_
                rotate_left
                · (intro wq hSw; (try dsimp only at hSw); first | (go_simp; done) | (go_simp; with_reducible rfl))
                try simp only [List.getElem_toArray, List.getElem_cons_zero, List.getElem_cons_succ, Act.put, List.setIfInBounds_toArray, List.set_cons_zero, List.set_cons_succ]
                refine wpAnyH_take (i := 14) (v := ?_) rfl (by kernel_rfl) (by kernel_rfl) (by kernel_rfl) (fun _ _ _ h => h) (Or.inl ⟨by kernel_rfl, ?_⟩) (HCS.out _ HK.out) ?_
                rotate_left
                · (intro wq _; first | (go_simp; done) | (go_simp; with_reducible rfl))
                try simp only [List.getElem_toArray, List.getElem_cons_zero, List.getElem_cons_succ, Act.put, List.setIfInBounds_toArray, List.set_cons_zero, List.set_cons_succ]
                refine wpAnyH_take (i := 15) (v := ?_) rfl (by kernel_rfl) (by kernel_rfl) (by kernel_rfl) (fun _ _ _ h => h) (Or.inl ⟨by kernel_rfl, ?_⟩) (HCS.out _ HK.out) ?_
                rotate_left
                · (intro wq _; first | (go_simp; done) | (go_simp; with_reducible rfl))
                try simp only [List.getElem_toArray, List.getElem_cons_zero, List.getElem_cons_succ, Act.put, List.setIfInBounds_toArray, List.set_cons_zero, List.set_cons_succ]
                refine wpAnyH_take (i := 16) (v := ?_) rfl (by kernel_rfl) (by kernel_rfl) (by kernel_rfl) (fun _ _ _ h => h) (Or.inl ⟨by kernel_rfl, ?_⟩) (HCS.out _ HK.out) ?_
                rotate_left
                · (intro wq _; first | (go_simp; done) | (go_simp; with_reducible rfl))
                try simp only [List.getElem_toArray, List.getElem_cons_zero, List.getElem_cons_succ, Act.put, List.setIfInBounds_toArray, List.set_cons_zero, List.set_cons_succ]
                refine wpAnyH_take (i := 17) (v := ?_) rfl (by kernel_rfl) (by kernel_rfl) (by kernel_rfl) (fun _ _ _ h => h) (Or.inl ⟨by kernel_rfl, ?_⟩) (HCS.out _ HK.out) ?_
                rotate_left
                · (intro wq _; first | (go_simp; done) | (go_simp; with_reducible rfl))
                try simp only [List.getElem_toArray, List.getElem_cons_zero, List.getElem_cons_succ, Act.put, List.setIfInBounds_toArray, List.set_cons_zero, List.set_cons_succ]
                refine wpAnyH_take (i := 18) (v := ?_) rfl (by kernel_rfl) (by kernel_rfl) (by kernel_rfl) (fun _ _ _ h => h) (Or.inl ⟨by kernel_rfl, ?_⟩) (HCS.out _ HK.out) ?_
                rotate_left
                · (intro wq _; first | (go_simp; done) | (go_simp; with_reducible rfl))
                try simp only [List.getElem_toArray, List.getElem_cons_zero, List.getElem_cons_succ, Act.put, List.setIfInBounds_toArray, List.set_cons_zero, List.set_cons_succ]
                refine wpAnyH_take (i := 19) (v := ?_) rfl (by kernel_rfl) (by kernel_rfl) (by kernel_rfl) (fun _ _ _ h => h) (Or.inl ⟨by kernel_rfl, ?_⟩) (HCS.out _ HK.out) ?_
                rotate_left
                · (intro wq _; first | (go_simp; done) | (go_simp; with_reducible rfl))
                try simp only [List.getElem_toArray, List.getElem_cons_zero, List.getElem_cons_succ, Act.put, List.setIfInBounds_toArray, List.set_cons_zero, List.set_cons_succ]
                refine wpAnyH_take (i := 20) (v := ?_) rfl (by kernel_rfl) (by kernel_rfl) (by kernel_rfl) (fun _ _ _ h => h) (Or.inl ⟨by kernel_rfl, ?_⟩) (HCS.out _ HK.out) ?_
                rotate_left
                · (intro wq _; first | (go_simp; done) | (go_simp; with_reducible rfl))
                try simp only [List.getElem_toArray, List.getElem_cons_zero, List.getElem_cons_succ, Act.put, List.setIfInBounds_toArray, List.set_cons_zero, List.set_cons_succ]
                refine wpAnyH_take (i := 21) (v := ?_) rfl (by kernel_rfl) (by kernel_rfl) (by kernel_rfl) (fun _ _ _ h => h) (Or.inl ⟨by kernel_rfl, ?_⟩) (HCS.out _ HK.out) ?_
                rotate_left
                · (intro wq _; first | (go_simp; done) | (go_simp; with_reducible rfl))
                try simp only [List.getElem_toArray, List.getElem_cons_zero, List.getElem_cons_succ, Act.put, List.setIfInBounds_toArray, List.set_cons_zero, List.set_cons_succ]
                refine wpAnyH_take (i := 22) (v := ?_) rfl (by kernel_rfl) (by kernel_rfl) (by kernel_rfl) (fun _ _ _ h => h) (Or.inl ⟨by kernel_rfl, ?_⟩) (HCS.out _ HK.out) ?_
                rotate_left
                · (intro wq hSw; (try dsimp only at hSw); first | (go_simp; done) | (go_simp; with_reducible rfl))
                try simp only [List.getElem_toArray, List.getElem_cons_zero, List.getElem_cons_succ, Act.put, List.setIfInBounds_toArray, List.set_cons_zero, List.set_cons_succ]
                refine wpAnyH_take (i := 23) (v := ?_) rfl (by kernel_rfl) (by kernel_rfl) (by kernel_rfl) (fun _ _ _ h => h) (Or.inl ⟨by kernel_rfl, ?_⟩) (HCS.out _ HK.out) ?_
                rotate_left
                · (intro wq _; first | (go_simp; done) | (go_simp; with_reducible rfl))
                try simp only [List.getElem_toArray, List.getElem_cons_zero, List.getElem_cons_succ, Act.put, List.setIfInBounds_toArray, List.set_cons_zero, List.set_cons_succ]
                refine wpAnyH_take (i := 24) (v := ?_) rfl (by kernel_rfl) (by kernel_rfl) (by kernel_rfl) (fun _ _ _ h => h) (Or.inl ⟨by kernel_rfl, ?_⟩) (HCS.out _ HK.out) ?_
                rotate_left
                · (intro wq _; first | (go_simp; done) | (go_simp; with_reducible rfl))
                try simp only [List.getElem_toArray, List.getElem_cons_zero, List.getElem_cons_succ, Act.put, List.setIfInBounds_toArray, List.set_cons_zero, List.set_cons_succ]
                refine wpAnyH_take (i := 25) (v := ?_) rfl (by kernel_rfl) (by kernel_rfl) (by kernel_rfl) (fun _ _ _ h => h) (Or.inl ⟨by kernel_rfl, ?_⟩) (HCS.out _ HK.out) ?_
                rotate_left
                · (intro wq _; first | (go_simp; done) | (go_simp; with_reducible rfl))
                try simp only [List.getElem_toArray, List.getElem_cons_zero, List.getElem_cons_succ, Act.put, List.setIfInBounds_toArray, List.set_cons_zero, List.set_cons_succ]
                refine wpAnyH_take (i := 26) (v := ?_) rfl (by kernel_rfl) (by kernel_rfl) (by kernel_rfl) (fun _ _ _ h => h) (Or.inl ⟨by kernel_rfl, ?_⟩) (HCS.out _ HK.out) ?_
                rotate_left
                · (intro wq _; first | (go_simp; done) | (go_simp; with_reducible rfl))
                try simp only [List.getElem_toArray, List.getElem_cons_zero, List.getElem_cons_succ, Act.put, List.setIfInBounds_toArray, List.set_cons_zero, List.set_cons_succ]
                refine wpAnyH_take (i := 27) (v := ?_) rfl (by kernel_rfl) (by kernel_rfl) (by kernel_rfl) (fun _ _ _ h => h) (Or.inl ⟨by kernel_rfl, ?_⟩) (HCS.out _ HK.out) ?_
                rotate_left
                · (intro wq _; first | (go_simp; done) | (go_simp; with_reducible rfl))
                try simp only [List.getElem_toArray, List.getElem_cons_zero, List.getElem_cons_succ, Act.put, List.setIfInBounds_toArray, List.set_cons_zero, List.set_cons_succ]
                refine wpAnyH_take (i := 28) (v := ?_) rfl (by kernel_rfl) (by kernel_rfl) (by kernel_rfl) (fun _ _ _ h => h) (Or.inl ⟨by kernel_rfl, ?_⟩) (HCS.out _ HK.out) ?_
                rotate_left
                · (intro wq _; first | (go_simp; done) | (go_simp; with_reducible rfl))
                try simp only [List.getElem_toArray, List.getElem_cons_zero, List.getElem_cons_succ, Act.put, List.setIfInBounds_toArray, List.set_cons_zero, List.set_cons_succ]
                refine wpAnyH_take (i := 29) (v := ?_) rfl (by kernel_rfl) (by kernel_rfl) (by kernel_rfl) (fun _ _ _ h => h) (Or.inl ⟨by kernel_rfl, ?_⟩) (HCS.out _ HK.out) ?_
                rotate_left
                · (intro wq hSw; (try dsimp only at hSw); first | (go_simp; done) | (go_simp; with_reducible rfl))
                try simp only [List.getElem_toArray, List.getElem_cons_zero, List.getElem_cons_succ, Act.put, List.setIfInBounds_toArray, List.set_cons_zero, List.set_cons_succ]
                refine wpAnyH_take (i := 30) (v := ?_) rfl (by kernel_rfl) (by kernel_rfl) (by kernel_rfl) (fun _ _ _ h => h) (Or.inl ⟨by kernel_rfl, ?_⟩) (HCS.out _ HK.out) ?_
                rotate_left
                · (intro wq _; first | (go_simp; done) | (go_simp; with_reducible rfl))
                try simp only [List.getElem_toArray, List.getElem_cons_zero, List.getElem_cons_succ, Act.put, List.setIfInBounds_toArray, List.set_cons_zero, List.set_cons_succ]
                refine wpAnyH_take (i := 31) (v := ?_) rfl (by kernel_rfl) (by kernel_rfl) (by kernel_rfl) (fun _ _ _ h => h) (Or.inl ⟨by kernel_rfl, ?_⟩) (HCS.out _ HK.out) ?_
                rotate_left
                · (intro wq _; first | (go_simp; done) | (go_simp; with_reducible rfl))
                try simp only [List.getElem_toArray, List.getElem_cons_zero, List.getElem_cons_succ, Act.put, List.setIfInBounds_toArray, List.set_cons_zero, List.set_cons_succ]
                refine wpAnyH_take (i := 32) (v := ?_) rfl (by kernel_rfl) (by kernel_rfl) (by kernel_rfl) (fun _ _ _ h => h) (Or.inl ⟨by kernel_rfl, ?_⟩) (HCS.out _ HK.out) ?_
                rotate_left
                · (intro wq _; first | (go_simp; done) | (go_simp; with_reducible rfl))
                try simp only [List.getElem_toArray, List.getElem_cons_zero, List.getElem_cons_succ, Act.put, List.setIfInBounds_toArray, List.set_cons_zero, List.set_cons_succ]
                refine wpAnyH_take (i := 33) (v := ?_) rfl (by kernel_rfl) (by kernel_rfl) (by kernel_rfl) (fun _ _ _ h => h) (Or.inl ⟨by kernel_rfl, ?_⟩) (HCS.out _ HK.out) ?_
                rotate_left
                · (intro wq _; first | (go_simp; done) | (go_simp; with_reducible rfl))
                try simp only [List.getElem_toArray, List.getElem_cons_zero, List.getElem_cons_succ, Act.put, List.setIfInBounds_toArray, List.set_cons_zero, List.set_cons_succ]
                refine wpAnyH_take (i := 34) (v := ?_) rfl (by kernel_rfl) (by kernel_rfl) (by kernel_rfl) (fun _ _ _ h => h) (Or.inl ⟨by kernel_rfl, ?_⟩) (HCS.out _ HK.out) ?_
                rotate_left
                · (intro wq _; first | (go_simp; done) | (go_simp; with_reducible rfl))
                try simp only [List.getElem_toArray, List.getElem_cons_zero, List.getElem_cons_succ, Act.put, List.setIfInBounds_toArray, List.set_cons_zero, List.set_cons_succ]
                refine wpAnyH_take (i := 35) (v := ?_) rfl (by kernel_rfl) (by kernel_rfl) (by kernel_rfl) (fun _ _ _ h => h) (Or.inl ⟨by kernel_rfl, ?_⟩) (HCS.out _ HK.out) ?_
                rotate_left
                · (intro wq hSw; (try dsimp only at hSw); first | (go_simp; done) | (go_simp; with_reducible rfl))
                try simp only [List.getElem_toArray, List.getElem_cons_zero, List.getElem_cons_succ, Act.put, List.setIfInBounds_toArray, List.set_cons_zero, List.set_cons_succ])))
    all_goals (
      first
        | refine wpAnyH_ready (rs := [36]) (by decide +kernel) (by simp) ?_
      repeat' (first | exact AllReadyH.nil | (refine AllReadyH.cons rfl (fun K hK => ?_) ?_)))
    all_goals (
      first
        | (go_simp
           first
             | (go_at_call 53
                refine (HHF.out wc (HX8.out.trans HK.out)).mono ?_
                rintro E wn ⟨rfl, rfl⟩
                go_wp2_with fail
                refine hK.out _ _ (HCS.out _ HK.out) (fun _ => ?_)
                clear hK K
                try simp only [List.getElem_toArray, List.getElem_cons_zero, List.getElem_cons_succ, Act.put, List.setIfInBounds_toArray, List.set_cons_zero, List.set_cons_succ]
                refine wpAnyH_take (i := 37) (v := ?_) rfl (by kernel_rfl) (by kernel_rfl) (by kernel_rfl) (fun _ _ _ h => h) (Or.inl ⟨by kernel_rfl, ?_⟩) (HCS.out _ HK.out) ?_
                rotate_left
                · (intro wq _; first | (go_simp; done) | (go_simp; with_reducible rfl))
                try simp only [List.getElem_toArray, List.getElem_cons_zero, List.getElem_cons_succ, Act.put, List.setIfInBounds_toArray, List.set_cons_zero, List.set_cons_succ]
                refine wpAnyH_take (i := 38) (v := ?_) rfl (by kernel_rfl) (by kernel_rfl) (by kernel_rfl) (fun _ _ _ h => h) (Or.inl ⟨by kernel_rfl, ?_⟩) (HCS.out _ HK.out) ?_
                rotate_left
                · (intro wq _; first | (go_simp; done) | (go_simp; with_reducible rfl))
                try simp only [List.getElem_toArray, List.getElem_cons_zero, List.getElem_cons_succ, Act.put, List.setIfInBounds_toArray, List.set_cons_zero, List.set_cons_succ])))
    all_goals (
      refine wpAnyH_done (by kernel_rfl) ?_ _
      refine NoPanic.normal ?_
      clear HGB HGO HCS
      go_upto_region 11 with (fail)
      have HXW := Lib.hid (HX8.out.trans HK.out)
      have HRUN := Lib.hid (sec_run (o := 17) (HSA8.out.ext HK.out))
      have HSZ := Lib.hid HXW.out.size
      have h47 : (byteV (s.drop 17)).length = 47 := by rw [byteV_len, List.length_drop, HS64.out]
      have H47 := Lib.hid h47
      clear h47 HX8 HSA8 HK HRD8 hw31
      go_upto_region 13 with (at_builtin; refine wpList_append_any rfl _ _ 22 5 (.int .u8 0) 1 1 rfl Tryz.underlying22 info_byte1 rfl (by decide) w.heap.size none 0 0 [] rfl (World.ownsRow_nil _ _ _ _) (some ⟨B, 17, none⟩) 47 47 (byteV (s.drop 17)) rfl (by rw [H47.out]) HRUN.out (byteV_one _) (by omega) (by decide) HSZ.out 47 (by omega) ?_; intro adn cpn w9 hown hkp hbl; have HOWN := Lib.hid hown; have HBLN := Lib.hid hbl; clear hown hkp hbl)
      have HXN := Lib.hid (ext_below rfl HXW.out (Ext.refl _) HBLN.out)
      have hd0 : dataI f 0 = s.drop 17 := by rw [dataI, HS0.out]
      have HOW0 : Hid (w9.ownsRow w.heap.size 5 1 (.slice adn (47 + 63 * 0) cpn) (47 + 63 * 0) (byteV (dataI f 0))) := Lib.hid (by rw [hd0]; simpa using HOWN.out)
      clear HOWN HBLN hd0 HXW HSZ HRUN H47
      go_loopw [13, 14] (fun v iv wr => ∃ (j : Nat) (a : Option Addr) (c : Nat), iv = .int .i64 ((j : Int) + 1) ∧ v = .slice a (47 + 63 * j) c ∧ j + 1 ≤ sc ∧ Hid (wr.ownsRow w.heap.size 5 1 (.slice a (47 + 63 * j) c) (47 + 63 * j) (byteV (dataI f j))) ∧ Hid (Ext w wr)) (fun _ iv _ => sc - (intOf iv).toNat)
      case atStart => exact ⟨0, _, _, rfl, rfl, by omega, HOW0, HXN⟩
      case round =>
        clear HOW0 HXN
        obtain ⟨j, a, c, rfl, rfl, hj, HOW, HX⟩ := hrel
        by_cases hlt : j + 1 < sc
        · have hzi : (j : Int) + 1 < (sc : Int) := by omega
          have hrj := HRDS.out (j + 1) hlt wr HX.out
          have hs2 := HF64.out (j + 1)
          have hm3 := HMK3.out (j + 1) (by omega)
          have hdj : dataI f (j + 1) = dataI f j ++ (f (j + 1)).drop 1 := rfl
          generalize f (j + 1) = s2 at hrj hs2 hm3 hdj
          generalize hp : of + (j + 1) = p at hrj
          have hpe : (of : Int) + ((j : Int) + 1) = (p : Int) := by omega
          have hpw : IntKind.i64.wrap (p : Int) = (p : Int) := by rw [IntKind.wrap_i64]; omega
          clear hp
          have hvl2 : (byteV s2).length = 64 := by rw [byteV_len]; exact hs2
          have hv12 := byteV_one s2
          generalize hV2 : byteV s2 = V2 at hrj hvl2 hv12
          have HV2 := Lib.hid hV2; have HVL2 := Lib.hid hvl2; have HV12 := Lib.hid hv12; have HRJ := Lib.hid hrj; have HS2 := Lib.hid hs2; have HDJ := Lib.hid hdj; clear hV2 hvl2 hv12 hrj hs2 hdj
          have d4 : wr.cell? ⟨lb, 4, none⟩ = some (.int .i64 (of : Int)) := by
            have h4 := blk_cell (HX.out.heap HT.out) 4 (.int .i64 (L.off : Int)) rfl
            rw [HOF.out] at h4
            exact h4
          go_upto_region 16 with (first | (go_at_call 69; refine HRJ.out.mono ?_; rintro E w2 ⟨rfl, hx2⟩; have HX2 := Lib.hid hx2; clear hx2) | (refine wpList_store_mid rfl _ _ _ rfl _ _ V2.toArray rfl rfl (there_new _ _ _ (by rw [List.size_toArray, HVL2.out]; decide)) (by rw [List.size_toArray, HVL2.out]; exact size_sector) (all_oneCell_toArray HV12.out) ?_))
          clear d4 HRJ hpe hpw
          rw [alloc_sector]
          have hset := (sec_zero w2).set HS2.out
          rw [HV2.out] at hset
          have hx3 := ext_ne ((Ext.refl w2).trans (Ext.alloc w2 (.cells (byteV zeroS).toArray 83))) (Nat.le_refl _) hset.2
          obtain ⟨B2, hB⟩ : ∃ B, B = w2.heap.size := ⟨_, rfl⟩
          rw [← hB] at hset hx3 ⊢
          clear hB
          have hsa := hset.1
          clear hset
          try simp only [List.toList_toArray]
          generalize (w2.alloc (.cells (byteV zeroS).toArray 83)).setCells B2 0 V2 = w3 at hsa hx3 ⊢
          have hx23 := HX2.out.trans hx3
          have HX3 := Lib.hid (HX.out.trans hx23); have HOW3 := Lib.hid (ownsRow_keep HOW.out (Keep.of_ext (S := fun _ => True) hx23) (fun _ _ _ _ _ => trivial))
          have hmk : w3.cell? ⟨B2, 0, none⟩ = some (.int .u8 3) := by
            have h := mark_cell hsa.2 hsa.1
            rw [hm3] at h
            exact h
          have HRUN := Lib.hid (sec_run (o := 1) hsa)
          have HSZ := Lib.hid HX3.out.size
          have H63 : Hid ((byteV (s2.drop 1)).length = 63) := Lib.hid (by rw [byteV_len, List.length_drop, HS2.out])
          clear hx3 hx23 hsa hm3 HX2 HX HOW
          go_wp2_with (at_builtin; refine wpList_append_any rfl _ _ 22 5 (.int .u8 0) 1 1 rfl Tryz.underlying22 info_byte1 rfl (by decide) w.heap.size a (47 + 63 * j) c (byteV (dataI f j)) rfl HOW3.out (some ⟨B2, 1, none⟩) 63 63 (byteV (s2.drop 1)) rfl (by rw [H63.out]) HRUN.out (byteV_one _) (by omega) (by decide) HSZ.out (47 + 63 * (j + 1)) (by omega) ?_; intro adn cpn w9 hown hkp hbl; have HOWN := Lib.hid hown; have HBLN := Lib.hid hbl; clear hown hkp hbl)
          have HXN := Lib.hid (ext_below rfl HX3.out (Ext.refl _) HBLN.out)
          have HOWN2 : Hid (w9.ownsRow w.heap.size 5 1 (.slice adn (47 + 63 * (j + 1)) cpn) (47 + 63 * (j + 1)) (byteV (dataI f (j + 1)))) := Lib.hid (by rw [HDJ.out]; have h := HOWN.out; simp only [byteV, List.map_append] at h ⊢; exact h)
          go_roundw
          case rel => exact ⟨j + 1, adn, cpn, by go_num, rfl, by omega, HOWN2, HXN⟩
          case measure => simp [intOf]; omega
        · have hjs : j = sc - 1 := by omega
          have hrm := secN_room bn
          rw [HSC.out] at hrm
          obtain ⟨a2, c2, hv, hcc, hdd, _⟩ := DataM.of_row (l := dataI f j) HOW.out
          cases hv
          have hdt := data_take hdd bn
          have hdb := HDAT.out
          rw [← hjs] at hdb
          rw [hdb] at hdt
          have hb1 : bn ≤ 47 + 63 * j := by omega
          have hb2 : bn ≤ c := by omega
          have hb3 : (bn : Int) ≤ (c : Int) := by omega
          have hnl : ¬ (j : Int) + 1 < (sc : Int) := by omega
          have HDT := Lib.hid hdt; have HCC := Lib.hid hcc
          clear hdt hdd hdb hrm HOW hcc
          go_wp2_with (first | (go_at_call 57; refine (HM1.out _).mono ?_; rintro E v1 ⟨x1, y1, rfl, o1, hx1⟩; have HO1 := Lib.hid (o1.bytes.1); have HV1X := Lib.hid hx1; clear o1 hx1 HM1) | (go_at_call 57; refine (HM2.out _).mono ?_; rintro E v2 ⟨x2, y2, rfl, o2, hx2⟩; have HO2 := Lib.hid (o2.bytes.1); have HO1B := Lib.hid (HO1.out.ext hx2); have HV2X := Lib.hid (HV1X.out.trans hx2); clear o2 hx2 HM2 HO1 HV1X) | (go_at_call 60; refine (HPK.out _ _ _ (parts_blk (vs := [.slice x1 N1.length y1, .slice x2 N2.length y2]) (heap_alloc_new v2 _) (PartsS.cons (HO1B.out.ext (Ext.alloc v2 _)).row (PartsS.one (HO2.out.ext (Ext.alloc v2 _)).row)))).mono ?_; rintro E v3 ⟨x3, y3, rfl, o3, hx3⟩; have HO3 := Lib.hid (o3.bytes.1); have HV3X := Lib.hid ((HV2X.out.trans (Ext.alloc v2 _)).trans hx3); clear o3 hx3 HPK HO1B HO2 HV2X) | (go_at_call 67; refine (HCR.out _ _ _ (parts_blk (vs := [.slice x3 PK.length y3, .slice a bn c]) (heap_alloc_new v3 _) (by have h := PartsS.cons (c := y3) (HO3.out.ext (Ext.alloc v3 (.cells #[.slice x3 PK.length y3, .slice a bn c] 22))).row (PartsS.one (c := c) ((HDT.out.bytes.ext HV3X.out).ext (Ext.alloc v3 (.cells #[.slice x3 PK.length y3, .slice a bn c] 22))).row); rw [HBN.out] at h; exact h))).mono ?_; rintro E v4 ⟨rfl, rfl⟩))
          rw [HQ.out]
          have hxe := HV3X.out.trans (Ext.alloc v3 (.cells #[.slice x3 PK.length y3, .slice a bn c] 22))
          exact ⟨a, c, rfl, HDT.out.keep (Keep.of_ext (S := fun _ => True) hxe) (datas_all _), hb2, HX.out.trans hxe⟩))
end
end Go.Proofs.YtlpjmkkinlcbnaaGreatDoor
