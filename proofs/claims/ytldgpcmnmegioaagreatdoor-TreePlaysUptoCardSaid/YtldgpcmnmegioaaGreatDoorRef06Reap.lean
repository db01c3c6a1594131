/- farrierref06.New, Reap. -/
import Derived.Test.YtldgpcmnmegioaaGreatDoorRef06Ask
import Derived.Test.YtldgpcmnmegioaaGreatDoorCloneY
namespace Go.Proofs.YtldgpcmnmegioaaGreatDoor
open Go.RowKit
theorem info_fil06 : (Tryz.prog.info? 77).map (fun i => (i.zero, i.size, i.bytes)) = some (some (.agg #[.int .i64 0, .slice none 0 0]), 2, 32) := by kernel_rfl
theorem fils_len (F : List (FilD × OpA)) : (F.flatMap filV).length = F.length * 2 := flat_lenm (m := 2) (fun _ => rfl) F
/-- A tree of the document's that a call made. -/
def RefR (m : RefD) (w : World) (e : Ending) (w' : World) : Prop := ∃ A, e = .returned (refV m A) ∧ RefM w' m A ∧ Ext w w'
theorem set4r {w : World} {R : Nat} {t : TypeId} {a0 a1 a2 a3 : Value} (hg : w.heap[R]? = some (.cells #[a0, a1, a2, a3] t (0, 0))) (v0 v1 v2 v3 : Value) :
    ((((w.setCell ⟨R, 0, none⟩ v0).setCell ⟨R, 1, none⟩ v1).setCell ⟨R, 2, none⟩ v2).setCell ⟨R, 3, none⟩ v3).heap[R]? = some (.cells #[v0, v1, v2, v3] t (0, 0)) ∧ But R w ((((w.setCell ⟨R, 0, none⟩ v0).setCell ⟨R, 1, none⟩ v1).setCell ⟨R, 2, none⟩ v2).setCell ⟨R, 3, none⟩ v3) := by
  refine ⟨?_, (((((But.refl R w).setCell 0 _).setCell 1 _).setCell 2 _).setCell 3 _)⟩
  have h := setCell_row (setCell_row (setCell_row (setCell_row (i := 0) hg v0) (i := 1) v1) (i := 2) v2) (i := 3) v3
  simpa using h
set_option maxRecDepth 100000 in
theorem ref_new (q : Int) (w : World) : Calls Tryz.prog 8 #[.int .i64 q] w (RefR (newM q) w) := by
  obtain ⟨R, hR⟩ : ∃ R, R = RefR (newM q) w := ⟨_, rfl⟩
  rw [← hR]
  have HR := Lib.hid hR; clear hR
  go_enter Tryz.func8, Tryz.ntmps8
  go_wp2_with fail
  have hx1 := Ext.alloc w (.cells #[.slice (some ⟨w.heap.size + 1, 0, none⟩) 1 1, .slice none 0 0, .int .i64 2, .int .i64 (max 0 q)] 30)
  have hf1 := heap_alloc_new w (.cells #[.slice (some ⟨w.heap.size + 1, 0, none⟩) 1 1, .slice none 0 0, .int .i64 2, .int .i64 (max 0 q)] 30)
  have hs1 := World.size_alloc w (.cells #[.slice (some ⟨w.heap.size + 1, 0, none⟩) 1 1, .slice none 0 0, .int .i64 2, .int .i64 (max 0 q)] 30)
  generalize w.alloc (.cells #[.slice (some ⟨w.heap.size + 1, 0, none⟩) 1 1, .slice none 0 0, .int .i64 2, .int .i64 (max 0 q)] 30) = w1 at hx1 hf1 hs1 ⊢
  rw [← hs1] at hf1 ⊢
  have hx2 := Ext.alloc w1 (.cells #[.string ⟨#[47]⟩, .int .i64 1, .bool true] 48)
  have hf2 := heap_alloc_new w1 (.cells #[.string ⟨#[47]⟩, .int .i64 1, .bool true] 48)
  generalize w1.alloc (.cells #[.string ⟨#[47]⟩, .int .i64 1, .bool true] 48) = w2 at hx2 hf2 ⊢
  generalize w1.heap.size = E at hf1 hf2 hs1 ⊢
  generalize w.heap.size = B at hf1 hs1 ⊢
  have c0 := blk_cell (hx2.heap hf1) 0 (Value.slice (some ⟨E, 0, none⟩) 1 1) rfl
  have c1 := blk_cell (hx2.heap hf1) 1 (Value.slice none 0 0) rfl
  have c2 := blk_cell (hx2.heap hf1) 2 (Value.int .i64 2) rfl
  have c3 := blk_cell (hx2.heap hf1) 3 (Value.int .i64 (max 0 q)) rfl
  refine bodyPost_ret (v := .agg #[.slice (some ⟨E, 0, none⟩) 1 1, .slice none 0 0, .int .i64 2, .int .i64 (max 0 q)]) (by simp [results, Tryz.results8, go_sem, c0, c1, c2, c3]) rfl ?_
  rw [HR.out]
  refine ⟨⟨some ⟨E, 0, none⟩, 1, none, 0, []⟩, rfl, ⟨?_, Nat.le_refl _, ⟨Or.inl rfl, by simp⟩, Nat.le_refl _, rfl⟩, hx1.trans hx2⟩
  exact run_blk (us := [.string (bs [47]), .int .i64 1, .bool true]) hf2
/-- Without the files of a number. -/
def lessF (F : List (FilD × OpA)) (i : Int) : List (FilD × OpA) := F.filter fun x => !decide (x.1.id = i)
theorem lessF_take {F : List (FilD × OpA)} {k : Nat} (hk : k < F.length) (i : Int) : lessF (F.take (k + 1)) i = lessF (F.take k) i ++ if (F.getD k fz06).1.id = i then [] else [F.getD k fz06] := by
  unfold lessF
  rw [take_getD hk fz06, List.filter_append]
  congr 1
  by_cases h : (F.getD k fz06).1.id = i
  · rw [if_pos h, List.filter_cons_of_neg (by rw [h]; simp), List.filter_nil]
  · rw [if_neg h, List.filter_cons_of_pos (by rw [decide_eq_false h]; rfl), List.filter_nil]
theorem lessF_map (F : List (FilD × OpA)) (i : Int) : (lessF F i).map Prod.fst = (F.map Prod.fst).filter fun f => !decide (f.id = i) := by
  unfold lessF; rw [List.filter_map]; rfl
set_option maxRecDepth 100000 in
set_option maxHeartbeats 6400000 in
theorem ref_reap (m : RefD) (A : RefA) (id : Int) (w : World) (hM : RefM w m A) (hl : m.list.length ≤ 1099511627776) (hf : m.files.length ≤ 1099511627776) :
    Calls Tryz.prog 16 #[refV m A, .int .i64 id] w (RefR (reapM m id) w) := by
  obtain ⟨R, hR⟩ : ∃ R, R = RefR (reapM m id) w := ⟨_, rfl⟩
  rw [← hR]
  have HR := Lib.hid hR; clear hR
  have hfl := hM.flen'
  obtain ⟨L, files, nx, q⟩ := m
  obtain ⟨la, lc, fa, fc, F⟩ := A
  unfold refV
  simp only at hl hf hfl ⊢
  have hls := fun W (k : Ext w W) => ref_links L la lc fa files.length fc nx q id W (hM.ents.ext k) hl
  have HM := Lib.hid hM; clear hM
  obtain ⟨ln, hln⟩ : ∃ n, n = L.length := ⟨_, rfl⟩
  obtain ⟨n, hn⟩ : ∃ n, n = files.length := ⟨_, rfl⟩
  rw [← hln] at hl hls ⊢
  rw [← hn] at hf hfl hls ⊢
  have HLN := Lib.hid hln; clear hln
  have HN := Lib.hid hn; clear hn
  have HFL := Lib.hid hfl; clear hfl
  have HLS := Lib.hid hls; clear hls
  go_enter Tryz.func16, Tryz.ntmps16
  go_upto_region 1 with fail
  have hx_w2 : Ext w ((w.alloc (.cells #[.slice la ln lc, .slice fa n fc, .int .i64 nx, .int .i64 q] 30)).alloc (.cells #[.slice none 0 0, .slice none 0 0, .int .i64 0, .int .i64 0] 30)) := ((Ext.alloc _ _).trans (Ext.alloc _ _))
  have hf_B := (Ext.alloc (w.alloc (.cells #[.slice la ln lc, .slice fa n fc, .int .i64 nx, .int .i64 q] 30)) (.cells #[.slice none 0 0, .slice none 0 0, .int .i64 0, .int .i64 0] 30)).heap (heap_alloc_new w (.cells #[.slice la ln lc, .slice fa n fc, .int .i64 nx, .int .i64 q] 30))
  have hf_Q := heap_alloc_new (w.alloc (.cells #[.slice la ln lc, .slice fa n fc, .int .i64 nx, .int .i64 q] 30)) (.cells #[.slice none 0 0, .slice none 0 0, .int .i64 0, .int .i64 0] 30)
  simp only [World.size_alloc] at hf_Q
  generalize (w.alloc (.cells #[.slice la ln lc, .slice fa n fc, .int .i64 nx, .int .i64 q] 30)).alloc (.cells #[.slice none 0 0, .slice none 0 0, .int .i64 0, .int .i64 0] 30) = w2 at hx_w2 hf_B hf_Q ⊢
  obtain ⟨B, h_B⟩ : ∃ x, x = w.heap.size := ⟨_, rfl⟩
  obtain ⟨Q, h_Q⟩ : ∃ x, x = w.heap.size + 1 := ⟨_, rfl⟩
  rw [← h_Q] at hf_Q
  rw [← h_B] at hf_B
  try rw [← h_Q, ← h_B]
  have hs_B : w.heap.size ≤ B := by omega
  have hs_Q : w.heap.size ≤ Q := by omega
  have hBQ : w.heap.size ≤ B ∧ w.heap.size ≤ Q ∧ B ≠ Q ∧ Q < w2.heap.size ∧ B < w2.heap.size := ⟨hs_B, hs_Q, by omega, (Array.getElem?_eq_some_iff.1 hf_Q).1, (Array.getElem?_eq_some_iff.1 hf_B).1⟩
  have HBQ := Lib.hid hBQ; clear hBQ hs_B hs_Q h_B h_Q
  have HB := Lib.hid hf_B; clear hf_B
  have HQ := Lib.hid hf_Q; clear hf_Q
  have HX := Lib.hid hx_w2; clear hx_w2
  have b0 := blk_cell HB.out 0 (Value.slice la ln lc) rfl
  have b1 := blk_cell HB.out 1 (Value.slice fa n fc) rfl
  have b2 := blk_cell HB.out 2 (Value.int .i64 nx) rfl
  have b3 := blk_cell HB.out 3 (Value.int .i64 q) rfl
  go_wp2_with (go_at_call 33; refine Hid.out ?_)
  refine Lib.hid ?_
  clear b0 b1 b2 b3
  refine (HLS.out _ HX.out).mono ?_
  rintro E w3 ⟨rfl, hx3⟩
  have b0 := blk_cell (hx3.heap HB.out) 0 (Value.slice la ln lc) rfl
  have b1 := blk_cell (hx3.heap HB.out) 1 (Value.slice fa n fc) rfl
  have b2 := blk_cell (hx3.heap HB.out) 2 (Value.int .i64 nx) rfl
  have b3 := blk_cell (hx3.heap HB.out) 3 (Value.int .i64 q) rfl
  have hc : countM ⟨L, files, nx, q⟩ id = linksL L id := rfl
  have HB3 := Lib.hid (hx3.heap HB.out); clear HB
  have HQ3 := Lib.hid (hx3.heap HQ.out); clear HQ
  have HX3 := Lib.hid (HX.out.trans hx3)
  have HX23 := Lib.hid hx3; clear hx3
  by_cases h0 : 0 < linksL L id
  · have hr : reapM ⟨L, files, nx, q⟩ id = ⟨L, files, nx, q⟩ := if_pos h0
    rw [hr] at HR
    have q0 := blk_cell HQ3.out 0 (Value.slice none 0 0) rfl
    have q1 := blk_cell HQ3.out 1 (Value.slice none 0 0) rfl
    have q2 := blk_cell HQ3.out 2 (Value.int .i64 0) rfl
    have q3 := blk_cell HQ3.out 3 (Value.int .i64 0) rfl
    have g0 := blk_free HQ3.out 0
    have g1 := blk_free HQ3.out 1
    have g2 := blk_free HQ3.out 2
    have g3 := blk_free HQ3.out 3
    clear hr hc
    go_wp2_with fail
    have hs := set4r HQ3.out (.slice la ln lc) (.slice fa n fc) (.int .i64 nx) (.int .i64 q)
    have c0 := blk_cell hs.1 0 (Value.slice la ln lc) rfl
    have c1 := blk_cell hs.1 1 (Value.slice fa n fc) rfl
    have c2 := blk_cell hs.1 2 (Value.int .i64 nx) rfl
    have c3 := blk_cell hs.1 3 (Value.int .i64 q) rfl
    refine bodyPost_ret (v := .agg #[.slice la ln lc, .slice fa n fc, .int .i64 nx, .int .i64 q]) (by simp [results, Tryz.results16, go_sem, c0, c1, c2, c3]) rfl ?_
    rw [HR.out]
    have hx : Ext w ((((w3.setCell ⟨Q, 0, none⟩ (.slice la ln lc)).setCell ⟨Q, 1, none⟩ (.slice fa n fc)).setCell ⟨Q, 2, none⟩ (.int .i64 nx)).setCell ⟨Q, 3, none⟩ (.int .i64 q)) := ((Keep.of_ext (S := fun j => j < w.heap.size) HX3.out).andThen (Keep.of_but hs.2) (fun j hj _ => by have := HBQ.out; show j ≠ Q; omega)).ext_lt
    exact ⟨⟨la, lc, fa, fc, F⟩, by unfold refV; rw [HLN.out, HN.out], HM.out.ext hx, hx⟩
  · have hr : reapM ⟨L, files, nx, q⟩ id = ⟨L, files.filter (fun f => !decide (f.id = id)), nx, q⟩ := if_neg h0
    rw [hr] at HR
    clear hr hc b0 b1 b2 b3
    have HH0 := Lib.hid h0
    go_upto_region 4 with fail
    clear h0
    have hx4 := Ext.alloc w3 (.cells #[] 77)
    have hf4 := heap_alloc_new w3 (.cells #[] 77)
    generalize w3.alloc (.cells #[] 77) = w4 at hx4 hf4 ⊢
    obtain ⟨G, hG⟩ : ∃ x, x = w3.heap.size := ⟨_, rfl⟩
    have hS : w3.heap.size ≤ w4.heap.size := hx4.size
    obtain ⟨S, hSd⟩ : ∃ x, x = w3.heap.size := ⟨_, rfl⟩
    rw [← hG] at hf4 ⊢
    have hO := row_zero (base := S) (size := 2) hf4 (by omega)
    have hBS : B < S ∧ Q < S := by have := HBQ.out; have := HX23.out.size; omega
    have HO := Lib.hid hO; clear hO hf4
    have HX4 := Lib.hid hx4; clear hx4
    have HS : Hid (S ≤ w4.heap.size ∧ S = w3.heap.size) := Lib.hid ⟨by omega, hSd⟩
    have HBS := Lib.hid hBS; clear hBS hS hG hSd
    go_wp2_with fail
    go_loopw [5, 6] (fun s i wr => ∃ (k : Nat) (X : List (FilD × OpA)) (a : Option Addr) (c : Nat), s = .slice a X.length c ∧ i = .int .i64 k ∧ k ≤ n ∧ X.length ≤ k ∧ Hid (X = lessF (F.take k) id) ∧ Hid (wr.ownsRow S 77 2 (.slice a X.length c) X.length (X.flatMap filV)) ∧ Hid (Ext w3 wr)) (fun _ i _ => n - (intOf i).toNat)
    case atStart => exact ⟨0, [], some ⟨G, 0, none⟩, 0, rfl, rfl, Nat.zero_le _, Nat.le_refl _, Lib.hid (by simp [lessF]), HO, HX4⟩
    case round =>
      clear HO HX4
      obtain ⟨k, X, a, c, rfl, rfl, hk, hXk, HXF, HO, HXR⟩ := hrel
      have b1 := blk_cell (HXR.out.heap HB3.out) 1 (Value.slice fa n fc) rfl
      by_cases hlt : k < n
      · have hkL : k < F.length := by have := HFL.out; omega
        have hfr := (HM.out.ext (HX3.out.trans HXR.out)).fils
        simp only at hfr
        obtain ⟨g, off, rfl, _, c0, c1⟩ := hfr.at hkL
        have hT := lessF_take hkL id
        have HT := Lib.hid hT; clear hT hfr
        generalize F.getD k fz06 = x at c0 c1 HT
        obtain ⟨⟨xi, xd⟩, ⟨xa, xc⟩⟩ := x
        simp only at c0 c1
        by_cases he : xi = id
        · have hb := int_beq he
          have hb2 : (xi != id) = false := by simp [he]
          have hT2 := HT.out
          rw [if_pos he, List.append_nil] at hT2
          have HT2 := Lib.hid hT2; clear hT2 HT he
          go_wp2_with fail
          go_roundw
          case rel => exact ⟨k + 1, X, a, c, rfl, by go_num, by omega, by omega, Lib.hid (by rw [HT2.out]; exact HXF.out), HO, HXR⟩
          case measure => simp [intOf]; omega
        · have hb := int_bne he
          have hb2 : (xi != id) = true := by simp [he]
          have hT2 := HT.out
          rw [if_neg he] at hT2
          have HT2 := Lib.hid hT2; clear hT2 HT he
          go_wp2_with (at_builtin; refine Hid.out ?_)
          refine Lib.hid ?_
          have hx5 := Ext.alloc wr (.cells #[.int .i64 xi, .slice xa xd.length xc] 77)
          have hb5 := heap_alloc_new wr (.cells #[.int .i64 xi, .slice xa xd.length xc] 77)
          have hO5 := ownsRow_keep HO.out (Keep.of_ext (S := fun _ => True) hx5) (fun _ _ _ _ _ => trivial)
          generalize wr.alloc (.cells #[.int .i64 xi, .slice xa xd.length xc] 77) = w5 at hx5 hb5 hO5 ⊢
          refine wpList_append_any rfl _ _ 28 77 (.agg #[.int .i64 0, .slice none 0 0]) 2 32 rfl Tryz.underlying28 info_fil06 rfl (by decide) S a X.length c (X.flatMap filV) rfl hO5 (some ⟨wr.heap.size, 0, none⟩) 1 1 (filV ((⟨xi, xd⟩, ⟨xa, xc⟩) : FilD × OpA)) rfl rfl (run_blk hb5) (by intro u hu; simp only [filV, List.mem_cons, List.not_mem_nil, or_false] at hu; rcases hu with rfl | rfl <;> rfl) (by omega) (by decide) (by have := HXR.out.size; have := hx5.size; have := HS.out; omega) (X.length + 1) rfl ?_
          intro a' c' w6 hown hkp hbl
          have hO6 : w6.ownsRow S 77 2 (.slice a' (X.length + 1) c') (X.length + 1) ((X ++ [((⟨xi, xd⟩, ⟨xa, xc⟩) : FilD × OpA)]).flatMap filV) := by
            rw [List.flatMap_append]; simpa using hown
          have hx6 : Ext w3 w6 := ((Keep.of_ext (S := fun j => j < w3.heap.size) (HXR.out.trans hx5)).andThen (Keep.of_below hbl) (fun j hj _ => by have := HS.out; show j < S; omega)).ext_lt
          have HO6 := Lib.hid hO6
          have HX6 := Lib.hid hx6
          clear hown hkp hbl hO6 hx6 hO5 hb5 hx5
          go_wp2_with fail
          go_roundw
          case rel => exact ⟨k + 1, X ++ [((⟨xi, xd⟩, ⟨xa, xc⟩) : FilD × OpA)], a', c', by simp, by go_num, by omega, by simp; omega, Lib.hid (by rw [HT2.out, ← HXF.out]), by rw [List.length_append]; exact HO6, HX6⟩
          case measure => simp [intOf]; omega
      · have hkn : k = n := by omega
        have hXE : X = lessF F id := by
          have := HXF.out
          rw [List.take_of_length_le (by have := HFL.out; omega)] at this
          exact this
        have HXE := Lib.hid hXE; clear hXE hkn
        have b0 := blk_cell (HXR.out.heap HB3.out) 0 (Value.slice la ln lc) rfl
        have g1 := blk_free (HXR.out.heap HB3.out) 1
        go_upto_region 10 with fail
        have hs8 := setCell_row (i := 1) (HXR.out.heap HB3.out) (Value.slice a X.length c)
        have hbu := (But.refl B wr).setCell 1 (Value.slice a X.length c)
        have hQ8 := hbu.block Q (by have := HXR.out.size; have := HX23.out.size; have := HBQ.out; omega) (fun e => HBQ.out.2.2.1 e.symm)
        generalize wr.setCell ⟨B, 1, none⟩ (Value.slice a X.length c) = w8 at hs8 hbu hQ8 ⊢
        have hQ9 : w8.heap[Q]? = some (.cells #[.slice none 0 0, .slice none 0 0, .int .i64 0, .int .i64 0] 30 (0, 0)) := by rw [hQ8]; exact HXR.out.heap HQ3.out
        have hs9 : w8.heap[B]? = some (.cells #[.slice la ln lc, .slice a X.length c, .int .i64 nx, .int .i64 q] 30 (0, 0)) := by simpa using hs8
        clear b0 b1 g1 hs8 hQ8
        have b0 := blk_cell hs9 0 (Value.slice la ln lc) rfl
        have b1 := blk_cell hs9 1 (Value.slice a X.length c) rfl
        have b2 := blk_cell hs9 2 (Value.int .i64 nx) rfl
        have b3 := blk_cell hs9 3 (Value.int .i64 q) rfl
        have q0 := blk_cell hQ9 0 (Value.slice none 0 0) rfl
        have q1 := blk_cell hQ9 1 (Value.slice none 0 0) rfl
        have q2 := blk_cell hQ9 2 (Value.int .i64 0) rfl
        have q3 := blk_cell hQ9 3 (Value.int .i64 0) rfl
        have g0 := blk_free hQ9 0
        have g1 := blk_free hQ9 1
        have g2 := blk_free hQ9 2
        have g3 := blk_free hQ9 3
        have HQ9 := Lib.hid hQ9; clear hQ9 hs9
        have HBU := Lib.hid hbu; clear hbu
        go_wp2_with fail
        have hs := set4r HQ9.out (.slice la ln lc) (.slice a X.length c) (.int .i64 nx) (.int .i64 q)
        have c0 := blk_cell hs.1 0 (Value.slice la ln lc) rfl
        have c1 := blk_cell hs.1 1 (Value.slice a X.length c) rfl
        have c2 := blk_cell hs.1 2 (Value.int .i64 nx) rfl
        have c3 := blk_cell hs.1 3 (Value.int .i64 q) rfl
        refine bodyPost_ret (v := .agg #[.slice la ln lc, .slice a X.length c, .int .i64 nx, .int .i64 q]) (by simp [results, Tryz.results16, go_sem, c0, c1, c2, c3]) rfl ?_
        rw [HR.out]
        have hk2 : Keep (fun j => j ≠ B ∧ j ≠ Q) wr ((((w8.setCell ⟨Q, 0, none⟩ (.slice la ln lc)).setCell ⟨Q, 1, none⟩ (.slice a X.length c)).setCell ⟨Q, 2, none⟩ (.int .i64 nx)).setCell ⟨Q, 3, none⟩ (.int .i64 q)) := ((Keep.of_but HBU.out).mono (fun j _ hj => hj.1)).andThen (Keep.of_but hs.2) (fun j _ hj => hj.2)
        have hx : Ext w ((((w8.setCell ⟨Q, 0, none⟩ (.slice la ln lc)).setCell ⟨Q, 1, none⟩ (.slice a X.length c)).setCell ⟨Q, 2, none⟩ (.int .i64 nx)).setCell ⟨Q, 3, none⟩ (.int .i64 q)) := ((Keep.of_ext (S := fun j => j < w.heap.size) (HX3.out.trans HXR.out)).andThen hk2 (fun j hj _ => by have := HBQ.out; exact ⟨by omega, by omega⟩)).ext_lt
        obtain ⟨a', c', hv, hcc, hrun, _⟩ := run_of_row (ownsRow_keep HO.out hk2 (fun g cur h1 h2 h3 => by have := HBS.out; exact ⟨by omega, by omega⟩))
        cases hv
        have hmap : X.map Prod.fst = files.filter fun f => !decide (f.id = id) := by
          rw [HXE.out, lessF_map]
          have := HM.out.fmap
          simp only at this
          rw [this]
        have hln : (files.filter fun f => !decide (f.id = id)).length = X.length := by rw [← hmap, List.length_map]
        refine ⟨⟨la, lc, a, c, X⟩, by unfold refV; simp only; rw [hln, HLN.out], ⟨HM.out.ents.ext hx, HM.out.elen, ⟨hrun, fun y hy => ?_⟩, by simp only; rw [hln]; exact hcc, hmap⟩, hx⟩
        rw [HXE.out] at hy
        have hy2 := (List.mem_filter.1 hy).1
        have hd := HM.out.fils.dat y hy2
        exact ⟨hd.1.ext hx, hd.2⟩
end Go.Proofs.YtldgpcmnmegioaaGreatDoor
