/- The readers of one part of an archive: a test, a text, a need, a file. -/
import Derived.Test.YtpfcofjianmeaaaGreatDoorArcMem
import Derived.Test.YtpfcofjianmeaaaGreatDoorRecRaw
namespace Go.Proofs.YtpfcofjianmeaaaGreatDoor
open Go.RowKit
theorem rd_truth (S : Nat → Prop) (R : Nat) (s : RSt) (w : World) (h : Rd S w R s) (hs : s.1.length ≤ 1099511627776) :
    Calls Tryz.prog 44 #[.pointer (some ⟨R, 0, none⟩)] w (RdR S R w (.bool (decide ((rNum 1 s).1 = 1))) (rNum 1 s).2) := by
  have hn := rd_num S R 1 s w h hs (by omega)
  obtain ⟨k, t, ht⟩ : ∃ k t, rNum 1 s = (k, t) := ⟨_, _, rfl⟩
  rw [ht] at hn ⊢
  simp only at hn ⊢
  obtain ⟨Q, hQ⟩ : ∃ Q, Q = RdR S R w (.bool (decide (k = 1))) t := ⟨_, rfl⟩
  rw [← hQ]
  have HQ := Lib.hid hQ; clear hQ
  have HN := Lib.hid hn; clear hn ht h
  go_enter Tryz.func44, Tryz.ntmps44
  go_wp2_with (go_at_call 35; refine HN.out.mono ?_; rintro e w1 ⟨rfl, hr, hb⟩; have hr := Lib.hid hr; have hb := Lib.hid hb)
  rw [HQ.out]
  refine ⟨?_, hr.out, hb.out⟩
  have : ((k : Int) == 1) = decide (k = 1) := by
    by_cases h : k = 1
    · subst h; rfl
    · rw [decide_eq_false h, beq_eq_false_iff_ne]; omega
  simp [this]
def needA (n : NeedD) : Value := .agg #[.string (bs n.name), .int .i64 n.way, .string (bs n.ver)]
/-- What a reader of a part gives. -/
def RdK (S : Nat → Prop) (R : Nat) (w : World) (v : Value) (t : RSt) (e : Ending) (w' : World) : Prop := e = .returned v ∧ Rd S w' R t ∧ Keep (· ≠ R) w w'
theorem set3 {w : World} {R : Nat} {t : TypeId} {a0 a1 a2 : Value} (hg : w.heap[R]? = some (.cells #[a0, a1, a2] t (0, 0))) (v0 v1 v2 : Value) :
    (((w.setCell ⟨R, 0, none⟩ v0).setCell ⟨R, 1, none⟩ v1).setCell ⟨R, 2, none⟩ v2).heap[R]? = some (.cells #[v0, v1, v2] t (0, 0)) ∧
    But R w (((w.setCell ⟨R, 0, none⟩ v0).setCell ⟨R, 1, none⟩ v1).setCell ⟨R, 2, none⟩ v2) := by
  refine ⟨?_, (((But.refl R w).setCell 0 _).setCell 1 _).setCell 2 _⟩
  rw [setCell_row (setCell_row (setCell_row hg _) _) _]
  rfl
set_option maxHeartbeats 1600000 in
theorem one_text2 (S : Nat → Prop) (R : Nat) (s : RSt) (w : World) (h : Rd S w R s) (hs : s.1.length ≤ 1099511627776) :
    Calls Tryz.prog 41 #[.pointer (some ⟨R, 0, none⟩)] w (RdK S R w (.string (bs (oneText 12 s).1)) (oneText 12 s).2) := by
  obtain ⟨Q, hQ⟩ : ∃ Q, Q = RdK S R w (.string (bs (oneText 12 s).1)) (oneText 12 s).2 := ⟨_, rfl⟩
  rw [← hQ]
  have HQ := Lib.hid hQ; clear hQ
  have hn := rd_text S R 12 s w h hs (by omega)
  have HN := Lib.hid hn; clear hn h
  go_enter Tryz.func41, Tryz.ntmps41
  go_wp2_with (go_at_call 36; refine HN.out.mono ?_; rintro e w1 ⟨rfl, hr, hb⟩; have hr := Lib.hid hr; have hb := Lib.hid hb)
  rw [HQ.out]
  exact ⟨rfl, hr.out, Keep.of_but hb.out⟩
theorem one_text4 (S : Nat → Prop) (R : Nat) (s : RSt) (w : World) (h : Rd S w R s) (hs : s.1.length ≤ 1099511627776) :
    Calls Tryz.prog 46 #[.pointer (some ⟨R, 0, none⟩)] w (RdK S R w (.string (bs (oneText 300 s).1)) (oneText 300 s).2) := by
  obtain ⟨Q, hQ⟩ : ∃ Q, Q = RdK S R w (.string (bs (oneText 300 s).1)) (oneText 300 s).2 := ⟨_, rfl⟩
  rw [← hQ]
  have HQ := Lib.hid hQ; clear hQ
  have hn := rd_text S R 300 s w h hs (by omega)
  have HN := Lib.hid hn; clear hn h
  go_enter Tryz.func46, Tryz.ntmps46
  go_wp2_with (go_at_call 36; refine HN.out.mono ?_; rintro e w1 ⟨rfl, hr, hb⟩; have hr := Lib.hid hr; have hb := Lib.hid hb)
  rw [HQ.out]
  exact ⟨rfl, hr.out, Keep.of_but hb.out⟩
set_option maxHeartbeats 3200000 in
theorem one_need (S : Nat → Prop) (R : Nat) (s : RSt) (w : World) (hS : ∀ k, S k → k < R) (h : Rd S w R s) (hs : s.1.length ≤ 1099511627776) :
    Calls Tryz.prog 39 #[.pointer (some ⟨R, 0, none⟩)] w (RdK S R w (needA (oneNeed s).1) (oneNeed s).2) := by
  obtain ⟨p1, t1, h1⟩ : ∃ p1 t1, rRaw 12 s = (p1, t1) := ⟨_, _, rfl⟩
  obtain ⟨k2, t2, h2⟩ : ∃ k2 t2, rNum 3 t1 = (k2, t2) := ⟨_, _, rfl⟩
  obtain ⟨p3, t3, h3⟩ : ∃ p3 t3, rRaw 30 t2 = (p3, t3) := ⟨_, _, rfl⟩
  have ho : oneNeed s = (⟨p1, k2, p3⟩, t3) := by unfold oneNeed; rw [h1]; simp only [h2, h3]
  have l1 : t1.1.length ≤ s.1.length := by have := (rRaw_len 12 s).1; rw [h1] at this; exact this
  have l2 : t2.1.length ≤ t1.1.length := by have := rNum_len 3 t1; rw [h2] at this; exact this
  have n1 := fun W h => rd_text S R 12 s W h (by omega) (by omega)
  have n2 := fun W h => rd_num S R 3 t1 W h (by omega) (by omega)
  have n3 := fun W h => rd_text S R 30 t2 W h (by omega) (by omega)
  rw [h1] at n1
  rw [h2] at n2
  rw [h3] at n3
  rw [ho]
  simp only at n1 n2 n3 ⊢
  obtain ⟨Q, hQ⟩ : ∃ Q, Q = RdK S R w (needA ⟨p1, k2, p3⟩) t3 := ⟨_, rfl⟩
  rw [← hQ]
  have HQ := Lib.hid hQ; clear hQ
  have N1 := Lib.hid n1; clear n1
  have N2 := Lib.hid n2; clear n2
  have N3 := Lib.hid n3; clear n3
  have hlt := h.lt
  have H := Lib.hid h; clear h h1 h2 h3 ho
  go_enter Tryz.func39, Tryz.ntmps39
  go_wp2_with (first
    | (go_at_call_of 35 (Value.pointer (some ⟨R, 0, none⟩)); refine (N2.out _ hr1.out).mono ?_; rintro e w2 ⟨rfl, hr2, hb2⟩; have hr2 := Lib.hid hr2; have hb2 := Lib.hid hb2)
    | (go_at_call 36; first
        | (refine (N3.out _ hr2.out).mono ?_; rintro e w3 ⟨rfl, hr3, hb3⟩; have hkk : Keep (· ≠ R) (w.alloc _) w3 := (Keep.of_but hb1.out).trans ((Keep.of_but hb2.out).trans (Keep.of_but hb3)); have hg := hkk.heap (g := w.heap.size) (by omega) (heap_alloc_new w _); have c0 := blk_cell hg 0 _ rfl; have c1 := blk_cell hg 1 _ rfl; have c2 := blk_cell hg 2 _ rfl; have f0 := blk_free hg 0; have f1 := blk_free hg 1; have f2 := blk_free hg 2; have hr3 := Lib.hid hr3; have HG := Lib.hid hg; have HK := Lib.hid hkk; clear hg hkk)
        | (refine (N1.out _ (H.out.ext (Ext.alloc w _))).mono ?_; rintro e w1 ⟨rfl, hr1, hb1⟩; have hr1 := Lib.hid hr1; have hb1 := Lib.hid hb1)))
  obtain ⟨hs3, hbut⟩ := set3 HG.out (.string (bs p1)) (.int .i64 (k2 : Int)) (.string (bs p3))
  generalize (((w3.setCell ⟨w.heap.size, 0, none⟩ (.string (bs p1))).setCell ⟨w.heap.size, 1, none⟩ (.int .i64 (k2 : Int))).setCell ⟨w.heap.size, 2, none⟩ (.string (bs p3))) = wf at hs3 hbut ⊢
  clear c0 c1 c2 f0 f1 f2
  have c0 := blk_cell hs3 0 _ rfl
  have c1 := blk_cell hs3 1 _ rfl
  have c2 := blk_cell hs3 2 _ rfl
  refine bodyPost_ret (v := .agg #[.string (bs p1), .int .i64 (k2 : Int), .string (bs p3)]) (by simp [results, Tryz.results39, go_sem, c0, c1, c2]) rfl ?_
  rw [HQ.out]
  have hk2 := Keep.of_but hbut
  refine ⟨rfl, hr3.out.keep hk2 (show R ≠ w.heap.size by omega) (fun g _ hg => by have := hS g hg; show g ≠ w.heap.size; omega), ?_⟩
  exact ((Keep.of_ext (S := fun k => k ≠ R ∧ k ≠ w.heap.size) (Ext.alloc w _)).trans ((HK.out.mono (fun _ _ h => h.1)).trans (hk2.mono (fun _ _ h => h.2)))).mono (fun k hk h => ⟨h, by omega⟩)
def fileA (f : FileD) (d : Option Addr) (c : Nat) : Value := .agg #[.string (bs f.path), .bool f.config, .slice d f.data.length c]
/-- What a reader of a file gives. -/
def RdF (S : Nat → Prop) (R : Nat) (w : World) (f : FileD) (t : RSt) (e : Ending) (w' : World) : Prop := ∃ d c, e = .returned (fileA f d c) ∧ f.data.length ≤ c ∧ OwnB w' w.heap.size d c f.data ∧ Rd S w' R t ∧ Keep (· ≠ R) w w'
set_option maxHeartbeats 3200000 in
theorem one_file (S : Nat → Prop) (R : Nat) (s : RSt) (w : World) (hS : ∀ k, S k → k < R) (h : Rd S w R s) (hs : s.1.length ≤ 1099511627776) :
    Calls Tryz.prog 43 #[.pointer (some ⟨R, 0, none⟩)] w (RdF S R w (oneFile s).1 (oneFile s).2) := by
  obtain ⟨p1, t1, h1⟩ : ∃ p1 t1, rRaw 40 s = (p1, t1) := ⟨_, _, rfl⟩
  obtain ⟨k2, t2, h2⟩ : ∃ k2 t2, rNum 1 t1 = (k2, t2) := ⟨_, _, rfl⟩
  obtain ⟨p3, t3, h3⟩ : ∃ p3 t3, rRaw 512 t2 = (p3, t3) := ⟨_, _, rfl⟩
  obtain ⟨b2, hb2⟩ : ∃ b2 : Bool, b2 = decide (k2 = 1) := ⟨_, rfl⟩
  have ho : oneFile s = (⟨p1, b2, p3⟩, t3) := by unfold oneFile; rw [h1]; simp only [h2, h3, hb2]
  have l1 : t1.1.length ≤ s.1.length := by have := (rRaw_len 40 s).1; rw [h1] at this; exact this
  have l2 : t2.1.length ≤ t1.1.length := by have := rNum_len 1 t1; rw [h2] at this; exact this
  have n1 := fun W h => rd_text S R 40 s W h (by omega) (by omega)
  have n2 := fun W h => rd_truth S R t1 W h (by omega)
  have n3 := fun W h => rd_raw S R 512 t2 W h (by omega) (by omega)
  rw [h1] at n1
  rw [h2] at n2
  rw [h3] at n3
  rw [ho]
  simp only at n1 n2 n3 ⊢
  rw [← hb2] at n2
  obtain ⟨Q, hQ⟩ : ∃ Q, Q = RdF S R w ⟨p1, b2, p3⟩ t3 := ⟨_, rfl⟩
  rw [← hQ]
  have HQ := Lib.hid hQ; clear hQ
  have N1 := Lib.hid n1; clear n1
  have N2 := Lib.hid n2; clear n2
  have N3 := Lib.hid n3; clear n3
  have hlt := h.lt
  have H := Lib.hid h; clear h h1 h2 h3 ho hb2
  go_enter Tryz.func43, Tryz.ntmps43
  go_wp2_with (first
    | (go_at_call 36; refine (N1.out _ (H.out.ext (Ext.alloc w _))).mono ?_; rintro e w1 ⟨rfl, hr1, hb1⟩; have hr1 := Lib.hid hr1; have hb1 := Lib.hid hb1)
    | (go_at_call 44; refine (N2.out _ hr1.out).mono ?_; rintro e w2 ⟨rfl, hr2, hb2⟩; have hr2 := Lib.hid hr2; have hb2 := Lib.hid hb2)
    | (go_at_call 45; refine (N3.out _ hr2.out).mono ?_; rintro e w3 ⟨d3, q3, rfl, hdc, hown, hr3, hb3⟩; have hz2 := (Keep.of_but hb1.out).size; have hz3 := (Keep.of_but hb2.out).size; have hz4 := (Keep.of_but hb3).size; rw [World.size_alloc] at hz2; have hkk : Keep (· ≠ R) (w.alloc _) w3 := (Keep.of_but hb1.out).trans ((Keep.of_but hb2.out).trans (Keep.of_but hb3)); have hg := hkk.heap (g := w.heap.size) (by omega) (heap_alloc_new w _); have c0 := blk_cell hg 0 _ rfl; have c1 := blk_cell hg 1 _ rfl; have c2 := blk_cell hg 2 _ rfl; have f0 := blk_free hg 0; have f1 := blk_free hg 1; have f2 := blk_free hg 2; have hr3 := Lib.hid hr3; have HG := Lib.hid hg; have HK := Lib.hid hkk; have HO := Lib.hid hown; clear hg hkk hown))
  obtain ⟨hs3, hbut⟩ := set3 HG.out (.string (bs p1)) (.bool b2) (.slice d3 p3.length q3)
  generalize (((w3.setCell ⟨w.heap.size, 0, none⟩ (.string (bs p1))).setCell ⟨w.heap.size, 1, none⟩ (.bool b2)).setCell ⟨w.heap.size, 2, none⟩ (.slice d3 p3.length q3)) = wf at hs3 hbut ⊢
  clear c0 c1 c2 f0 f1 f2
  have c0 := blk_cell hs3 0 _ rfl
  have c1 := blk_cell hs3 1 _ rfl
  have c2 := blk_cell hs3 2 _ rfl
  refine bodyPost_ret (v := .agg #[.string (bs p1), .bool b2, .slice d3 p3.length q3]) (by simp [results, Tryz.results43, go_sem, c0, c1, c2]) rfl ?_
  rw [HQ.out]
  have hk2 := Keep.of_but hbut
  refine ⟨d3, q3, rfl, hdc, ?_, hr3.out.keep hk2 (show R ≠ w.heap.size by omega) (fun g _ hg => by have := hS g hg; show g ≠ w.heap.size; omega), ?_⟩
  · exact (HO.out.but_lt hbut (by omega)).base (by omega)
  · exact ((Keep.of_ext (S := fun k => k ≠ R ∧ k ≠ w.heap.size) (Ext.alloc w _)).trans ((HK.out.mono (fun _ _ h => h.1)).trans (hk2.mono (fun _ _ h => h.2)))).mono (fun k hk h => ⟨h, by omega⟩)
end Go.Proofs.YtpfcofjianmeaaaGreatDoor
