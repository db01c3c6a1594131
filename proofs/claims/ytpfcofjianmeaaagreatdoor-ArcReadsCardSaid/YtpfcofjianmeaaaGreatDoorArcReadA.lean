/- arc.Read: the package that bytes are. -/
import Derived.Test.YtpfcofjianmeaaaGreatDoorArcRight
import Derived.Test.YtpfcofjianmeaaaGreatDoorArcEach
import Derived.Test.YtpfcofjianmeaaaGreatDoorArcRow
import Derived.Test.YtpfcofjianmeaaaGreatDoorArcFit
import Derived.Test.YtpfcofjianmeaaaGreatDoorCrc
import Derived.Deep.RegionHeld3
namespace Go.Proofs.YtpfcofjianmeaaaGreatDoor
open Go.RowKit
attribute [local go_sem ↓] Go.wp_at_zero Go.wp_at_succ
theorem Bytes.drop {w : World} {g off : Nat} {l : List UInt8} (h : Bytes w (some ⟨g, off, none⟩) l) (n : Nat) : Bytes w (some ⟨g, off + n, none⟩) (l.drop n) := by
  rcases h with h | ⟨g2, off2, ha, hg, hc⟩
  · subst h; exact Or.inl (by simp)
  · simp only [Option.some.injEq, Addr.mk.injEq, and_true] at ha
    obtain ⟨rfl, rfl⟩ := ha
    refine Or.inr ⟨g, off + n, rfl, hg, fun i hi => ?_⟩
    have hi' : n + i < l.length := by simp at hi; omega
    have := hc (n + i) hi'
    rw [Nat.add_assoc, this]
    simp [byteAt]
theorem set6 {w : World} {R : Nat} {t : TypeId} {a0 a1 a2 a3 a4 a5 : Value} (hg : w.heap[R]? = some (.cells #[a0, a1, a2, a3, a4, a5] t (0, 0))) (v0 v1 v2 v3 v4 v5 : Value) :
    ((((((w.setCell ⟨R, 0, none⟩ v0).setCell ⟨R, 1, none⟩ v1).setCell ⟨R, 2, none⟩ v2).setCell ⟨R, 3, none⟩ v3).setCell ⟨R, 4, none⟩ v4).setCell ⟨R, 5, none⟩ v5).heap[R]? = some (.cells #[v0, v1, v2, v3, v4, v5] t (0, 0)) ∧
    But R w ((((((w.setCell ⟨R, 0, none⟩ v0).setCell ⟨R, 1, none⟩ v1).setCell ⟨R, 2, none⟩ v2).setCell ⟨R, 3, none⟩ v3).setCell ⟨R, 4, none⟩ v4).setCell ⟨R, 5, none⟩ v5) := by
  refine ⟨?_, ((((((But.refl R w).setCell 0 _).setCell 1 _).setCell 2 _).setCell 3 _).setCell 4 _).setCell 5 _⟩
  rw [setCell_row (setCell_row (setCell_row (setCell_row (setCell_row (setCell_row hg _) _) _) _) _) _]
  rfl
theorem any_world {P S : World → Prop} (W : World) (hs : S W) (h : ∀ W, S W → P W) : P W := h W hs
/-- What Read answers. -/
def ReadR (b : By) (w : World) (e : Ending) (w' : World) : Prop :=
  ∃ A, e = .returned (.tuple #[pkgV (readP b).1 A, .int .i64 ((readP b).2 : Nat)]) ∧ PkgM w' (readP b).1 A ∧ PkgC (readP b).1 A ∧ Ext w w'
def pkgZ : Value := .agg #[.string ⟨#[]⟩, .string ⟨#[]⟩, .slice none 0 0, .slice none 0 0, .slice none 0 0, .slice none 0 0]
theorem ReadR.bad {b : By} {w w' : World} {n : Nat} (h : readP b = (pz, n)) (hx : Ext w w') : ReadR b w (.returned (.tuple #[pkgZ, .int .i64 (n : Nat)])) w' := by
  refine ⟨⟨none, none, none, none, 0, 0, 0, 0⟩, ?_, ?_, ?_, hx⟩
  · rw [h]; rfl
  · rw [h]; exact ⟨NeedsM.nil _ _, Or.inl rfl, FilesM.nil _ _, Or.inl rfl⟩
  · rw [h]; exact ⟨Nat.le_refl _, Nat.le_refl _, Nat.le_refl _, Nat.le_refl _⟩
set_option maxRecDepth 100000 in
set_option maxHeartbeats 6400000 in
theorem arc_read_short (a : Option Addr) (c : Nat) (b : By) (w : World) (hl : b.length < 4) :
    Calls Tryz.prog 11 #[.slice a b.length c] w (ReadR b w) := by
  have hr : readP b = (pz, 5) := by unfold readP; rw [if_pos hl]
  obtain ⟨Q, hQ⟩ : ∃ Q, Q = ReadR b w := ⟨_, rfl⟩
  rw [← hQ]
  have HQ := Lib.hid hQ; clear hQ
  have HR := Lib.hid hr; clear hr
  obtain ⟨n, hn⟩ : ∃ n : Nat, n = b.length := ⟨_, rfl⟩
  rw [← hn] at hl ⊢
  clear hn
  have h0 : ((n : Int) - 4 < 0) := by omega
  have h0b : decide ((n : Int) - 4 < 0) = true := decide_eq_true h0
  have h0c : decide ((n : Int) < 4) = true := decide_eq_true (by omega)
  have hx0 : Ext w (w.alloc (.cells #[.string ⟨#[]⟩, .string ⟨#[]⟩, .slice none 0 0, .slice none 0 0, .slice none 0 0, .slice none 0 0] 26)) := Ext.alloc _ _
  have hbx := heap_alloc_new w (.cells #[.string ⟨#[]⟩, .string ⟨#[]⟩, .slice none 0 0, .slice none 0 0, .slice none 0 0, .slice none 0 0] 26)
  go_enter Tryz.func11, Tryz.ntmps11
  go_upto_region 1 with (fail)
  generalize w.alloc (.cells #[.string ⟨#[]⟩, .string ⟨#[]⟩, .slice none 0 0, .slice none 0 0, .slice none 0 0, .slice none 0 0] 26) = wz at hx0 hbx ⊢
  go_upto_region 2 with (fail)
  have hz0 : Ext wz wz.drew := (Ext.refl wz).drew
  refine wp_region_noPanic ?_
  refine wp_region_held_drew (S := fun w' => Ext wz w') (by kernel_rfl) hz0 (fun hHeld => ?_)
  refine wpAnyH_take (i := 0) (v := ?v100) rfl (by kernel_rfl) (by kernel_rfl) (by kernel_rfl) (fun _ _ _ h => h) (Or.inl ⟨by kernel_rfl, ?hy100⟩) (by assumption) ?rest100
  case hy100 => (intro wq hSw; (try dsimp only at hSw); first | (go_simp; done) | (go_simp; with_reducible rfl))
  try simp only [List.getElem_toArray, List.getElem_cons_zero, List.getElem_cons_succ, Act.put, List.setIfInBounds_toArray, List.set_cons_zero, List.set_cons_succ]
  refine wpAnyH_take (i := 1) (v := ?v101) rfl (by kernel_rfl) (by kernel_rfl) (by kernel_rfl) (fun _ _ _ h => h) (Or.inl ⟨by kernel_rfl, ?hy101⟩) (by assumption) ?rest101
  case hy101 => (intro wq hSw; (try dsimp only at hSw); first | (go_simp; done) | (go_simp; with_reducible rfl))
  try simp only [List.getElem_toArray, List.getElem_cons_zero, List.getElem_cons_succ, Act.put, List.setIfInBounds_toArray, List.set_cons_zero, List.set_cons_succ]
  refine wpAnyH_take (i := 2) (v := ?v102) rfl (by kernel_rfl) (by kernel_rfl) (by kernel_rfl) (fun _ _ _ h => h) (Or.inl ⟨by kernel_rfl, ?hy102⟩) (by assumption) ?rest102
  case hy102 => (intro wq hSw; (try dsimp only at hSw); first | (go_simp; done) | (go_simp; with_reducible rfl))
  try simp only [List.getElem_toArray, List.getElem_cons_zero, List.getElem_cons_succ, Act.put, List.setIfInBounds_toArray, List.set_cons_zero, List.set_cons_succ]
  refine wpAnyH_take (i := 3) (v := undef) rfl (by kernel_rfl) (by kernel_rfl) (by kernel_rfl) (fun _ _ _ h => h) (Or.inr ⟨by kernel_rfl, rfl⟩) (by assumption) ?_
  try simp only [List.getElem_toArray, List.getElem_cons_zero, List.getElem_cons_succ, Act.put, List.setIfInBounds_toArray, List.set_cons_zero, List.set_cons_succ]
  refine wpAnyH_take (i := 4) (v := undef) rfl (by kernel_rfl) (by kernel_rfl) (by kernel_rfl) (fun _ _ _ h => h) (Or.inr ⟨by kernel_rfl, rfl⟩) (by assumption) ?_
  try simp only [List.getElem_toArray, List.getElem_cons_zero, List.getElem_cons_succ, Act.put, List.setIfInBounds_toArray, List.set_cons_zero, List.set_cons_succ]
  refine wpAnyH_take (i := 5) (v := undef) rfl (by kernel_rfl) (by kernel_rfl) (by kernel_rfl) (fun _ _ _ h => h) (Or.inr ⟨by kernel_rfl, rfl⟩) (by assumption) ?_
  try simp only [List.getElem_toArray, List.getElem_cons_zero, List.getElem_cons_succ, Act.put, List.setIfInBounds_toArray, List.set_cons_zero, List.set_cons_succ]
  refine wpAnyH_take (i := 6) (v := undef) rfl (by kernel_rfl) (by kernel_rfl) (by kernel_rfl) (fun _ _ _ h => h) (Or.inr ⟨by kernel_rfl, rfl⟩) (by assumption) ?_
  try simp only [List.getElem_toArray, List.getElem_cons_zero, List.getElem_cons_succ, Act.put, List.setIfInBounds_toArray, List.set_cons_zero, List.set_cons_succ]
  refine wpAnyH_take (i := 7) (v := undef) rfl (by kernel_rfl) (by kernel_rfl) (by kernel_rfl) (fun _ _ _ h => h) (Or.inr ⟨by kernel_rfl, rfl⟩) (by assumption) ?_
  try simp only [List.getElem_toArray, List.getElem_cons_zero, List.getElem_cons_succ, Act.put, List.setIfInBounds_toArray, List.set_cons_zero, List.set_cons_succ]
  refine wpAnyH_take (i := 8) (v := undef) rfl (by kernel_rfl) (by kernel_rfl) (by kernel_rfl) (fun _ _ _ h => h) (Or.inr ⟨by kernel_rfl, rfl⟩) (by assumption) ?_
  try simp only [List.getElem_toArray, List.getElem_cons_zero, List.getElem_cons_succ, Act.put, List.setIfInBounds_toArray, List.set_cons_zero, List.set_cons_succ]
  refine wpAnyH_take (i := 9) (v := undef) rfl (by kernel_rfl) (by kernel_rfl) (by kernel_rfl) (fun _ _ _ h => h) (Or.inr ⟨by kernel_rfl, rfl⟩) (by assumption) ?_
  try simp only [List.getElem_toArray, List.getElem_cons_zero, List.getElem_cons_succ, Act.put, List.setIfInBounds_toArray, List.set_cons_zero, List.set_cons_succ]
  refine wpAnyH_take (i := 10) (v := undef) rfl (by kernel_rfl) (by kernel_rfl) (by kernel_rfl) (fun _ _ _ h => h) (Or.inr ⟨by kernel_rfl, rfl⟩) (by assumption) ?_
  try simp only [List.getElem_toArray, List.getElem_cons_zero, List.getElem_cons_succ, Act.put, List.setIfInBounds_toArray, List.set_cons_zero, List.set_cons_succ]
  refine wpAnyH_take (i := 11) (v := undef) rfl (by kernel_rfl) (by kernel_rfl) (by kernel_rfl) (fun _ _ _ h => h) (Or.inr ⟨by kernel_rfl, rfl⟩) (by assumption) ?_
  try simp only [List.getElem_toArray, List.getElem_cons_zero, List.getElem_cons_succ, Act.put, List.setIfInBounds_toArray, List.set_cons_zero, List.set_cons_succ]
  refine wpAnyH_take (i := 12) (v := undef) rfl (by kernel_rfl) (by kernel_rfl) (by kernel_rfl) (fun _ _ _ h => h) (Or.inr ⟨by kernel_rfl, rfl⟩) (by assumption) ?_
  try simp only [List.getElem_toArray, List.getElem_cons_zero, List.getElem_cons_succ, Act.put, List.setIfInBounds_toArray, List.set_cons_zero, List.set_cons_succ]
  refine wpAnyH_take (i := 13) (v := undef) rfl (by kernel_rfl) (by kernel_rfl) (by kernel_rfl) (fun _ _ _ h => h) (Or.inr ⟨by kernel_rfl, rfl⟩) (by assumption) ?_
  try simp only [List.getElem_toArray, List.getElem_cons_zero, List.getElem_cons_succ, Act.put, List.setIfInBounds_toArray, List.set_cons_zero, List.set_cons_succ]
  refine wpAnyH_take (i := 14) (v := undef) rfl (by kernel_rfl) (by kernel_rfl) (by kernel_rfl) (fun _ _ _ h => h) (Or.inr ⟨by kernel_rfl, rfl⟩) (by assumption) ?_
  try simp only [List.getElem_toArray, List.getElem_cons_zero, List.getElem_cons_succ, Act.put, List.setIfInBounds_toArray, List.set_cons_zero, List.set_cons_succ]
  refine wpAnyH_take (i := 15) (v := ?v115) rfl (by kernel_rfl) (by kernel_rfl) (by kernel_rfl) (fun _ _ _ h => h) (Or.inl ⟨by kernel_rfl, ?hy115⟩) (by assumption) ?rest115
  case hy115 => (intro wq hSw; (try dsimp only at hSw); first | (go_simp; done) | (go_simp; with_reducible rfl))
  try simp only [List.getElem_toArray, List.getElem_cons_zero, List.getElem_cons_succ, Act.put, List.setIfInBounds_toArray, List.set_cons_zero, List.set_cons_succ]
  refine wpAnyH_done (by kernel_rfl) ?_ _
  refine NoPanic.normal ?_
  generalize wz.drew = wd at hz0 ⊢
  have hbw := hz0.heap hbx
  have c0 := blk_cell hbw 0 _ rfl
  have c1 := blk_cell hbw 1 _ rfl
  have c2 := blk_cell hbw 2 _ rfl
  have c3 := blk_cell hbw 3 _ rfl
  have c4 := blk_cell hbw 4 _ rfl
  have c5 := blk_cell hbw 5 _ rfl
  have f0 := blk_free hbw 0
  have f1 := blk_free hbw 1
  have f2 := blk_free hbw 2
  have f3 := blk_free hbw 3
  have f4 := blk_free hbw 4
  have f5 := blk_free hbw 5
  go_wp2_with fail
  obtain ⟨hs6, hbut⟩ := set6 hbw (.string ⟨#[]⟩) (.string ⟨#[]⟩) (.slice none 0 0) (.slice none 0 0) (.slice none 0 0) (.slice none 0 0)
  generalize ((((((wd.setCell ⟨w.heap.size, 0, none⟩ (.string ⟨#[]⟩)).setCell ⟨w.heap.size, 1, none⟩ (.string ⟨#[]⟩)).setCell ⟨w.heap.size, 2, none⟩ (.slice none 0 0)).setCell ⟨w.heap.size, 3, none⟩ (.slice none 0 0)).setCell ⟨w.heap.size, 4, none⟩ (.slice none 0 0)).setCell ⟨w.heap.size, 5, none⟩ (.slice none 0 0)) = wf at hs6 hbut ⊢
  clear c0 c1 c2 c3 c4 c5 f0 f1 f2 f3 f4 f5
  have c0 := blk_cell hs6 0 _ rfl
  have c1 := blk_cell hs6 1 _ rfl
  have c2 := blk_cell hs6 2 _ rfl
  have c3 := blk_cell hs6 3 _ rfl
  have c4 := blk_cell hs6 4 _ rfl
  have c5 := blk_cell hs6 5 _ rfl
  refine bodyPost_ret (v := .tuple #[pkgZ, .int .i64 5]) (by simp [pkgZ, results, Tryz.results11, go_sem, c0, c1, c2, c3, c4, c5]) rfl ?_
  rw [HQ.out]
  exact ReadR.bad HR.out (((Keep.of_ext (hx0.trans hz0)).trans ((Keep.of_but hbut).mono (fun k _ hk => by show k ≠ w.heap.size; have : k < w.heap.size := hk; omega))).ext_lt)
set_option maxRecDepth 100000 in
set_option maxHeartbeats 6400000 in
theorem arc_read_sum (g off c : Nat) (b : By) (w : World) (hb : Bytes w (some ⟨g, off, none⟩) b) (hc : b.length ≤ c) (hl : 4 ≤ b.length) (hm : b.length ≤ 100000) (hs : le32 (b.drop (b.length - 4)) ≠ (crcL (b.take (b.length - 4))).toNat) :
    Calls Tryz.prog 11 #[.slice (some ⟨g, off, none⟩) b.length c] w (ReadR b w) := by
  have hr : readP b = (pz, 5) := by unfold readP; rw [if_neg (by omega), if_pos hs]
  obtain ⟨Q, hQ⟩ : ∃ Q, Q = ReadR b w := ⟨_, rfl⟩
  rw [← hQ]
  have HQ := Lib.hid hQ; clear hQ
  have HR := Lib.hid hr; clear hr
  obtain ⟨m, hmb⟩ : ∃ m, b.length = m + 4 := ⟨b.length - 4, by omega⟩
  rw [show b.length - 4 = m by omega] at hs
  rw [hmb] at hc hm ⊢
  have HS := Lib.hid hs; clear hs hl
  have HMB := Lib.hid hmb; clear hmb
  have HB := Lib.hid hb; clear hb
  have h0 : ((m : Int) + 4 - 4 = m) := by omega
  have h0b : decide (((m + 4 : Nat) : Int) - 4 < 0) = false := decide_eq_false (by omega)
  have hx0 : Ext w (w.alloc (.cells #[.string ⟨#[]⟩, .string ⟨#[]⟩, .slice none 0 0, .slice none 0 0, .slice none 0 0, .slice none 0 0] 26)) := Ext.alloc _ _
  have hbx := heap_alloc_new w (.cells #[.string ⟨#[]⟩, .string ⟨#[]⟩, .slice none 0 0, .slice none 0 0, .slice none 0 0, .slice none 0 0] 26)
  go_enter Tryz.func11, Tryz.ntmps11
  go_upto_region 1 with (fail)
  generalize w.alloc (.cells #[.string ⟨#[]⟩, .string ⟨#[]⟩, .slice none 0 0, .slice none 0 0, .slice none 0 0, .slice none 0 0] 26) = wz at hx0 hbx ⊢
  go_upto_region 2 with (fail)
  have hz0 : Ext wz wz.drew := (Ext.refl wz).drew
  have hd4 : (b.drop m).length = 4 := by rw [List.length_drop, HMB.out]; omega
  have ht4 : (b.take m).length = m := by rw [List.length_take, HMB.out]; omega
  have hrd := fun W (k : Ext wz W) => rec_read (some ⟨g, off + m, none⟩) (c - m) (b.drop m) W ((HB.out.ext (hx0.trans k)).drop m) (by omega)
  rw [hd4] at hrd
  have hnum := fun S R W h => rd_num S R 4294967295 (b.drop m, false) W h (by simp only; omega) (Nat.le_refl _)
  have hle : le32 (b.drop m) < 4294967296 := le32_lt _
  have hn1 : rNum 4294967295 (b.drop m, false) = (le32 (b.drop m), ((b.drop m).drop 4, false)) := rNum_ok (by simp only; omega) (by simp only; omega)
  rw [hn1] at hnum
  simp only at hnum
  have hcr := fun B W (hW : W.cell? ⟨B, 0, none⟩ = some (.slice (some ⟨g, off, none⟩) (b.take m).length c)) (k : Ext wz W) => crc_of B 0 c (some ⟨g, off, none⟩) (b.take m) W hW ((HB.out.ext (hx0.trans k)).take m) (by omega)
  rw [ht4] at hcr
  have hS := HS.out
  generalize le32 (b.drop m) = x at hnum hS
  have hyb : (crcL (b.take m)).toNat < 4294967296 := (crcL (b.take m)).isLt
  generalize (crcL (b.take m)).toNat = y at hcr hS hyb
  have hwy : IntKind.i64.wrap (y : Int) = (y : Int) := IntWalk.i64_in _ (by omega)
  have hne3 : ((x : Int) != (y : Int)) = true := by rw [bne_iff_ne]; omega
  have hne : ((x : Int) == (y : Int)) = false := by rw [beq_eq_false_iff_ne]; omega
  have hne2 : decide ((x : Int) = (y : Int)) = false := decide_eq_false (by omega)
  have HRD := Lib.hid hrd; clear hrd
  have HNUM := Lib.hid hnum; clear hnum
  have HCR := Lib.hid hcr; clear hcr hn1 hle
  have hi1 : (m : Int) ≤ (m : Int) + 4 := by omega
  have hi2 : (m : Int) + 4 ≤ (c : Int) := by omega
  have hi3 : (m : Int) ≤ (c : Int) := by omega
  have hcm : ¬ c = m := by omega
  have h0d : decide ((m : Int) < 0) = false := decide_eq_false (by omega)
  go_region_held3 (fun w' => Ext wz w')
    (first | exact hz0 | assumption | exact Ext.trans (by assumption : Ext wz _) (Ext.alloc _ _))
    (first
      | (go_at_call 34; refine (HRD.out _ (by assumption)).mono ?_; rintro e w1 ⟨R0, rfl, hR0, X0, hx1⟩; have hr0 := X0.lt; have hR1 := hR0; (try (change (World.alloc wz _).heap.size ≤ R0 at hR1; rw [World.size_alloc] at hR1)); have hR2 : wz.drew.heap.size = wz.heap.size := rfl; have hq0 : wz.heap.size ≤ R0 := Nat.le_trans (Ext.size (by assumption : Ext wz _)) hR0; have hS1 := Ext.trans (by assumption : Ext wz _) hx1)
      | (go_at_call 35; refine (HNUM.out _ _ _ (by first | exact X0 | exact X0.ext (Ext.alloc _ _))).mono ?_; rintro e w2 ⟨rfl, X1, hb2⟩; have hS2 : Ext wz w2 := Keep.ext_lt (Keep.trans (Keep.of_ext (by first | exact hS1 | exact hS1.trans (Ext.alloc _ _))) ((Keep.of_but hb2).mono (fun k _ hk => by show k ≠ R0; have : k < wz.heap.size := hk; omega))))
      | (go_at_call 17; refine (HCR.out _ _ (by first | exact cell_new _ _ _ 0 _ rfl | exact But.cell hb2 (by omega) (cell_new _ _ _ 0 _ rfl) | exact But.cell hb2 (by omega) (Ext.cell hx1 (cell_new _ _ _ 0 _ rfl))) (by assumption)).mono ?_; rintro e w3 ⟨rfl, rfl⟩))
  all_goals
    refine any_world (S := fun W => Ext wz W) _ (by first | assumption | exact hS2.trans (Ext.alloc _ _)) (fun wd hz1 => ?_)
    have hbw := hz1.heap hbx
    have c0 := blk_cell hbw 0 _ rfl
    have c1 := blk_cell hbw 1 _ rfl
    have c2 := blk_cell hbw 2 _ rfl
    have c3 := blk_cell hbw 3 _ rfl
    have c4 := blk_cell hbw 4 _ rfl
    have c5 := blk_cell hbw 5 _ rfl
    have f0 := blk_free hbw 0
    have f1 := blk_free hbw 1
    have f2 := blk_free hbw 2
    have f3 := blk_free hbw 3
    have f4 := blk_free hbw 4
    have f5 := blk_free hbw 5
    go_wp2_with fail
    obtain ⟨hs6, hbut⟩ := set6 hbw (.string ⟨#[]⟩) (.string ⟨#[]⟩) (.slice none 0 0) (.slice none 0 0) (.slice none 0 0) (.slice none 0 0)
    generalize ((((((wd.setCell ⟨w.heap.size, 0, none⟩ (.string ⟨#[]⟩)).setCell ⟨w.heap.size, 1, none⟩ (.string ⟨#[]⟩)).setCell ⟨w.heap.size, 2, none⟩ (.slice none 0 0)).setCell ⟨w.heap.size, 3, none⟩ (.slice none 0 0)).setCell ⟨w.heap.size, 4, none⟩ (.slice none 0 0)).setCell ⟨w.heap.size, 5, none⟩ (.slice none 0 0)) = wf at hs6 hbut ⊢
    clear c0 c1 c2 c3 c4 c5 f0 f1 f2 f3 f4 f5
    have c0 := blk_cell hs6 0 _ rfl
    have c1 := blk_cell hs6 1 _ rfl
    have c2 := blk_cell hs6 2 _ rfl
    have c3 := blk_cell hs6 3 _ rfl
    have c4 := blk_cell hs6 4 _ rfl
    have c5 := blk_cell hs6 5 _ rfl
    refine bodyPost_ret (v := .tuple #[pkgZ, .int .i64 5]) (by simp [pkgZ, results, Tryz.results11, go_sem, c0, c1, c2, c3, c4, c5]) rfl ?_
    rw [HQ.out]
    exact ReadR.bad HR.out (((Keep.of_ext (hx0.trans hz1)).trans ((Keep.of_but hbut).mono (fun k _ hk => by show k ≠ w.heap.size; have : k < w.heap.size := hk; omega))).ext_lt)
end Go.Proofs.YtpfcofjianmeaaaGreatDoor
