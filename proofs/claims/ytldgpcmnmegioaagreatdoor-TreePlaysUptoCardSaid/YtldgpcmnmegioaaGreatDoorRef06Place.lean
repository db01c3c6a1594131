/- farrierref06.place: may something be done to a path? -/
import Derived.Test.YtldgpcmnmegioaaGreatDoorRef06Find
import Derived.Test.YtldgpcmnmegioaaGreatDoorM1
import Derived.Deep.DrawnRows
namespace Go.Proofs.YtldgpcmnmegioaaGreatDoor
open Go.RowKit
attribute [local go_sem ↓] Go.wp_at_zero Go.wp_at_succ
theorem ext_below06 {a b c : World} (h : Ext a b) (h2 : Below a.heap.size b c) : Ext a c :=
  ((Keep.of_ext (S := fun j => j < a.heap.size) h).trans ((Keep.of_below h2).mono (fun _ _ hj => hj))).ext_lt
theorem findI_cases (L : List EntD) (p : By) : (findI L p = -1 ∧ L.find? (isP p) = none) ∨ ∃ k : Nat, k < L.length ∧ findI L p = k ∧ L.find? (isP p) = some (L.getD k ez06) ∧ (L.getD k ez06).path = p := by
  unfold findI idxM
  cases h : L.findIdx? (isP p) with
  | none =>
    left
    refine ⟨rfl, ?_⟩
    rw [List.findIdx?_eq_none_iff] at h
    rw [List.find?_eq_none]
    intro x hx
    rw [h x hx]; simp
  | some k =>
    right
    rw [List.findIdx?_eq_some_iff_getElem] at h
    obtain ⟨hk, h1, h2⟩ := h
    have e : L.getD k ez06 = L[k] := by simp [List.getD_eq_getElem?_getD, List.getElem?_eq_getElem hk]
    refine ⟨k, hk, rfl, ?_, ?_⟩
    · rw [e, List.find?_eq_some_iff_getElem]
      exact ⟨h1, k, hk, rfl, fun j hj => by have := h2 j hj; simpa using this⟩
    · rw [e]; simpa [isP] using h1
/-- The error's number of a path that something is done to. -/
def placeL (L : List EntD) (p : By) : Int := match upL p with
  | none => 14
  | some (l, _) => match L.find? (isP (joinP l)) with
    | none => 8
    | some e => if e.dir = true then 0 else 11
theorem placeL_eq (m : RefD) (p : By) : placeL m.list p = placeM m p := rfl
theorem placeL_none {L : List EntD} {p : By} (h : upL p = none) : placeL L p = 14 := by unfold placeL; rw [h]
theorem placeL_miss {L : List EntD} {p : By} {l : List By} {x : By} (h : upL p = some (l, x)) (hf : L.find? (isP (joinP l)) = none) : placeL L p = 8 := by unfold placeL; rw [h]; simp only [hf]
theorem placeL_hit {L : List EntD} {p : By} {l : List By} {x : By} {e : EntD} (h : upL p = some (l, x)) (hf : L.find? (isP (joinP l)) = some e) : placeL L p = if e.dir = true then 0 else 11 := by unfold placeL; rw [h]; simp only [hf]
theorem upL_nil {p : By} (h : pathL p = none) : upL p = none := by unfold upL; rw [h]
theorem upL_root {p : By} (h : pathL p = some []) : upL p = none := by unfold upL; rw [h]
theorem upL_cons {p : By} {a : By} {r : List By} (h : pathL p = some (a :: r)) : upL p = some ((a :: r).take r.length, (a :: r).getD r.length []) := by unfold upL; rw [h]
set_option maxRecDepth 100000 in
set_option maxHeartbeats 6400000 in
theorem ref_place (L : List EntD) (la : Option Addr) (lc : Nat) (fa : Option Addr) (fn fc : Nat) (nx q : Int) (p : By) (w : World) (hE : EntsR w la L) (hl : L.length ≤ 1099511627776) :
    Calls Tryz.prog 27 #[.agg #[.slice la L.length lc, .slice fa fn fc, .int .i64 nx, .int .i64 q], .string (bs p)] w fun e w' => e = .returned (.int .i64 (placeL L p)) ∧ Ext w w' := by
  obtain ⟨R, hR⟩ : ∃ R : Ending → World → Prop, R = fun e w' => e = .returned (.int .i64 (placeL L p)) ∧ Ext w w' := ⟨_, rfl⟩
  rw [← hR]
  have HR := Lib.hid hR; clear hR
  have hfd := fun d W (k : Ext w W) => ref_find L la lc fa fn fc nx q d W (hE.ext k) hl
  have hsp := ref_split (bs p)
  rw [bs_data] at hsp
  have HE := Lib.hid hE; clear hE
  obtain ⟨n, hn⟩ : ∃ n, n = L.length := ⟨_, rfl⟩
  rw [← hn] at hl hfd ⊢
  have HN := Lib.hid hn; clear hn
  have HFD := Lib.hid hfd; clear hfd
  have HSP := Lib.hid hsp; clear hsp
  go_enter Tryz.func27, Tryz.ntmps27
  go_upto_region 1 with fail
  have hx1 := Ext.alloc w (.cells #[.slice la n lc, .slice fa fn fc, .int .i64 nx, .int .i64 q] 30)
  have hf1 := heap_alloc_new w (.cells #[.slice la n lc, .slice fa fn fc, .int .i64 nx, .int .i64 q] 30)
  generalize w.alloc (.cells #[.slice la n lc, .slice fa fn fc, .int .i64 nx, .int .i64 q] 30) = w1 at hx1 hf1 ⊢
  generalize w.heap.size = B at hf1 ⊢
  have HX := Lib.hid hx1; clear hx1
  have HB := Lib.hid hf1; clear hf1
  go_upto_region 2 with (go_at_call 55; refine Hid.out ?_)
  refine Lib.hid ?_
  cases hp : pathL p with
  | none =>
    have HP := Lib.hid hp; clear hp
    have hs := HSP.out w1
    rw [HP.out] at hs
    refine hs.mono ?_
    rintro e w2 ⟨rfl, hx⟩
    have HX2 := Lib.hid (HX.out.trans hx); clear hx hs
    go_wp2_with fail
    rw [HR.out]
    exact ⟨by rw [placeL_none (upL_nil HP.out)]; rfl, HX2.out⟩
  | some NL =>
    have HP := Lib.hid hp; clear hp
    have hs := HSP.out w1
    rw [HP.out] at hs
    refine hs.mono ?_
    rintro e w2 ⟨sa, sc, rfl, hsc, hS, hx⟩
    have HB2 := Lib.hid (hx.heap HB.out)
    have HX2 := Lib.hid (HX.out.trans hx); clear hx hs HB
    cases NL with
    | nil =>
      go_wp2_with fail
      rw [HR.out]
      exact ⟨by rw [placeL_none (upL_root HP.out)]; rfl, HX2.out⟩
    | cons a r =>
      obtain ⟨f1, f2, f3, f4⟩ := pathL_facts HP.out
      have hr : r.length ≤ 4 := by simpa using f1
      have hglue : (glue 47 ((a :: r).take r.length)).length ≤ 40 := by
        refine Nat.le_trans (glue_take_len 47 (a :: r) r.length) ?_
        rcases f4 with ⟨_, h⟩ | ⟨_, _, h, _⟩
        · cases h
        · rw [h]; exact f3
      have hT : Strs w2 sa ((a :: r).take r.length) := by
        rcases hS with h | ⟨g, off, ha, hg, hc⟩
        · cases h
        · refine Or.inr ⟨g, off, ha, hg, fun i hi => ?_⟩
          have hi' : i < r.length := by simpa using hi
          rw [hc i (by simp; omega)]
          congr 3
          simp only [List.getD, List.getElem?_take, if_pos hi']
      have hTl : ((a :: r).take r.length).length = r.length := by simp
      have HU := Lib.hid (upL_cons HP.out)
      have hj := fun W (k : Ext w2 W) => ref_join sa ((a :: r).take r.length) sc W (hT.ext k) (by omega) (by omega)
      rw [hTl] at hj
      generalize (a :: r).take r.length = T at *
      generalize (a :: r).getD r.length [] = y at *
      have hLn : (a :: r).length = r.length + 1 := rfl
      rw [hLn] at hsc ⊢
      obtain ⟨rl, hrl⟩ : ∃ x, x = r.length := ⟨_, rfl⟩
      rw [← hrl] at hr hj hsc ⊢
      clear hTl hT f1 f2 f3 f4 hS hLn hrl hglue
      have HJ := Lib.hid hj; clear hj
      have b1 : (0 : Int) ≤ (rl : Int) := by omega
      have b2 : (rl : Int) ≤ (sc : Int) := by omega
      have hd0 : (((rl + 1 : Nat) : Int) == 0) = false := by simp; omega
      have hw3 : IntKind.i64.wrap (rl : Int) = (rl : Int) := IntWalk.i64_in _ (by omega)
      have hcs : ∀ W, Ext w2 W → (W.cell? ⟨B, 0, none⟩ = some (.slice la n lc) ∧ W.cell? ⟨B, 1, none⟩ = some (.slice fa fn fc) ∧ W.cell? ⟨B, 2, none⟩ = some (.int .i64 nx) ∧ W.cell? ⟨B, 3, none⟩ = some (.int .i64 q)) := fun W k => ⟨blk_cell (k.heap HB2.out) 0 _ rfl, blk_cell (k.heap HB2.out) 1 _ rfl, blk_cell (k.heap HB2.out) 2 _ rfl, blk_cell (k.heap HB2.out) 3 _ rfl⟩
      have HCS := Lib.hid hcs; clear hcs
      have HK := Lib.hid (Ext.refl w2).drew
      go_upto_region 4 with fail
      refine wp_region_noPanic ?_
      refine wp_region_held_drew (S := (fun W => W.cell? ⟨B, 0, none⟩ = some (.slice la n lc) ∧ W.cell? ⟨B, 1, none⟩ = some (.slice fa fn fc) ∧ W.cell? ⟨B, 2, none⟩ = some (.int .i64 nx) ∧ W.cell? ⟨B, 3, none⟩ = some (.int .i64 q))) (by kernel_rfl) (HCS.out _ HK.out) (fun hHeld => ?_)
      clear hHeld
      generalize w2.drew = wc at HK ⊢
      refine wpAnyH_take (i := 0) (v := ?_) rfl (by kernel_rfl) (by kernel_rfl) (by kernel_rfl) (fun _ _ _ h => h) (Or.inl ⟨by kernel_rfl, ?_⟩) (HCS.out _ HK.out) ?_
      rotate_left
      · (intro wq hSw; (try dsimp only at hSw); first | (go_simp; done) | (go_simp; with_reducible rfl))
      try simp only [List.getElem_toArray, List.getElem_cons_zero, Act.put, List.setIfInBounds_toArray, List.set_cons_zero, List.set_cons_succ]
      refine wpAnyH_take (i := 1) (v := ?_) rfl (by kernel_rfl) (by kernel_rfl) (by kernel_rfl) (fun _ _ _ h => h) (Or.inl ⟨by kernel_rfl, ?_⟩) (HCS.out _ HK.out) ?_
      rotate_left
      · (intro wq _; first | (go_simp; done) | (go_simp; with_reducible rfl))
      try simp only [List.getElem_toArray, List.getElem_cons_zero, List.getElem_cons_succ, Act.put, List.setIfInBounds_toArray, List.set_cons_zero, List.set_cons_succ]
      refine wpAnyH_take (i := 2) (v := ?_) rfl (by kernel_rfl) (by kernel_rfl) (by kernel_rfl) (fun _ _ _ h => h) (Or.inl ⟨by kernel_rfl, ?_⟩) (HCS.out _ HK.out) ?_
      rotate_left
      · (intro wq _; first | (go_simp; done) | (go_simp; with_reducible rfl))
      try simp only [List.getElem_toArray, List.getElem_cons_zero, List.getElem_cons_succ, Act.put, List.setIfInBounds_toArray, List.set_cons_zero, List.set_cons_succ]
      refine wpAnyH_take (i := 3) (v := ?_) rfl (by kernel_rfl) (by kernel_rfl) (by kernel_rfl) (fun _ _ _ h => h) (Or.inl ⟨by kernel_rfl, ?_⟩) (HCS.out _ HK.out) ?_
      rotate_left
      · (intro wq _; first | (go_simp; done) | (go_simp; with_reducible rfl))
      try simp only [List.getElem_toArray, List.getElem_cons_zero, List.getElem_cons_succ, Act.put, List.setIfInBounds_toArray, List.set_cons_zero, List.set_cons_succ]
      refine wpAnyH_take (i := 4) (v := ?_) rfl (by kernel_rfl) (by kernel_rfl) (by kernel_rfl) (fun _ _ _ h => h) (Or.inl ⟨by kernel_rfl, ?_⟩) (HCS.out _ HK.out) ?_
      rotate_left
      · (intro wq _; first | (go_simp; done) | (go_simp; with_reducible rfl))
      try simp only [List.getElem_toArray, List.getElem_cons_zero, List.getElem_cons_succ, Act.put, List.setIfInBounds_toArray, List.set_cons_zero, List.set_cons_succ]
      refine wpAnyH_take (i := 5) (v := ?_) rfl (by kernel_rfl) (by kernel_rfl) (by kernel_rfl) (fun _ _ _ h => h) (Or.inl ⟨by kernel_rfl, ?_⟩) (HCS.out _ HK.out) ?_
      rotate_left
      · (intro wq _; first | (go_simp; done) | (go_simp; with_reducible rfl))
      try simp only [List.getElem_toArray, List.getElem_cons_zero, List.getElem_cons_succ, Act.put, List.setIfInBounds_toArray, List.set_cons_zero, List.set_cons_succ]
      all_goals (
        first
          | refine wpAnyH_ready (rs := [6]) (by decide +kernel) (by simp) ?_
        repeat' (first | exact AllReadyH.nil | (refine AllReadyH.cons rfl (fun K hK => ?_) ?_)))
      all_goals (
        first
          | (go_simp
             first
               | (go_at_call 56
                  refine (HJ.out wc HK.out).mono ?_
                  rintro E wn ⟨rfl, hwn⟩
                  subst hwn
                  go_wp2_with fail
                  refine hK.out _ _ (HCS.out _ HK.out) (fun _ => ?_)
                  clear hK K
                  try simp only [List.getElem_toArray, List.getElem_cons_zero, List.getElem_cons_succ, Act.put, List.setIfInBounds_toArray, List.set_cons_zero, List.set_cons_succ])))
      all_goals (
        first
          | refine wpAnyH_ready (rs := [7]) (by decide +kernel) (by simp) ?_
        repeat' (first | exact AllReadyH.nil | (refine AllReadyH.cons rfl (fun K hK => ?_) ?_)))
      all_goals (
        first
          | (go_simp
             first
               | (go_at_call 14
                  refine (HFD.out _ wc (HX2.out.trans HK.out)).mono ?_
                  rintro E wn ⟨rfl, hx⟩
                  replace HK := Lib.hid (HK.out.trans hx)
                  clear hx
                  go_wp2_with fail
                  refine hK.out _ _ (HCS.out _ HK.out) (fun _ => ?_)
                  clear hK K
                  obtain ⟨wc, rfl⟩ : ∃ x : World, x = wn := ⟨_, rfl⟩
                  try simp only [List.getElem_toArray, List.getElem_cons_zero, List.getElem_cons_succ, Act.put, List.setIfInBounds_toArray, List.set_cons_zero, List.set_cons_succ]
                  refine wpAnyH_take (i := 8) (v := ?_) rfl (by kernel_rfl) (by kernel_rfl) (by kernel_rfl) (fun _ _ _ h => h) (Or.inl ⟨by kernel_rfl, ?_⟩) (HCS.out _ HK.out) ?_
                  rotate_left
                  · (intro wq _; first | (go_simp; done) | (go_simp; with_reducible rfl))
                  try simp only [List.getElem_toArray, List.getElem_cons_zero, List.getElem_cons_succ, Act.put, List.setIfInBounds_toArray, List.set_cons_zero, List.set_cons_succ])))
      all_goals (
        refine wpAnyH_done (by kernel_rfl) ?_ _
        refine NoPanic.normal ?_
        have hX3 := HX2.out.trans HK.out
        have HX3 := Lib.hid hX3; clear hX3
        rcases findI_cases L (joinP T) with ⟨h1, h2⟩ | ⟨k, h1, h2, h3, h4⟩
        · have HH := Lib.hid h2
          rw [h1]
          clear h1 h2
          go_wp2_with fail
          rw [HR.out]
          exact ⟨by rw [placeL_miss HU.out HH.out]; rfl, HX3.out⟩
        · have HH := Lib.hid h3
          rw [h2]
          clear h2 h3 h4
          obtain ⟨g, off, rfl, _, _, _, c2⟩ := (HE.out.ext HX3.out).at h1
          have hkn : k < n := by have := HN.out; omega
          have c0 := (HCS.out _ HK.out).1
          generalize L.getD k ez06 = x at c2 HH
          obtain ⟨xp, xi, xd⟩ := x
          simp only at c2
          cases xd with
          | true =>
            go_wp2_with fail
            rw [HR.out]
            exact ⟨by rw [placeL_hit HU.out HH.out]; rfl, HX3.out⟩
          | false =>
            go_wp2_with fail
            rw [HR.out]
            exact ⟨by rw [placeL_hit HU.out HH.out]; rfl, HX3.out⟩)
end Go.Proofs.YtldgpcmnmegioaaGreatDoor
