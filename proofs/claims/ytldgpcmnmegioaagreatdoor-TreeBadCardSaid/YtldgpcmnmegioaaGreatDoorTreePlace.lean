/- tree.place, Find, Dir. -/
import Derived.Test.YtldgpcmnmegioaaGreatDoorTreeFind
import Derived.Test.YtldgpcmnmegioaaGreatDoorPathJoinsSpec
namespace Go.Proofs.YtldgpcmnmegioaaGreatDoor
open Go.RowKit
theorem glue_take (L : List By) (n : Nat) : (glue 47 (L.take n)).length ≤ (glue 47 L).length := by
  induction L generalizing n with
  | nil => simp
  | cons a L ih =>
    cases n with
    | zero => simp [glue]
    | succ n =>
      rw [List.take_succ_cons, glue_len_cons, glue_len_cons]
      have := ih n
      omega
theorem up_parent {l : By} {L : List By} {x : By} (h : upL l = some (L, x)) : parentL l = some (joinP L, x) ∧ pathL (joinP L) = some L := by
  unfold upL at h
  split at h
  · rename_i p q hp
    obtain ⟨h1, h2⟩ := Prod.mk.inj (Option.some.inj h)
    refine ⟨?_, ?_⟩
    · unfold parentL
      rw [hp]
      show some (joinP ((p :: q).take q.length), (p :: q).getD q.length []) = _
      rw [h1, h2]
    · obtain ⟨f1, f2, f3, f4⟩ := pathL_facts hp
      have hg : glue 47 (p :: q) = l := by
        rcases f4 with ⟨_, f5⟩ | ⟨_, _, f6, _⟩
        · cases f5
        · exact f6
      by_cases hL : L = []
      · rw [hL]; exact pathL_root
      · have hall : ∀ z ∈ L, nameL z = true := fun z hz => by
          rw [← h1] at hz
          exact List.all_eq_true.1 f2 z (List.mem_of_mem_take hz)
        have hne : joinP L ≠ [47] := by
          intro e
          cases L with
          | nil => exact hL rfl
          | cons a r =>
            rw [joinP_cons] at e
            have := congrArg List.length e
            rw [glue_len_cons] at this
            have ha : a = [] := List.eq_nil_of_length_eq_zero (by simp only [List.length_cons, List.length_nil] at this; omega)
            have := hall a (by simp)
            rw [ha] at this
            exact absurd this (by decide)
        rw [pathL_join hne (fun z hz => nameL_no47 (hall z hz)), if_pos]
        have g1 : (glue 47 L).length ≤ 40 := by
          rw [← h1]
          exact Nat.le_trans (glue_take _ _) (by rw [hg]; exact f3)
        have g2 : L.length ≤ 5 := by
          rw [← h1, List.length_take]
          exact Nat.le_trans (Nat.min_le_right _ _) f1
        have g3 : L.all nameL = true := List.all_eq_true.2 hall
        have g4 : 0 < L.length := List.length_pos_iff.2 hL
        unfold joinOk
        simp [g1, g2, g3, g4]
  · cases h
theorem up_none {l : By} (h : upL l = none) : parentL l = none := by
  unfold upL at h
  unfold parentL
  split at h
  · cases h
  · rename_i hn
    split
    · rename_i p q hp
      exact absurd hp (hn p q)
    · rfl
/-- What place answers. -/
def PlaceR (r : PlaceD) (A : Int → NodeA) (w : World) (e : Ending) (w' : World) : Prop :=
  (match r with
  | .bad k => e = .returned (.tuple #[.pointer none, .string ⟨#[]⟩, .int .i64 k])
  | .at d x => e = .returned (.tuple #[.pointer (some ⟨(A d).blk, 0, none⟩), .string (bs x), .int .i64 0])) ∧ Ext w w'
section
variable {base tb mb K : Nat} {T : TreeD} {A : Int → NodeA}
set_option maxRecDepth 100000 in
set_option maxHeartbeats 6400000 in
theorem tree_place (p : By) (w : World) (hE : Env w) (hT : TreeM w base tb mb K T A) (hg : GoodT T) (hf : T.next ≤ 4611686018427387904) :
    Calls Tryz.prog 58 #[.pointer (some ⟨tb, 0, none⟩), .string (bs p)] w (PlaceR (placeT T p) A w) := by
  obtain ⟨R, hR⟩ : ∃ R, R = PlaceR (placeT T p) A w := ⟨_, rfl⟩
  rw [← hR]
  have HR := Lib.hid hR; clear hR
  have HT := Lib.hid hT; clear hT
  have HG := Lib.hid hg; clear hg
  have hpar := path_parent (bs p) w hE
  rw [bs_data] at hpar
  have HE := Lib.hid hE; clear hE
  have HF := Lib.hid hf; clear hf
  cases hu : upL p with
  | none =>
    rw [up_none hu] at hpar
    have HU := Lib.hid hu; clear hu
    have HPAR := Lib.hid hpar; clear hpar
    go_enter Tryz.func58, Tryz.ntmps58
    go_wp2_with (go_at_call 70; refine HPAR.out.mono ?_; rintro e w1 ⟨rfl, hx⟩; have HX := Lib.hid hx; clear hx)
    rw [HR.out]
    unfold placeT
    rw [HU.out]
    exact ⟨rfl, HX.out⟩
  | some lx =>
    obtain ⟨l, x⟩ := lx
    obtain ⟨u1, u2⟩ := up_parent hu
    rw [u1] at hpar
    have HU := Lib.hid hu; clear hu
    have HPAR := Lib.hid hpar; clear hpar u1
    have hfd : findT T (joinP l) = walkT T 1 l := by unfold findT; rw [u2]
    have HFD := Lib.hid hfd; clear hfd u2
    have hfind := fun W (k : Ext w W) => tree_find (joinP l) W (HE.out.ext k) (HT.out.ext k) HG.out HF.out
    rw [HFD.out] at hfind
    have hmem := HG.out.walk_mem l 1 HG.out.root
    generalize hi : walkT T 1 l = i at hfind hmem
    have HI := Lib.hid hi; clear hi
    have HFIND := Lib.hid hfind; clear hfind
    by_cases hz : i = 0
    · have HZ := Lib.hid hz
      subst hz
      clear hmem
      go_enter Tryz.func58, Tryz.ntmps58
      go_wp2_with (first
        | (go_at_call 70; refine HPAR.out.mono ?_; rintro e w1 ⟨rfl, hx⟩; have HX := Lib.hid hx; clear hx)
        | (go_at_call 32; refine (HFIND.out _ HX.out).mono ?_; rintro e w2 ⟨rfl, hx⟩; have HX2 := Lib.hid hx; clear hx))
      rw [HR.out]
      unfold placeT
      rw [HU.out]
      simp only
      rw [if_pos HI.out]
      exact ⟨rfl, HX.out.trans HX2.out⟩
    · have hm := hmem hz
      clear hmem
      have hlow := HG.out.low i hm
      have hnx := HF.out
      have HM := Lib.hid hm; clear hm
      cases hd : (T.node i).dir with
      | false =>
        have HD := Lib.hid hd; clear hd
        go_enter Tryz.func58, Tryz.ntmps58
        go_wp2_with (first
          | (go_at_call 70; refine HPAR.out.mono ?_; rintro e w1 ⟨rfl, hx⟩; have HX := Lib.hid hx; clear hx)
          | (go_at_call 32; refine (HFIND.out _ HX.out).mono ?_; rintro e w2 ⟨rfl, hx⟩; have HX2 := Lib.hid (HX.out.trans hx); clear hx; have c1 := blk_cell (HT.out.ext HX2.out).top 0 (Value.map (some mb)) rfl; have hlk := (HT.out.ext HX2.out).look HM.out (by omega) (by omega); have c2 := blk_cell ((HT.out.ext HX2.out).node i HM.out).1 0 (Value.bool (T.node i).dir) rfl; rw [HD.out] at c2))
        rw [HR.out]
        unfold placeT
        rw [HU.out]
        simp only [HI.out, HD.out]
        rw [if_neg hz]
        exact ⟨rfl, HX2.out⟩
      | true =>
        have HD := Lib.hid hd; clear hd
        go_enter Tryz.func58, Tryz.ntmps58
        go_wp2_with (first
          | (go_at_call 70; refine HPAR.out.mono ?_; rintro e w1 ⟨rfl, hx⟩; have HX := Lib.hid hx; clear hx)
          | (go_at_call 32; refine (HFIND.out _ HX.out).mono ?_; rintro e w2 ⟨rfl, hx⟩; have HX2 := Lib.hid (HX.out.trans hx); clear hx; have c1 := blk_cell (HT.out.ext HX2.out).top 0 (Value.map (some mb)) rfl; have hlk := (HT.out.ext HX2.out).look HM.out (by omega) (by omega); have c2 := blk_cell ((HT.out.ext HX2.out).node i HM.out).1 0 (Value.bool (T.node i).dir) rfl; rw [HD.out] at c2))
        rw [HR.out]
        unfold placeT
        rw [HU.out]
        simp only [HI.out, HD.out]
        rw [if_neg hz]
        exact ⟨rfl, HX2.out⟩
set_option maxRecDepth 100000 in
/-- Find. -/
theorem tree_Find (p : By) (w : World) (hE : Env w) (hT : TreeM w base tb mb K T A) (hg : GoodT T) (hf : T.next ≤ 4611686018427387904) :
    Calls Tryz.prog 13 #[.pointer (some ⟨tb, 0, none⟩), .string (bs p)] w fun e w' => e = .returned (.tuple #[.int .i64 (findT T p), .bool (decide (findT T p ≠ 0))]) ∧ Ext w w' := by
  obtain ⟨R, hR⟩ : ∃ R : Ending → World → Prop, R = fun e w' => e = .returned (.tuple #[.int .i64 (findT T p), .bool (decide (findT T p ≠ 0))]) ∧ Ext w w' := ⟨_, rfl⟩
  rw [← hR]
  have HR := Lib.hid hR; clear hR
  have hfind := tree_find p w hE hT hg hf
  generalize findT T p = i at HR hfind
  have HFIND := Lib.hid hfind; clear hfind hE hT hg hf
  go_enter Tryz.func13, Tryz.ntmps13
  go_wp2_with (go_at_call 32; refine HFIND.out.mono ?_; rintro e w1 ⟨rfl, hx⟩; have HX := Lib.hid hx; clear hx)
  rw [HR.out]
  refine ⟨?_, HX.out⟩
  by_cases h : i = 0 <;> simp [h]
set_option maxRecDepth 100000 in
/-- Dir. -/
theorem tree_Dir (p : By) (w : World) (hE : Env w) (hT : TreeM w base tb mb K T A) (hg : GoodT T) (hf : T.next ≤ 4611686018427387904) :
    Calls Tryz.prog 26 #[.pointer (some ⟨tb, 0, none⟩), .string (bs p)] w fun e w' => e = .returned (.bool (decide (findT T p ≠ 0) && (T.node (findT T p)).dir)) ∧ Ext w w' := by
  obtain ⟨R, hR⟩ : ∃ R : Ending → World → Prop, R = fun e w' => e = .returned (.bool (decide (findT T p ≠ 0) && (T.node (findT T p)).dir)) ∧ Ext w w' := ⟨_, rfl⟩
  rw [← hR]
  have HR := Lib.hid hR; clear hR
  have hfind := tree_find p w hE hT hg hf
  have hmem := hg.find_mem (p := p)
  generalize findT T p = i at HR hfind hmem
  have HFIND := Lib.hid hfind; clear hfind hE
  by_cases hz : i = 0
  · subst hz
    clear hmem hT hg hf
    go_enter Tryz.func26, Tryz.ntmps26
    go_wp2_with (go_at_call 32; refine HFIND.out.mono ?_; rintro e w1 ⟨rfl, hx⟩; have HX := Lib.hid hx; clear hx)
    rw [HR.out]
    exact ⟨rfl, HX.out⟩
  · have hm := hmem hz
    have hlow := hg.low i hm
    have HM := Lib.hid hm
    have HT := Lib.hid hT
    clear hmem hm hT hg
    go_enter Tryz.func26, Tryz.ntmps26
    go_wp2_with (go_at_call 32; refine HFIND.out.mono ?_; rintro e w1 ⟨rfl, hx⟩; have c1 := blk_cell (HT.out.ext hx).top 0 (Value.map (some mb)) rfl; have hlk := (HT.out.ext hx).look HM.out (by omega) (by omega); have c2 := blk_cell ((HT.out.ext hx).node i HM.out).1 0 (Value.bool (T.node i).dir) rfl; have HX := Lib.hid hx; clear hx)
    rw [HR.out]
    refine ⟨?_, HX.out⟩
    simp [hz]
end
end Go.Proofs.YtldgpcmnmegioaaGreatDoor
