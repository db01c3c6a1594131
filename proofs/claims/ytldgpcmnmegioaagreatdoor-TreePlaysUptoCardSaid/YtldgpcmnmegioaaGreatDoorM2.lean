/- Several texts of mine, one behind the other: TreeFileU, TreeFind, PathJoinsSpec, TreePlace. -/
import Derived.Test.YtldgpcmnmegioaaGreatDoorTreeFileW
import Derived.Test.YtldgpcmnmegioaaGreatDoorTreeOps
import Derived.Test.YtldgpcmnmegioaaGreatDoorM3
namespace Go.Proofs.YtldgpcmnmegioaaGreatDoor
open Go.RowKit
section
variable {base tb mb N L : Nat} {T : TreeD} {A : Int → NodeA}

set_option maxRecDepth 100000 in
set_option maxHeartbeats 6400000 in
theorem file_unlink (kd : Int) (pt ds dt : By) (oa : Option Addr) (oc : Nat) (d : Int) (x : By) (i : Int) (w : World) (hT : TreeM w base tb mb N T A) (hg : GoodT T) (hf : FitT T L) (hL : L ≤ 1000000000) (_hN : N ≤ 1000000000) (hd : d ∈ T.ids) (hdd : (T.node d).dir = true) (hx : x.length ≤ 100000) (hi : i ∈ T.ids) (hid : (T.node i).dir = false) (hbs : base ≤ w.heap.size) (hk : kd = 6) :
    Calls Tryz.prog 60 #[.pointer (some ⟨tb, 0, none⟩), .agg #[.int .i64 kd, .string (bs pt), .string (bs ds), .slice oa dt.length oc], .pointer (some ⟨(A d).blk, 0, none⟩), .string (bs x), .int .i64 i] w (StepR base tb mb N (linkT (cutT T d x) i (-1), 0) w) := by
  obtain ⟨R, hR⟩ : ∃ R, R = StepR base tb mb N (linkT (cutT T d x) i (-1), 0) w := ⟨_, rfl⟩
  rw [← hR]
  have HR := Lib.hid hR; clear hR
  have hT0 := hT
  have hlow := hg.low i hi
  have hnx := hf.next
  have hlk0 := hf.links i hi
  have HT := Lib.hid hT; clear hT
  have HG := Lib.hid hg; clear hg
  have HF := Lib.hid hf; clear hf
  have HD := Lib.hid hd; clear hd
  have HDD := Lib.hid hdd; clear hdd
  have HI := Lib.hid hi; clear hi
  have HID := Lib.hid hid; clear hid
  have hkx := key_by hx
  have hki := key_int (i := i) (by omega) (by omega)
  obtain ⟨w1, hw1⟩ : ∃ z, z = w.alloc (.cells #[.int .i64 kd, .string (bs pt), .string (bs ds), .slice oa dt.length oc] 38) := ⟨_, rfl⟩
  have hx1 : Ext w w1 := by rw [hw1]; exact Ext.alloc _ _
  have hbx : w1.heap[w.heap.size]? = some (.cells #[.int .i64 kd, .string (bs pt), .string (bs ds), .slice oa dt.length oc] 38 (0, 0)) := by rw [hw1]; exact heap_alloc_new w _
  have k0 := blk_cell hbx 0 _ rfl
  have hT1 := HT.out.ext hx1
  have c0 := blk_cell hT1.top 0 (Value.map (some mb)) rfl
  have hlk := hT1.look HI.out (by omega) (by omega)
  have HX1 := Lib.hid hx1; clear hx1
  have HT1 := Lib.hid hT1; clear hT1 hT0
  have HBX := Lib.hid hbx; clear hbx
  have HKD := Lib.hid hk; clear hk
  go_enter Tryz.func60, Tryz.ntmps60
  go_upto_region 1 with fail
  rw [← hw1]
  clear hw1
  have HBS := Lib.hid hbs
  obtain ⟨BX, hBXe⟩ : ∃ z, z = w.heap.size := ⟨_, rfl⟩
  have hBX2 := HBX.out
  rw [← hBXe] at hBX2 hbs k0 ⊢
  have HBX2 := Lib.hid hBX2; clear hBX2 HBX hBXe
  have hk := HKD.out
  obtain ⟨kb, hkb⟩ := HT1.out.kbd d HD.out HDD.out
  have c3 : w1.cell? ⟨(A d).blk, 3, none⟩ = some (.map (some kb)) := by rw [← hkb]; exact blk_cell (HT1.out.node d HD.out).1 3 _ rfl
  have hmk : MapF keyS w1 9 kb N (kidsF (T.node d).kids) := by
    rcases (HT1.out.node d HD.out).2.2.2 with ⟨e, _⟩ | ⟨b, e, hm⟩
    · rw [hkb] at e; cases e
    · rw [hkb] at e; cases e; exact hm
  have HKB := Lib.hid hkb; clear hkb
  have HMK := Lib.hid hmk; clear hmk
  have hni : (cutT T d x).node i = T.node i := by
    unfold cutT
    rw [setT_node, if_neg]
    intro e
    have h1 := HID.out
    rw [e, HDD.out] at h1; cases h1
  have HNI := Lib.hid hni; clear hni
  go_upto_region 8 with (at_delete; refine wpList_delete_F rfl _ _ 69 rfl 3 str_keyed Tryz.underlying69 kb N _ rfl HMK.out keyS_inj _ x rfl hkx ?_; intro w2 hm2 hk2; go_frame)
  rw [kidsF_less] at hm2
  have hT2 : TreeM w2 base tb mb N (cutT T d x) A := HT1.out.set_kids HD.out HKB.out hk2 (Nat.le_refl _) hm2
  have hkw : Keep (· < base) w w2 := (Keep.of_ext HX1.out).andThen hk2 (fun j _ (hj : j < base) => by have := (HT1.out.low.2.2 d HD.out).2 kb HKB.out; show j ≠ kb; omega)
  have hnb := (hT2.node i HI.out).1
  have c1 : w2.cell? ⟨(A i).blk, 1, none⟩ = some (.int .i64 (T.node i).links) := by
    rw [← HNI.out]; exact blk_cell hnb 1 _ rfl
  have f1 := blk_free hnb 1
  have hfin := hT2.set_links HI.out (((cutT T d x).node i).links + -1)
  rw [HNI.out] at hfin
  have HFIN := Lib.hid hfin
  have HKW := Lib.hid hkw
  have hlo := hT2.low.2.2 i HI.out
  clear hnb hfin hkw hm2 hk2 hT2 c3
  go_wp2_with fail
  rw [HR.out]
  have hfin := (HFIN.out.mono (Nat.le_succ N)).mono (Nat.le_succ (N + 1))
  refine ⟨A, rfl, ?_, HKW.out.setCell (fun j (hj : j < base) => by have := hlo.1; omega) 1 _⟩
  unfold linkT
  rw [HNI.out]
  rw [show (T.node i).links - 1 = (T.node i).links + -1 by omega]
  exact hfin
end
end Go.Proofs.YtldgpcmnmegioaaGreatDoor
namespace Go.Proofs.YtldgpcmnmegioaaGreatDoor
open Go.RowKit
theorem split_noneB {p : By} (w : World) (hE : Env w) (h : pathL p = none) :
    Calls Tryz.prog 61 #[.string (bs p)] w fun e w' => e = .returned (.tuple #[.slice none 0 0, .bool false]) ∧ Ext w w' := split_none w hE (by rw [bs_data]; exact h)
theorem split_someB {p : By} {L : List By} (w : World) (hE : Env w) (h : pathL p = some L) :
    Calls Tryz.prog 61 #[.string (bs p)] w fun e w' => ∃ a cap, e = .returned (.tuple #[.slice a L.length cap, .bool true]) ∧ L.length ≤ cap ∧ Strs w' a L ∧ Ext w w' := split_some w hE (by rw [bs_data]; exact h)
theorem walkT_cons (T : TreeD) (i : Int) (x : By) (l : List By) : walkT T i (x :: l) = if kidT T i x = 0 then 0 else walkT T (kidT T i x) l := rfl
set_option maxRecDepth 100000 in
set_option maxHeartbeats 6400000 in
theorem tree_find {base tb mb K : Nat} {T : TreeD} {A : Int → NodeA} (p : By) (w : World) (hE : Env w) (hT : TreeM w base tb mb K T A) (hg : GoodT T) (hf : T.next ≤ 4611686018427387904) :
    Calls Tryz.prog 32 #[.pointer (some ⟨tb, 0, none⟩), .string (bs p)] w fun e w' => e = .returned (.int .i64 (findT T p)) ∧ Ext w w' := by
  obtain ⟨R, hR⟩ : ∃ R : Ending → World → Prop, R = fun e w' => e = .returned (.int .i64 (findT T p)) ∧ Ext w w' := ⟨_, rfl⟩
  rw [← hR]
  have HR := Lib.hid hR; clear hR
  have HT := Lib.hid hT; clear hT
  have HG := Lib.hid hg; clear hg
  have HE := Lib.hid hE; clear hE
  have HF := Lib.hid hf; clear hf
  cases hp : pathL p with
  | none =>
    have HP := Lib.hid hp; clear hp
    go_enter Tryz.func32, Tryz.ntmps32
    go_wp2_with (go_at_call 61; refine (split_noneB _ HE.out HP.out).mono ?_; rintro e w1 ⟨rfl, hx⟩; have HX := Lib.hid hx; clear hx)
    rw [HR.out]
    refine ⟨?_, HX.out⟩
    unfold findT
    rw [HP.out]
    rfl
  | some l =>
    have hfacts := pathL_facts hp
    have HP := Lib.hid hp; clear hp
    have hl5 := hfacts.1
    have HALL := Lib.hid hfacts.2.1; clear hfacts
    go_enter Tryz.func32, Tryz.ntmps32
    go_wp2_with (go_at_call 61; refine (split_someB _ HE.out HP.out).mono ?_; rintro e w1 ⟨al, cl, rfl, hcl, hS, hx⟩; have HX := Lib.hid hx; have HS := Lib.hid hS; clear hx hS)
    go_loopw [7, 19] (fun v i wr => ∃ (k : Nat) (j : Int), v = .int .i64 j ∧ i = .int .i64 k ∧ k ≤ l.length ∧ Hid (j ∈ T.ids) ∧ Hid (findT T p = walkT T j (l.drop k)) ∧ Hid (Ext w1 wr)) (fun _ i _ => l.length - (intOf i).toNat)
    case atStart =>
      refine ⟨0, 1, rfl, rfl, Nat.zero_le _, Lib.hid HG.out.root, Lib.hid ?_, Lib.hid (Ext.refl _)⟩
      unfold findT
      rw [HP.out]
      rfl
    case round =>
      obtain ⟨k, j, rfl, rfl, hk, HJ, HW, HX1⟩ := hrel
      by_cases hlt : k < l.length
      · obtain ⟨g, off, rfl, _, hc⟩ := (HS.out.ext HX1.out).at (fun e => by rw [e] at hlt; cases hlt)
        have c0 := hc k hlt
        clear hc
        have hx12 : (l.getD k []).length ≤ 12 := by
          have hm : l.getD k [] ∈ l := by
            rw [List.getD_eq_getElem?_getD, List.getElem?_eq_getElem hlt]
            exact List.getElem_mem hlt
          exact nameL_12 (List.all_eq_true.1 HALL.out _ hm)
        have hd : l.drop k = l.getD k [] :: l.drop (k + 1) := by
          rw [List.getD_eq_getElem?_getD, List.getElem?_eq_getElem hlt]
          exact List.drop_eq_getElem_cons hlt
        have hw := HW.out
        rw [hd, walkT_cons] at hw
        clear hd
        generalize l.getD k [] = x at c0 hx12 hw
        have hTr := HT.out.ext (HX.out.trans HX1.out)
        have hlow := HG.out.low j HJ.out
        have hnx := HF.out
        have c1 := blk_cell hTr.top 0 (Value.map (some mb)) rfl
        have hlk1 := hTr.look HJ.out (by omega) (by omega)
        have c2 := blk_cell (hTr.node j HJ.out).1 3 (Value.map (A j).kb) rfl
        have hlk2 := (hTr.node j HJ.out).2.2.2.look (x := x) (by omega)
        rw [show ((T.node j).kids x).getD 0 = kidT T j x from rfl] at hlk2
        clear hTr
        have HWW := Lib.hid hw; clear hw hlow hnx
        by_cases hz : kidT T j x = 0
        · rw [hz] at hlk2
          have HZ := Lib.hid hz; clear hz
          go_wp2_with fail
          rw [HR.out]
          have hw := HWW.out
          rw [if_pos HZ.out] at hw
          exact ⟨by rw [hw]; rfl, HX.out.trans HX1.out⟩
        · have hw := HWW.out
          rw [if_neg hz] at hw
          have hm := (HG.out.kid_mem HJ.out hz).1
          have HM := Lib.hid hm; clear hm
          have HW2 := Lib.hid hw; clear hw
          generalize kidT T j x = m at *
          go_wp2_with fail
          go_roundw
          case rel => exact ⟨k + 1, m, rfl, by go_num, by omega, HM, HW2, HX1⟩
          case measure => simp [intOf]; omega
      · have hw := HW.out
        rw [List.drop_of_length_le (by omega)] at hw
        have HW2 := Lib.hid hw; clear hw
        go_wp2_with fail
        rw [HR.out]
        exact ⟨by rw [HW2.out]; rfl, HX.out.trans HX1.out⟩
end Go.Proofs.YtldgpcmnmegioaaGreatDoor
namespace Go.Proofs.YtldgpcmnmegioaaGreatDoor
theorem glue_len_cons (p : List UInt8) (L) : (glue 47 (p :: L)).length = 1 + p.length + (glue 47 L).length := by simp [glue_cons]; omega
theorem glue_ge (L : List (List UInt8)) : L.length ≤ (glue 47 L).length := by
  induction L with
  | nil => simp
  | cons p r ih => rw [glue_len_cons]; simp; omega
theorem mem_glue {p : List UInt8} {L : List (List UInt8)} (h : p ∈ L) : p.length + 1 ≤ (glue 47 L).length := by
  induction L with
  | nil => cases h
  | cons q r ih =>
    rw [glue_len_cons]
    rcases List.mem_cons.1 h with rfl | h
    · omega
    · have := ih h; omega
theorem joinP_root {L : List (List UInt8)} (h : joinP L = [47]) : L.length ≤ 1 := by
  unfold joinP at h
  split at h
  · rename_i h1; simp [h1]
  · have := glue_ge L; rw [h] at this; simpa using this
theorem joinP_ne {L : List (List UInt8)} (h : joinP L ≠ [47]) : ∃ p r, L = p :: r ∧ joinP L = 47 :: (p ++ glue 47 r) := by
  cases L with
  | nil => exact absurd rfl h
  | cons p r => exact ⟨p, r, rfl, by rw [joinP_cons, glue_cons]; rfl⟩
def joinOk (L : List (List UInt8)) : Bool := (decide (0 < L.length) && decide (L.length ≤ 5)) && L.all nameL
theorem pathL_join {L : List (List UInt8)} (h : joinP L ≠ [47]) (h47 : ∀ p ∈ L, (47 : UInt8) ∉ p) :
    pathL (joinP L) = if (joinOk L && decide ((glue 47 L).length ≤ 40)) = true then some L else none := by
  obtain ⟨p, r, rfl, hj⟩ := joinP_ne h
  have hg : glue 47 (p :: r) = joinP (p :: r) := (joinP_cons p r).symm
  have ht : splitOn 47 (joinP (p :: r)).tail = p :: r := by
    rw [hj]; exact splitOn_glue 47 p r (h47 p (by simp)) (fun q hq => h47 q (by simp [hq]))
  have hh : (joinP (p :: r)).head? = some 47 := by rw [hj]; rfl
  rw [hg]
  by_cases h1 : (joinP (p :: r)).length ≤ 40
  · by_cases h2 : (p :: r).length ≤ 5
    · cases h3 : (p :: r).all nameL with
      | true =>
        rw [if_pos (by simp only [joinOk, h3]; simp at h2 ⊢; omega), pathL_good h h1 hh (by rw [ht]; exact h2) (by rw [ht]; exact h3), ht]
      | false =>
        rw [if_neg (by simp only [joinOk, h3]; simp), pathL_bad h (by rw [ht]; exact h3)]
    · rw [if_neg (by
        have : decide ((p :: r).length ≤ 5) = false := by simp at h2 ⊢; omega
        simp only [joinOk, this]; simp), pathL_many h (by rw [ht]; omega)]
  · rw [if_neg (by
      have : decide ((joinP (p :: r)).length ≤ 40) = false := by simp at h1 ⊢; omega
      simp only [this]; simp), pathL_long (by omega)]
end Go.Proofs.YtldgpcmnmegioaaGreatDoor
namespace Go.Proofs.YtldgpcmnmegioaaGreatDoor
open Go.RowKit
theorem glue_take (L : List By) (n : Nat) : (glue 47 (L.take n)).length ≤ (glue 47 L).length := by
  induction L generalizing n with
  | nil => simp
  | cons a L ih =>
    cases n with
    | zero => simp [glue]
    | succ n =>
      rw [List.take_succ_cons, glue_len_cons, glue_len_cons]
      have := ih n
      omega
theorem up_parent {l : By} {L : List By} {x : By} (h : upL l = some (L, x)) : parentL l = some (joinP L, x) ∧ pathL (joinP L) = some L := by
  unfold upL at h
  split at h
  · rename_i p q hp
    obtain ⟨h1, h2⟩ := Prod.mk.inj (Option.some.inj h)
    refine ⟨?_, ?_⟩
    · unfold parentL
      rw [hp]
      show some (joinP ((p :: q).take q.length), (p :: q).getD q.length []) = _
      rw [h1, h2]
    · obtain ⟨f1, f2, f3, f4⟩ := pathL_facts hp
      have hg : glue 47 (p :: q) = l := by
        rcases f4 with ⟨_, f5⟩ | ⟨_, _, f6, _⟩
        · cases f5
        · exact f6
      by_cases hL : L = []
      · rw [hL]; exact pathL_root
      · have hall : ∀ z ∈ L, nameL z = true := fun z hz => by
          rw [← h1] at hz
          exact List.all_eq_true.1 f2 z (List.mem_of_mem_take hz)
        have hne : joinP L ≠ [47] := by
          intro e
          cases L with
          | nil => exact hL rfl
          | cons a r =>
            rw [joinP_cons] at e
            have := congrArg List.length e
            rw [glue_len_cons] at this
            have ha : a = [] := List.eq_nil_of_length_eq_zero (by simp only [List.length_cons, List.length_nil] at this; omega)
            have := hall a (by simp)
            rw [ha] at this
            exact absurd this (by decide)
        rw [pathL_join hne (fun z hz => nameL_no47 (hall z hz)), if_pos]
        have g1 : (glue 47 L).length ≤ 40 := by
          rw [← h1]
          exact Nat.le_trans (glue_take _ _) (by rw [hg]; exact f3)
        have g2 : L.length ≤ 5 := by
          rw [← h1, List.length_take]
          exact Nat.le_trans (Nat.min_le_right _ _) f1
        have g3 : L.all nameL = true := List.all_eq_true.2 hall
        have g4 : 0 < L.length := List.length_pos_iff.2 hL
        unfold joinOk
        simp [g1, g2, g3, g4]
  · cases h
theorem up_none {l : By} (h : upL l = none) : parentL l = none := by
  unfold upL at h
  unfold parentL
  split at h
  · cases h
  · rename_i hn
    split
    · rename_i p q hp
      exact absurd hp (hn p q)
    · rfl
/-- What place answers. -/
def PlaceR (r : PlaceD) (A : Int → NodeA) (w : World) (e : Ending) (w' : World) : Prop :=
  (match r with
  | .bad k => e = .returned (.tuple #[.pointer none, .string ⟨#[]⟩, .int .i64 k])
  | .at d x => e = .returned (.tuple #[.pointer (some ⟨(A d).blk, 0, none⟩), .string (bs x), .int .i64 0])) ∧ Ext w w'
section
variable {base tb mb K : Nat} {T : TreeD} {A : Int → NodeA}
set_option maxRecDepth 100000 in
set_option maxHeartbeats 6400000 in
theorem tree_place (p : By) (w : World) (hE : Env w) (hT : TreeM w base tb mb K T A) (hg : GoodT T) (hf : T.next ≤ 4611686018427387904) :
    Calls Tryz.prog 58 #[.pointer (some ⟨tb, 0, none⟩), .string (bs p)] w (PlaceR (placeT T p) A w) := by
  obtain ⟨R, hR⟩ : ∃ R, R = PlaceR (placeT T p) A w := ⟨_, rfl⟩
  rw [← hR]
  have HR := Lib.hid hR; clear hR
  have HT := Lib.hid hT; clear hT
  have HG := Lib.hid hg; clear hg
  have hpar := path_parent (bs p) w hE
  rw [bs_data] at hpar
  have HE := Lib.hid hE; clear hE
  have HF := Lib.hid hf; clear hf
  cases hu : upL p with
  | none =>
    rw [up_none hu] at hpar
    have HU := Lib.hid hu; clear hu
    have HPAR := Lib.hid hpar; clear hpar
    go_enter Tryz.func58, Tryz.ntmps58
    go_wp2_with (go_at_call 70; refine HPAR.out.mono ?_; rintro e w1 ⟨rfl, hx⟩; have HX := Lib.hid hx; clear hx)
    rw [HR.out]
    unfold placeT
    rw [HU.out]
    exact ⟨rfl, HX.out⟩
  | some lx =>
    obtain ⟨l, x⟩ := lx
    obtain ⟨u1, u2⟩ := up_parent hu
    rw [u1] at hpar
    have HU := Lib.hid hu; clear hu
    have HPAR := Lib.hid hpar; clear hpar u1
    have hfd : findT T (joinP l) = walkT T 1 l := by unfold findT; rw [u2]
    have HFD := Lib.hid hfd; clear hfd u2
    have hfind := fun W (k : Ext w W) => tree_find (joinP l) W (HE.out.ext k) (HT.out.ext k) HG.out HF.out
    rw [HFD.out] at hfind
    have hmem := HG.out.walk_mem l 1 HG.out.root
    generalize hi : walkT T 1 l = i at hfind hmem
    have HI := Lib.hid hi; clear hi
    have HFIND := Lib.hid hfind; clear hfind
    by_cases hz : i = 0
    · have HZ := Lib.hid hz
      subst hz
      clear hmem
      go_enter Tryz.func58, Tryz.ntmps58
      go_wp2_with (first
        | (go_at_call 70; refine HPAR.out.mono ?_; rintro e w1 ⟨rfl, hx⟩; have HX := Lib.hid hx; clear hx)
        | (go_at_call 32; refine (HFIND.out _ HX.out).mono ?_; rintro e w2 ⟨rfl, hx⟩; have HX2 := Lib.hid hx; clear hx))
      rw [HR.out]
      unfold placeT
      rw [HU.out]
      simp only
      rw [if_pos HI.out]
      exact ⟨rfl, HX.out.trans HX2.out⟩
    · have hm := hmem hz
      clear hmem
      have hlow := HG.out.low i hm
      have hnx := HF.out
      have HM := Lib.hid hm; clear hm
      cases hd : (T.node i).dir with
      | false =>
        have HD := Lib.hid hd; clear hd
        go_enter Tryz.func58, Tryz.ntmps58
        go_wp2_with (first
          | (go_at_call 70; refine HPAR.out.mono ?_; rintro e w1 ⟨rfl, hx⟩; have HX := Lib.hid hx; clear hx)
          | (go_at_call 32; refine (HFIND.out _ HX.out).mono ?_; rintro e w2 ⟨rfl, hx⟩; have HX2 := Lib.hid (HX.out.trans hx); clear hx; have c1 := blk_cell (HT.out.ext HX2.out).top 0 (Value.map (some mb)) rfl; have hlk := (HT.out.ext HX2.out).look HM.out (by omega) (by omega); have c2 := blk_cell ((HT.out.ext HX2.out).node i HM.out).1 0 (Value.bool (T.node i).dir) rfl; rw [HD.out] at c2))
        rw [HR.out]
        unfold placeT
        rw [HU.out]
        simp only [HI.out, HD.out]
        rw [if_neg hz]
        exact ⟨rfl, HX2.out⟩
      | true =>
        have HD := Lib.hid hd; clear hd
        go_enter Tryz.func58, Tryz.ntmps58
        go_wp2_with (first
          | (go_at_call 70; refine HPAR.out.mono ?_; rintro e w1 ⟨rfl, hx⟩; have HX := Lib.hid hx; clear hx)
          | (go_at_call 32; refine (HFIND.out _ HX.out).mono ?_; rintro e w2 ⟨rfl, hx⟩; have HX2 := Lib.hid (HX.out.trans hx); clear hx; have c1 := blk_cell (HT.out.ext HX2.out).top 0 (Value.map (some mb)) rfl; have hlk := (HT.out.ext HX2.out).look HM.out (by omega) (by omega); have c2 := blk_cell ((HT.out.ext HX2.out).node i HM.out).1 0 (Value.bool (T.node i).dir) rfl; rw [HD.out] at c2))
        rw [HR.out]
        unfold placeT
        rw [HU.out]
        simp only [HI.out, HD.out]
        rw [if_neg hz]
        exact ⟨rfl, HX2.out⟩
set_option maxRecDepth 100000 in
/-- Find. -/
theorem tree_Find (p : By) (w : World) (hE : Env w) (hT : TreeM w base tb mb K T A) (hg : GoodT T) (hf : T.next ≤ 4611686018427387904) :
    Calls Tryz.prog 13 #[.pointer (some ⟨tb, 0, none⟩), .string (bs p)] w fun e w' => e = .returned (.tuple #[.int .i64 (findT T p), .bool (decide (findT T p ≠ 0))]) ∧ Ext w w' := by
  obtain ⟨R, hR⟩ : ∃ R : Ending → World → Prop, R = fun e w' => e = .returned (.tuple #[.int .i64 (findT T p), .bool (decide (findT T p ≠ 0))]) ∧ Ext w w' := ⟨_, rfl⟩
  rw [← hR]
  have HR := Lib.hid hR; clear hR
  have hfind := tree_find p w hE hT hg hf
  generalize findT T p = i at HR hfind
  have HFIND := Lib.hid hfind; clear hfind hE hT hg hf
  go_enter Tryz.func13, Tryz.ntmps13
  go_wp2_with (go_at_call 32; refine HFIND.out.mono ?_; rintro e w1 ⟨rfl, hx⟩; have HX := Lib.hid hx; clear hx)
  rw [HR.out]
  refine ⟨?_, HX.out⟩
  by_cases h : i = 0 <;> simp [h]
set_option maxRecDepth 100000 in
/-- Dir. -/
theorem tree_Dir (p : By) (w : World) (hE : Env w) (hT : TreeM w base tb mb K T A) (hg : GoodT T) (hf : T.next ≤ 4611686018427387904) :
    Calls Tryz.prog 26 #[.pointer (some ⟨tb, 0, none⟩), .string (bs p)] w fun e w' => e = .returned (.bool (decide (findT T p ≠ 0) && (T.node (findT T p)).dir)) ∧ Ext w w' := by
  obtain ⟨R, hR⟩ : ∃ R : Ending → World → Prop, R = fun e w' => e = .returned (.bool (decide (findT T p ≠ 0) && (T.node (findT T p)).dir)) ∧ Ext w w' := ⟨_, rfl⟩
  rw [← hR]
  have HR := Lib.hid hR; clear hR
  have hfind := tree_find p w hE hT hg hf
  have hmem := hg.find_mem (p := p)
  generalize findT T p = i at HR hfind hmem
  have HFIND := Lib.hid hfind; clear hfind hE
  by_cases hz : i = 0
  · subst hz
    clear hmem hT hg hf
    go_enter Tryz.func26, Tryz.ntmps26
    go_wp2_with (go_at_call 32; refine HFIND.out.mono ?_; rintro e w1 ⟨rfl, hx⟩; have HX := Lib.hid hx; clear hx)
    rw [HR.out]
    exact ⟨rfl, HX.out⟩
  · have hm := hmem hz
    have hlow := hg.low i hm
    have HM := Lib.hid hm
    have HT := Lib.hid hT
    clear hmem hm hT hg
    go_enter Tryz.func26, Tryz.ntmps26
    go_wp2_with (go_at_call 32; refine HFIND.out.mono ?_; rintro e w1 ⟨rfl, hx⟩; have c1 := blk_cell (HT.out.ext hx).top 0 (Value.map (some mb)) rfl; have hlk := (HT.out.ext hx).look HM.out (by omega) (by omega); have c2 := blk_cell ((HT.out.ext hx).node i HM.out).1 0 (Value.bool (T.node i).dir) rfl; have HX := Lib.hid hx; clear hx)
    rw [HR.out]
    refine ⟨?_, HX.out⟩
    simp [hz]
end
end Go.Proofs.YtldgpcmnmegioaaGreatDoor
