/- tree.find: what stands at a path. -/
import Derived.Test.YtldgpcmnmegioaaGreatDoorTreeOps
import Derived.Test.YtldgpcmnmegioaaGreatDoorPathMore
namespace Go.Proofs.YtldgpcmnmegioaaGreatDoor
open Go.RowKit
theorem split_noneB {p : By} (w : World) (hE : Env w) (h : pathL p = none) :
    Calls Tryz.prog 61 #[.string (bs p)] w fun e w' => e = .returned (.tuple #[.slice none 0 0, .bool false]) ∧ Ext w w' := split_none w hE (by rw [bs_data]; exact h)
theorem split_someB {p : By} {L : List By} (w : World) (hE : Env w) (h : pathL p = some L) :
    Calls Tryz.prog 61 #[.string (bs p)] w fun e w' => ∃ a cap, e = .returned (.tuple #[.slice a L.length cap, .bool true]) ∧ L.length ≤ cap ∧ Strs w' a L ∧ Ext w w' := split_some w hE (by rw [bs_data]; exact h)
theorem walkT_cons (T : TreeD) (i : Int) (x : By) (l : List By) : walkT T i (x :: l) = if kidT T i x = 0 then 0 else walkT T (kidT T i x) l := rfl
set_option maxRecDepth 100000 in
set_option maxHeartbeats 6400000 in
theorem tree_find {base tb mb K : Nat} {T : TreeD} {A : Int → NodeA} (p : By) (w : World) (hE : Env w) (hT : TreeM w base tb mb K T A) (hg : GoodT T) (hf : T.next ≤ 4611686018427387904) :
    Calls Tryz.prog 32 #[.pointer (some ⟨tb, 0, none⟩), .string (bs p)] w fun e w' => e = .returned (.int .i64 (findT T p)) ∧ Ext w w' := by
  obtain ⟨R, hR⟩ : ∃ R : Ending → World → Prop, R = fun e w' => e = .returned (.int .i64 (findT T p)) ∧ Ext w w' := ⟨_, rfl⟩
  rw [← hR]
  have HR := Lib.hid hR; clear hR
  have HT := Lib.hid hT; clear hT
  have HG := Lib.hid hg; clear hg
  have HE := Lib.hid hE; clear hE
  have HF := Lib.hid hf; clear hf
  cases hp : pathL p with
  | none =>
    have HP := Lib.hid hp; clear hp
    go_enter Tryz.func32, Tryz.ntmps32
    go_wp2_with (go_at_call 61; refine (split_noneB _ HE.out HP.out).mono ?_; rintro e w1 ⟨rfl, hx⟩; have HX := Lib.hid hx; clear hx)
    rw [HR.out]
    refine ⟨?_, HX.out⟩
    unfold findT
    rw [HP.out]
    rfl
  | some l =>
    have hfacts := pathL_facts hp
    have HP := Lib.hid hp; clear hp
    have hl5 := hfacts.1
    have HALL := Lib.hid hfacts.2.1; clear hfacts
    go_enter Tryz.func32, Tryz.ntmps32
    go_wp2_with (go_at_call 61; refine (split_someB _ HE.out HP.out).mono ?_; rintro e w1 ⟨al, cl, rfl, hcl, hS, hx⟩; have HX := Lib.hid hx; have HS := Lib.hid hS; clear hx hS)
    go_loopw [7, 19] (fun v i wr => ∃ (k : Nat) (j : Int), v = .int .i64 j ∧ i = .int .i64 k ∧ k ≤ l.length ∧ Hid (j ∈ T.ids) ∧ Hid (findT T p = walkT T j (l.drop k)) ∧ Hid (Ext w1 wr)) (fun _ i _ => l.length - (intOf i).toNat)
    case atStart =>
      refine ⟨0, 1, rfl, rfl, Nat.zero_le _, Lib.hid HG.out.root, Lib.hid ?_, Lib.hid (Ext.refl _)⟩
      unfold findT
      rw [HP.out]
      rfl
    case round =>
      obtain ⟨k, j, rfl, rfl, hk, HJ, HW, HX1⟩ := hrel
      by_cases hlt : k < l.length
      · obtain ⟨g, off, rfl, _, hc⟩ := (HS.out.ext HX1.out).at (fun e => by rw [e] at hlt; cases hlt)
        have c0 := hc k hlt
        clear hc
        have hx12 : (l.getD k []).length ≤ 12 := by
          have hm : l.getD k [] ∈ l := by
            rw [List.getD_eq_getElem?_getD, List.getElem?_eq_getElem hlt]
            exact List.getElem_mem hlt
          exact nameL_12 (List.all_eq_true.1 HALL.out _ hm)
        have hd : l.drop k = l.getD k [] :: l.drop (k + 1) := by
          rw [List.getD_eq_getElem?_getD, List.getElem?_eq_getElem hlt]
          exact List.drop_eq_getElem_cons hlt
        have hw := HW.out
        rw [hd, walkT_cons] at hw
        clear hd
        generalize l.getD k [] = x at c0 hx12 hw
        have hTr := HT.out.ext (HX.out.trans HX1.out)
        have hlow := HG.out.low j HJ.out
        have hnx := HF.out
        have c1 := blk_cell hTr.top 0 (Value.map (some mb)) rfl
        have hlk1 := hTr.look HJ.out (by omega) (by omega)
        have c2 := blk_cell (hTr.node j HJ.out).1 3 (Value.map (A j).kb) rfl
        have hlk2 := (hTr.node j HJ.out).2.2.2.look (x := x) (by omega)
        rw [show ((T.node j).kids x).getD 0 = kidT T j x from rfl] at hlk2
        clear hTr
        have HWW := Lib.hid hw; clear hw hlow hnx
        by_cases hz : kidT T j x = 0
        · rw [hz] at hlk2
          have HZ := Lib.hid hz; clear hz
          go_wp2_with fail
          rw [HR.out]
          have hw := HWW.out
          rw [if_pos HZ.out] at hw
          exact ⟨by rw [hw]; rfl, HX.out.trans HX1.out⟩
        · have hw := HWW.out
          rw [if_neg hz] at hw
          have hm := (HG.out.kid_mem HJ.out hz).1
          have HM := Lib.hid hm; clear hm
          have HW2 := Lib.hid hw; clear hw
          generalize kidT T j x = m at *
          go_wp2_with fail
          go_roundw
          case rel => exact ⟨k + 1, m, rfl, by go_num, by omega, HM, HW2, HX1⟩
          case measure => simp [intOf]; omega
      · have hw := HW.out
        rw [List.drop_of_length_le (by omega)] at hw
        have HW2 := Lib.hid hw; clear hw
        go_wp2_with fail
        rw [HR.out]
        exact ⟨by rw [HW2.out]; rfl, HX.out.trans HX1.out⟩
end Go.Proofs.YtldgpcmnmegioaaGreatDoor
