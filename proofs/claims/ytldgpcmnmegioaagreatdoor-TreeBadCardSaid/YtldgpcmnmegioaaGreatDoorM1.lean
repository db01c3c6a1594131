/- Several texts of mine, one behind the other: TreeFindS, TreeFindF. -/
import Derived.Test.YtldgpcmnmegioaaGreatDoorTreeFind
import Derived.Test.YtldgpcmnmegioaaGreatDoorTreeLoad
import Derived.Test.YtldgpcmnmegioaaGreatDoorTreePlace
namespace Go.Proofs.YtldgpcmnmegioaaGreatDoor
open Go.RowKit
theorem kid_memS {T : TreeD} (h : SoundT T) {j : Int} (hj : j ∈ T.ids) {x : By} (hz : kidT T j x ≠ 0) : kidT T j x ∈ T.ids := by
  unfold kidT at hz ⊢
  cases hk : (T.node j).kids x with
  | none => rw [hk] at hz; exact absurd rfl hz
  | some k => exact ((h.2 j hj).2 x k hk).1
set_option maxRecDepth 100000 in
set_option maxHeartbeats 6400000 in
theorem tree_findS {base tb mb K : Nat} {T : TreeD} {A : Int → NodeA} (p : By) (w : World) (hE : Env w) (hT : TreeM w base tb mb K T A) (hs : SmallT T) (hso : SoundT T) :
    Calls Tryz.prog 32 #[.pointer (some ⟨tb, 0, none⟩), .string (bs p)] w fun e w' => e = .returned (.int .i64 (findT T p)) ∧ Ext w w' := by
  obtain ⟨R, hR⟩ : ∃ R : Ending → World → Prop, R = fun e w' => e = .returned (.int .i64 (findT T p)) ∧ Ext w w' := ⟨_, rfl⟩
  rw [← hR]
  have HR := Lib.hid hR; clear hR
  have HT := Lib.hid hT; clear hT
  have HSM := Lib.hid hs; clear hs
  have HE := Lib.hid hE; clear hE
  have HSO := Lib.hid hso; clear hso
  cases hp : pathL p with
  | none =>
    have HP := Lib.hid hp; clear hp
    go_enter Tryz.func32, Tryz.ntmps32
    go_wp2_with (go_at_call 61; refine (split_noneB _ HE.out HP.out).mono ?_; rintro e w1 ⟨rfl, hx⟩; have HX := Lib.hid hx; clear hx)
    rw [HR.out]
    refine ⟨?_, HX.out⟩
    unfold findT
    rw [HP.out]
    rfl
  | some l =>
    have hfacts := pathL_facts hp
    have HP := Lib.hid hp; clear hp
    have hl5 := hfacts.1
    have HALL := Lib.hid hfacts.2.1; clear hfacts
    go_enter Tryz.func32, Tryz.ntmps32
    go_wp2_with (go_at_call 61; refine (split_someB _ HE.out HP.out).mono ?_; rintro e w1 ⟨al, cl, rfl, hcl, hS, hx⟩; have HX := Lib.hid hx; have HS := Lib.hid hS; clear hx hS)
    go_loopw [7, 19] (fun v i wr => ∃ (k : Nat) (j : Int), v = .int .i64 j ∧ i = .int .i64 k ∧ k ≤ l.length ∧ Hid (j ∈ T.ids) ∧ Hid (findT T p = walkT T j (l.drop k)) ∧ Hid (Ext w1 wr)) (fun _ i _ => l.length - (intOf i).toNat)
    case atStart =>
      refine ⟨0, 1, rfl, rfl, Nat.zero_le _, Lib.hid HSO.out.1.1, Lib.hid ?_, Lib.hid (Ext.refl _)⟩
      unfold findT
      rw [HP.out]
      rfl
    case round =>
      obtain ⟨k, j, rfl, rfl, hk, HJ, HW, HX1⟩ := hrel
      by_cases hlt : k < l.length
      · obtain ⟨g, off, rfl, _, hc⟩ := (HS.out.ext HX1.out).at (fun e => by rw [e] at hlt; cases hlt)
        have c0 := hc k hlt
        clear hc
        have hx12 : (l.getD k []).length ≤ 12 := by
          have hm : l.getD k [] ∈ l := by
            rw [List.getD_eq_getElem?_getD, List.getElem?_eq_getElem hlt]
            exact List.getElem_mem hlt
          exact nameL_12 (List.all_eq_true.1 HALL.out _ hm)
        have hd : l.drop k = l.getD k [] :: l.drop (k + 1) := by
          rw [List.getD_eq_getElem?_getD, List.getElem?_eq_getElem hlt]
          exact List.drop_eq_getElem_cons hlt
        have hw := HW.out
        rw [hd, walkT_cons] at hw
        clear hd
        generalize l.getD k [] = x at c0 hx12 hw
        have hTr := HT.out.ext (HX.out.trans HX1.out)
        have hlow := HSM.out.ids j HJ.out
        have c1 := blk_cell hTr.top 0 (Value.map (some mb)) rfl
        have hlk1 := hTr.look HJ.out (by omega) (by omega)
        have c2 := blk_cell (hTr.node j HJ.out).1 3 (Value.map (A j).kb) rfl
        have hlk2 := (hTr.node j HJ.out).2.2.2.look (x := x) (by omega)
        rw [show ((T.node j).kids x).getD 0 = kidT T j x from rfl] at hlk2
        clear hTr
        have HWW := Lib.hid hw; clear hw hlow
        by_cases hz : kidT T j x = 0
        · rw [hz] at hlk2
          have HZ := Lib.hid hz; clear hz
          go_wp2_with fail
          rw [HR.out]
          have hw := HWW.out
          rw [if_pos HZ.out] at hw
          exact ⟨by rw [hw]; rfl, HX.out.trans HX1.out⟩
        · have hw := HWW.out
          rw [if_neg hz] at hw
          have hm := kid_memS HSO.out HJ.out hz
          have HM := Lib.hid hm; clear hm
          have HW2 := Lib.hid hw; clear hw
          generalize kidT T j x = m at *
          go_wp2_with fail
          go_roundw
          case rel => exact ⟨k + 1, m, rfl, by go_num, by omega, HM, HW2, HX1⟩
          case measure => simp [intOf]; omega
      · have hw := HW.out
        rw [List.drop_of_length_le (by omega)] at hw
        have HW2 := Lib.hid hw; clear hw
        go_wp2_with fail
        rw [HR.out]
        exact ⟨by rw [HW2.out]; rfl, HX.out.trans HX1.out⟩

end Go.Proofs.YtldgpcmnmegioaaGreatDoor
namespace Go.Proofs.YtldgpcmnmegioaaGreatDoor
open Go.RowKit
set_option maxRecDepth 100000 in
theorem tree_FindS {base tb mb K : Nat} {T : TreeD} {A : Int → NodeA} (p : By) (w : World) (hE : Env w) (hT : TreeM w base tb mb K T A) (hs : SmallT T) (hso : SoundT T) :
    Calls Tryz.prog 13 #[.pointer (some ⟨tb, 0, none⟩), .string (bs p)] w fun e w' => e = .returned (.tuple #[.int .i64 (findT T p), .bool (decide (findT T p ≠ 0))]) ∧ Ext w w' := by
  obtain ⟨R, hR⟩ : ∃ R : Ending → World → Prop, R = fun e w' => e = .returned (.tuple #[.int .i64 (findT T p), .bool (decide (findT T p ≠ 0))]) ∧ Ext w w' := ⟨_, rfl⟩
  rw [← hR]
  have HR := Lib.hid hR; clear hR
  have hfind := tree_findS p w hE hT hs hso
  generalize findT T p = i at HR hfind
  have HFIND := Lib.hid hfind; clear hfind hE hT hs hso
  go_enter Tryz.func13, Tryz.ntmps13
  go_wp2_with (go_at_call 32; refine HFIND.out.mono ?_; rintro e w1 ⟨rfl, hx⟩; have HX := Lib.hid hx; clear hx)
  rw [HR.out]
  refine ⟨?_, HX.out⟩
  by_cases h : i = 0 <;> simp [h]
end Go.Proofs.YtldgpcmnmegioaaGreatDoor
