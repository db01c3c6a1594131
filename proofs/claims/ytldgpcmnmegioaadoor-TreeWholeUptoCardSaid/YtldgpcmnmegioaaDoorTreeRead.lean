/- tree.Read. -/
import Derived.Test.YtldgpcmnmegioaaDoorTreePlace
import Derived.Test.YtldgpcmnmegioaaDoorCloneY
namespace Go.Proofs.YtldgpcmnmegioaaDoor
open Go.RowKit
section
variable {base tb mb N L : Nat} {T : TreeD} {A : Int → NodeA}
/-- What Read answers: what is wrong, or bytes. -/
def ReadI (T : TreeD) (i : Int) (w : World) (e : Ending) (w' : World) : Prop :=
  (if i = 0 then e = .returned (.tuple #[.slice none 0 0, .int .i64 8])
   else if (T.node i).dir = true then e = .returned (.tuple #[.slice none 0 0, .int .i64 10])
   else ∃ a c, e = .returned (.tuple #[.slice a (T.node i).data.length c, .int .i64 0]) ∧ (T.node i).data.length ≤ c ∧ DataM w' a (T.node i).data) ∧ Ext w w'
set_option maxRecDepth 100000 in
set_option maxHeartbeats 3200000 in
theorem tree_Read (p : By) (w : World) (hE : Env w) (hT : TreeM w base tb mb N T A) (hg : GoodT T) (hf : FitT T L) (hL : L ≤ 1000000000) :
    Calls Tryd.prog 13 #[.pointer (some ⟨tb, 0, none⟩), .string (bs p)] w (ReadI T (findT T p) w) := by
  obtain ⟨R, hR⟩ : ∃ R, R = ReadI T (findT T p) w := ⟨_, rfl⟩
  rw [← hR]
  have hnx := hf.next
  have hfind := tree_find p w hE hT hg (by omega)
  have hmem := hg.find_mem (p := p)
  generalize findT T p = i at hR hfind hmem
  have HR := Lib.hid hR; clear hR
  have HFIND := Lib.hid hfind; clear hfind hE
  by_cases hz : i = 0
  · subst hz
    clear hmem hT hg hf
    go_enter Tryd.func13, Tryd.ntmps13
    go_wp2_with (go_at_call 19; refine HFIND.out.mono ?_; rintro e w1 ⟨rfl, hx⟩; have HX := Lib.hid hx; clear hx)
    rw [HR.out]
    unfold ReadI
    rw [if_pos rfl]
    exact ⟨rfl, HX.out⟩
  · have hm := hmem hz
    have hlow := hg.low i hm
    have hdl := hf.data i hm
    have HM := Lib.hid hm
    have HT := Lib.hid hT
    clear hmem hm hT hg hf
    cases hd : (T.node i).dir with
    | true =>
      have HD := Lib.hid hd; clear hd
      go_enter Tryd.func13, Tryd.ntmps13
      go_wp2_with (go_at_call 19; refine HFIND.out.mono ?_; rintro e w1 ⟨rfl, hx⟩; have c1 := blk_cell (HT.out.ext hx).top 0 (Value.map (some mb)) rfl; have hlk := (HT.out.ext hx).look HM.out (by omega) (by omega); have c2 := blk_cell ((HT.out.ext hx).node i HM.out).1 0 (Value.bool (T.node i).dir) rfl; rw [HD.out] at c2; have HX := Lib.hid hx; clear hx)
      rw [HR.out]
      unfold ReadI
      rw [if_neg hz, if_pos HD.out]
      exact ⟨rfl, HX.out⟩
    | false =>
      have HD := Lib.hid hd; clear hd
      go_enter Tryd.func13, Tryd.ntmps13
      go_wp2_with (first
        | (go_at_call 19; refine HFIND.out.mono ?_; rintro e w1 ⟨rfl, hx⟩; have c1 := blk_cell (HT.out.ext hx).top 0 (Value.map (some mb)) rfl; have hlk := (HT.out.ext hx).look HM.out (by omega) (by omega); have c2 := blk_cell ((HT.out.ext hx).node i HM.out).1 0 (Value.bool (T.node i).dir) rfl; rw [HD.out] at c2; have c4 := blk_cell ((HT.out.ext hx).node i HM.out).1 2 (Value.slice (A i).da (T.node i).data.length (A i).dc) rfl; have HB := Lib.hid ((HT.out.ext hx).node i HM.out).2.1.bytes; have HX := Lib.hid hx; clear hx)
        | (go_at_call 20; refine (clone_y (A i).da (A i).dc (T.node i).data _ HB.out (by omega)).mono ?_; rintro e w2 ⟨ca, cc, rfl, hcc, hdm, _, hx⟩; have HDM := Lib.hid hdm; have HX2 := Lib.hid hx; clear hdm hx))
      rw [HR.out]
      unfold ReadI
      rw [if_neg hz, if_neg (by rw [HD.out]; simp)]
      exact ⟨⟨ca, cc, rfl, hcc, HDM.out⟩, HX.out.trans HX2.out⟩
end
end Go.Proofs.YtldgpcmnmegioaaDoor
