/- path.Right, path.Join, path.Parent, path.Within: what they give. -/
import Derived.Test.YtldgpcmnmegioaaGreatDoorM3
import Derived.Deep.RegionHeld3
import Derived.StillTailTactics
import Derived.BigQuiet
import Derived.Deep.QuietTactic
namespace Go.Proofs.YtldgpcmnmegioaaGreatDoor
open Go.RowKit
theorem split_none {s : ByteArray} (w : World) (hE : Env w) (h : pathL s.data.toList = none) :
    Calls Tryz.prog 61 #[.string s] w fun e w' => e = .returned (.tuple #[.slice none 0 0, .bool false]) ∧ Ext w w' := by
  have := path_split s w hE; rw [h] at this; exact this
theorem split_some {s : ByteArray} {L : List (List UInt8)} (w : World) (hE : Env w) (h : pathL s.data.toList = some L) :
    Calls Tryz.prog 61 #[.string s] w fun e w' => ∃ a cap, e = .returned (.tuple #[.slice a L.length cap, .bool true]) ∧ L.length ≤ cap ∧ Strs w' a L ∧ Ext w w' := by
  have := path_split s w hE; rw [h] at this; exact this

/-- A path of something below the root? -/
def rightL (l : List UInt8) : Bool := match pathL l with
  | some L => decide (0 < L.length)
  | none => false
theorem rightL_none {l} (h : pathL l = none) : rightL l = false := by simp [rightL, h]
theorem rightL_some {l L} (h : pathL l = some L) : rightL l = decide (0 < L.length) := by simp [rightL, h]


















theorem joinTail_glue (L : List (List UInt8)) : Lib.joinTail [47] L = glue 47 L := by simp [Lib.joinTail, glue] -- 106
theorem join_joinP (L : List (List UInt8)) : 47 :: Lib.join L [47] = joinP L := by -- 106
  cases L with
  | nil => rfl
  | cons p r => rw [Lib.join_cons, joinTail_glue, joinP_cons, glue_cons]; rfl
theorem path_join (a : Option Addr) (L : List (List UInt8)) (c : Nat) (w : World) (hS : Strs w a L) (hc : L.length ≤ c) (hN : L.length ≤ 140737488355328) (hlen : (joinP L).length ≤ 140737488355328) :
    Calls Tryz.prog 87 #[.slice a L.length c] w fun e w' => e = .returned (.string (bs (joinP L))) ∧ Ext w w' := by
  have HJ := Lib.hid (join_joinP L)
  have hjl : (Lib.join L [47]).length + 1 = (joinP L).length := by rw [← join_joinP]; simp
  have HJL := Lib.hid hjl; clear hjl
  have key : Calls Tryz.prog 106 #[.slice a L.length c, .string ⟨#[47]⟩] w fun e w' => e = .returned (.string (bs (Lib.join L [47]))) ∧ Ext w w' := by
    rcases hS with hS | ⟨g, off, rfl, hg, hcell⟩
    · subst hS
      refine (Tryz.strings_Join_none _ _ _ _).mono ?_
      rintro e w' ⟨rfl, rfl⟩
      exact ⟨ret_str rfl, Ext.refl _⟩
    · have h := Tryz.strings_Join g off c (L.map bs) ⟨#[47]⟩ w (by
        intro j x hj
        have hj' : j < L.length := by
          have := (List.getElem?_eq_some_iff.1 hj).1; simpa using this
        rw [hcell j hj']
        simp [hj'] at hj
        simp [hj', hj]) hg (by simpa using hN) (by simpa using hc) (by
          have e1 : ((L.map bs).map (·.data.toList)) = L := by simp [bs_data, Function.comp_def]
          rw [e1]; show (Lib.join L [47]).length ≤ _; have := HJL.out; omega)
      have e1 : ((L.map bs).map (·.data.toList)) = L := by simp [bs_data, Function.comp_def]
      rw [e1, List.length_map] at h
      exact h
  go_enter Tryz.func87, Tryz.ntmps87
  go_wp2_with fail
  refine key.mono ?_
  rintro e w1 ⟨rfl, hx⟩
  have hlt := bs_size (Lib.join L [47])
  have hz : (bs (Lib.join L [47])).size ≤ 140737488355328 := by rw [hlt]; have := HJL.out; omega
  clear hlt
  go_wp2_with fail
  go_ret
  exact ⟨ret_str (by rw [← HJ.out]; exact bs_append [47] _), hx⟩

theorem keepS {a b : World} {p : Addr} {v : Value} (h : Ext a b) (hc : a.cell? p = some v) : Ext a b ∧ b.cell? p = some v := ⟨h, h.cell hc⟩
/-- The directory of a path, and its last name. -/
def parentL (l : List UInt8) : Option (List UInt8 × List UInt8) := match pathL l with
  | some (p :: q) => some (joinP ((p :: q).take q.length), (p :: q).getD q.length [])
  | _ => none
def ParentR (o : Option (List UInt8 × List UInt8)) (w : World) (e : Ending) (w' : World) : Prop :=
  match o with
  | none => e = .returned (.tuple #[.string (bs []), .string (bs []), .bool false]) ∧ Ext w w'
  | some (d, n) => e = .returned (.tuple #[.string (bs d), .string (bs n), .bool true]) ∧ Ext w w'
theorem path_parent (s : ByteArray) (w : World) (hE : Env w) :
    Calls Tryz.prog 70 #[.string s] w (ParentR (parentL s.data.toList) w) := by
  go_enter Tryz.func70, Tryz.ntmps70
  go_wp2_with fail
  cases hp : pathL s.data.toList with
  | none =>
    have HP := Lib.hid hp; clear hp
    refine (split_none _ hE HP.out).mono ?_
    rintro e w1 ⟨rfl, hx⟩
    go_wp2_with fail
    go_ret3
    have e1 : parentL s.data.toList = none := by simp [parentL, HP.out]
    rw [e1]; exact ⟨rfl, hx⟩
  | some L =>
    have HP := Lib.hid hp; clear hp
    refine (split_some _ hE HP.out).mono ?_
    rintro e w1 ⟨a, cap, rfl, hcap, hS, hx⟩
    cases L with
    | nil =>
      go_wp2_with fail
      go_ret3
      have e1 : parentL s.data.toList = none := by simp [parentL, HP.out]
      rw [e1]; exact ⟨rfl, hx⟩
    | cons p q =>
      have HF := Lib.hid (pathL_facts HP.out)
      have hq : q.length ≤ 4 := by have := HF.out.1; simp at this; omega
      have hcap' : q.length + 1 ≤ cap := hcap
      obtain ⟨g, off, rfl, hg, hcell⟩ := hS.at (by simp)
      have hc : w1.cell? ⟨g, off + q.length, none⟩ = some (.string (bs ((p :: q).getD q.length []))) := hcell q.length (by simp)
      obtain ⟨nm, hnm⟩ : ∃ nm, nm = (p :: q).getD q.length [] := ⟨_, rfl⟩
      rw [← hnm] at hc
      have HNM := Lib.hid hnm; clear hnm
      have hT : Strs w1 (some ⟨g, off, none⟩) ((p :: q).take q.length) := by
        refine Or.inr ⟨g, off, rfl, hg, fun i hi => ?_⟩
        have hi' : i < q.length := by simpa using hi
        rw [hcell i (by simp; omega)]
        congr 3
        simp only [List.getD, List.getElem?_take, if_pos hi']
      have hTl : ((p :: q).take q.length).length = q.length := by simp
      have hJl : (joinP ((p :: q).take q.length)).length ≤ 140737488355328 := by
        have h1 := joinP_len ((p :: q).take q.length)
        have h2 := glue_take_len 47 (p :: q) q.length
        have h3 := HF.out.2.2.1
        rcases HF.out.2.2.2 with ⟨_, h4⟩ | ⟨_, _, h4, _⟩
        · cases h4
        · rw [h4] at h2; omega
      have hj := fun w' (hx : Ext w1 w') => path_join (some ⟨g, off, none⟩) ((p :: q).take q.length) cap w' (hT.ext hx) (by omega) (by omega) hJl
      rw [hTl] at hj
      generalize hTT : (p :: q).take q.length = T at *
      have HTT := Lib.hid hTT; clear hTT
      have HT := Lib.hid hTl; clear hTl hcell hS
      have HJ := Lib.hid hj; clear hj
      clear hJl hT HF
      have b1 : (0 : Int) ≤ (q.length : Int) := by omega
      have b2 : (q.length : Int) ≤ (cap : Int) := by omega
      have b3 : (q.length : Int) < (q.length : Int) + 1 := by omega
      have b4 : q.length < q.length + 1 := by omega
      go_wp2_with fail
      go_region_held3 (fun w' => Ext w1 w' ∧ w'.cell? ⟨g, off + q.length, none⟩ = some (.string (bs nm))) (first | exact keepS (Ext.refl _).drew hc | assumption | go_keep)
        ((go_at_call 87; have hS0 := ‹Ext w1 _ ∧ World.cell? _ ⟨g, off + q.length, none⟩ = some (Value.string (bs nm))›; refine (HJ.out _ hS0.1).mono ?_; rintro e w2 ⟨rfl, hx2⟩; have hS2 := keepS (hS0.1.trans hx2) hc))
      go_wp2
      go_ret3
      have e1 : parentL s.data.toList = some (joinP T, nm) := by simp [parentL, HP.out, HNM.out, HTT.out]
      rw [e1]; exact ⟨rfl, hx.trans (by assumption : Ext w1 w2 ∧ _).1⟩
end Go.Proofs.YtldgpcmnmegioaaGreatDoor
