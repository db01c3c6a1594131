/- path.Split gives just a path's names. -/
import Derived.Test.YtldgpcmnmegioaaDoorM1
import Derived.Test.YtldgpcmnmegioaaDoorPathSpec
import Derived.Test.YtldgpcmnmegioaaDoorShelf
import Derived.WalkSpells
import Derived.WalkLawsBesides
import Derived.BigGuardPart
namespace Go.Proofs.YtldgpcmnmegioaaDoor
open Go.RowKit
theorem hasPrefix_head (l : List UInt8) (c : UInt8) : Lib.hasPrefix l [c] = decide (l.head? = some c) := by
  cases l with
  | nil => simp [Lib.hasPrefix]
  | cons x r =>
    rw [Bool.eq_iff_iff]; simp [Lib.hasPrefix, List.isPrefixOf]; exact eq_comm
theorem split_tail (s : ByteArray) (w : World) (hE : Env w) (h1 : 1 ≤ s.size) (hs : s.size ≤ 40) :
    Calls Tryd.prog 36 #[.string (s.extract 1 s.size), .string ⟨#[47]⟩] w fun e w' =>
      e = .returned (.slice (some ⟨w.heap.size, 0, none⟩) (splitOn 47 s.data.toList.tail).length (splitOn 47 s.data.toList.tail).length) ∧
        w.alloc (.cells (((splitOn 47 s.data.toList.tail).map bs).map Value.string).toArray 9) = w' := by
  have e1 : s.extract 1 s.size = bs s.data.toList.tail := by
    rw [extract_bs]; congr 1
    rw [List.take_of_length_le (by simp)]; simp
  have h := Tryd.strings_Split_shaped (bs s.data.toList.tail) (bs [47]) w hE.shaped (by rw [bs_size]; simp; omega) (by rw [bs_size]; simp)
  rw [splitB_on, countB_on, bs_data] at h
  rw [e1]
  exact h.mono fun e w' ⟨he, hw⟩ => ⟨he, hw.symm⟩

def SplitR (o : Option (List (List UInt8))) (w : World) (e : Ending) (w' : World) : Prop :=
  match o with
  | none => e = .returned (.tuple #[.slice none 0 0, .bool false]) ∧ Ext w w'
  | some L => ∃ a cap, e = .returned (.tuple #[.slice a L.length cap, .bool true]) ∧ L.length ≤ cap ∧ Strs w' a L ∧ Ext w w'
theorem toList_root {s : ByteArray} (h : (s.toList == [47]) = true) : s.data.toList = [47] := by
  have h := beq_iff_eq.1 h; rwa [ByteArray.toList_eq] at h
theorem toList_not {s : ByteArray} {l : List UInt8} (h : (s.toList == l) = false) : s.data.toList ≠ l := by
  have h := beq_eq_false_iff_ne.1 h; rwa [ByteArray.toList_eq] at h
theorem head_size {s : ByteArray} {c : UInt8} (h : s.data.toList.head? = some c) : 1 ≤ s.size := by
  cases hs : s.data.toList with
  | nil => rw [hs] at h; cases h
  | cons x r => rw [← size_len, hs]; simp
set_option maxHeartbeats 400000 in
theorem path_split (s : ByteArray) (w : World) (hE : Env w) :
    Calls Tryd.prog 28 #[.string s] w (SplitR (pathL s.data.toList) w) := by
  go_enter Tryd.func28, Tryd.ntmps28
  go_wp2_with fail
  · go_ret2; rw [toList_root ‹_›, pathL_root]; exact ⟨none, 0, rfl, Nat.le_refl _, Strs.nil _ _, Ext.refl _⟩
  · go_ret2; rw [pathL_long (by rw [size_len]; omega)]; exact ⟨rfl, Ext.refl _⟩
  · have hn := Lib.hid (toList_not (s := s) (l := [47]) ‹_›)
    refine (Tryd.strings_HasPrefix _ _ _).mono ?_
    rintro e w' ⟨rfl, rfl⟩
    rw [show (({ data := #[47] } : ByteArray).data.toList) = [47] from rfl, hasPrefix_head]
    cases hh : decide (s.data.toList.head? = some 47) with
    | false =>
      have HH := Lib.hid (of_decide_eq_false hh); clear hh
      go_wp2_with fail
      go_ret2; rw [pathL_head hn.out HH.out]; exact ⟨rfl, Ext.refl _⟩
    | true =>
      have HH := Lib.hid (of_decide_eq_true hh); clear hh
      have h1 := head_size HH.out
      go_wp2_with fail
      refine (split_tail s _ hE h1 (by omega)).mono ?_
      rintro e w1 ⟨rfl, hw1⟩
      have hx : Ext w' w1 := by rw [← hw1]; exact Ext.alloc _ _
      have hS : Strs w1 (some ⟨w'.heap.size, 0, none⟩) (splitOn 47 s.data.toList.tail) := by rw [← hw1]; exact Strs.made _ _ _
      have hL1 := splitOn_length_pos 47 s.data.toList.tail
      clear hw1
      generalize hL : splitOn 47 s.data.toList.tail = L at *
      have HL := Lib.hid hL; clear hL
      have HS := Lib.hid hS; clear hS
      by_cases h5 : 5 < L.length
      · go_wp2_with fail
        go_ret2; rw [pathL_many hn.out (by rw [HL.out]; exact h5)]; exact ⟨rfl, hx⟩
      · go_wp2_with fail
        go_loopw [25] (fun i wr => ∃ k : Nat, k ≤ L.length ∧ i = .int .i64 k ∧ Hid ((L.take k).all nameL = true) ∧ Ext w1 wr) (fun i _ => L.length - (intOf i).toNat)
        case atStart => exact ⟨0, Nat.zero_le _, rfl, Lib.hid (by simp), Ext.refl _⟩
        case round =>
          obtain ⟨k, hk, rfl, hall, hext⟩ := hrel
          by_cases hlt : k < L.length
          · have hcell := hext.cell (HS.out.at0 k hlt)
            obtain ⟨p, hp⟩ : ∃ p, p = L.getD k [] := ⟨_, rfl⟩
            rw [← hp] at hcell
            have HP := Lib.hid hp; clear hp
            cases hname : nameL p with
            | false =>
              have HN := Lib.hid hname; clear hname
              go_wp2_with (go_at_call 37; refine (name_any _ _).mono ?_; rintro e w2 ⟨rfl, hb2⟩; rw [bs_data, HN.out])
              go_ret2
              rw [pathL_bad hn.out (by rw [HL.out]; exact all_getD hlt (by rw [← HP.out]; exact HN.out))]; exact ⟨rfl, hx.trans (hext.trans hb2)⟩
            | true =>
              have HN := Lib.hid hname; clear hname
              go_wp2_with (go_at_call 37; refine (name_any _ _).mono ?_; rintro e w2 ⟨rfl, hb2⟩; rw [bs_data, HN.out])
              go_roundw
              case rel => exact ⟨k + 1, by omega, by go_num, Lib.hid (all_take_step hlt hall.out (by rw [← HP.out]; exact HN.out)), hext.trans hb2⟩
              case measure => simp [intOf]; omega
          · have hkk : k = L.length := by omega
            go_wp2
            go_ret2
            subst hkk
            have hall := hall.out
            rw [List.take_length] at hall
            rw [pathL_good hn.out (by rw [size_len]; omega) HH.out (by rw [HL.out]; omega) (by rw [HL.out]; exact hall), HL.out]
            exact ⟨_, _, rfl, Nat.le_refl _, HS.out.ext hext, hx.trans hext⟩
end Go.Proofs.YtldgpcmnmegioaaDoor
