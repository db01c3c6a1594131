/- path.Name -/
import Derived.Test.YtldgpcmnmegioaaDoorProg
import Derived.Test.YtldgpcmnmegioaaDoorSign
import Derived.WalkKit
import Derived.WalkSpells
import Derived.WalkLawsBesides
import Derived.BigGuardPart
import Derived.Handy
import Derived.Lib.Hide
namespace Go.Proofs.YtldgpcmnmegioaaDoor
open Go.RowKit
def signs (l : List UInt8) : Bool := l.all fun b => signB (b.toNat : Int)
def nameL (l : List UInt8) : Bool := decide (1 ≤ l.length ∧ l.length ≤ 12 ∧ l ≠ [46] ∧ l ≠ [46, 46]) && signs l
theorem width_pos (s : ByteArray) (pos : Nat) (h : pos < s.size) : 1 ≤ (Utf8.decode s pos).2 := by
  by_cases ha : (s[pos]'h).toNat < 128
  · rw [decode_ascii s pos h ha]
    exact Nat.le_refl _
  · exact (decode_high s pos h (by omega)).2
theorem signB_lt {c : Int} (h : signB c = true) : c < 128 := by
  have := of_decide_eq_true h; omega
def okTo (s : ByteArray) (pos : Nat) : Prop := pos ≤ s.size ∧ signs (s.data.toList.take pos) = true
theorem okTo_zero (s : ByteArray) : okTo s 0 := ⟨Nat.zero_le _, by simp [signs]⟩
theorem signs_append (a b : List UInt8) : signs (a ++ b) = (signs a && signs b) := by simp [signs]
theorem signs_cons (a : UInt8) (b : List UInt8) : signs (a :: b) = (signB (a.toNat : Int) && signs b) := by simp [signs]
theorem split_at (s : ByteArray) (pos : Nat) (h : pos < s.size) : s.data.toList = s.data.toList.take pos ++ s[pos] :: s.data.toList.drop (pos + 1) := by
  have h' : pos < s.data.toList.length := by simpa using h
  conv => lhs; rw [← List.take_append_drop pos s.data.toList]
  rw [List.drop_eq_getElem_cons h']; rfl
theorem take_snoc (s : ByteArray) (k : Nat) (h : k < s.size) : s.data.toList.take (k + 1) = s.data.toList.take k ++ [s[k]] := by
  rw [List.take_succ_eq_append_getElem (by simpa using h)]; rfl
theorem decode_sign (s : ByteArray) (pos : Nat) (h : pos < s.size) (hs : signB ((Utf8.decode s pos).1 : Int) = true) : Utf8.decode s pos = ((s[pos]'h).toNat, 1) := by
  by_cases ha : (s[pos]'h).toNat < 128
  · exact decode_ascii s pos h ha
  · have := (decode_high s pos h (by omega)).1
    have := signB_lt hs
    omega
theorem okTo_step (s : ByteArray) (pos : Nat) (h : pos < s.size) (ho : okTo s pos) (hs : signB ((Utf8.decode s pos).1 : Int) = true) : okTo s (pos + (Utf8.decode s pos).2) := by
  have e := decode_sign s pos h hs
  rw [e] at hs ⊢
  refine ⟨by simp; omega, ?_⟩
  show signs (List.take (pos + 1) _) = true
  rw [take_snoc s pos h, signs_append, ho.2, signs_cons, hs]; simp [signs]
theorem nameL_bad (s : ByteArray) (pos : Nat) (h : pos < s.size) (hs : signB ((Utf8.decode s pos).1 : Int) = false) : nameL s.data.toList = false := by
  have : signs s.data.toList = false := by
    rw [split_at s pos h, signs_append, signs_cons]
    have : signB ((s[pos]'h).toNat : Int) = false := by
      by_cases ha : (s[pos]'h).toNat < 128
      · rw [decode_ascii s pos h ha] at hs; exact hs
      · exact signB_f (by omega)
    rw [this]; simp
  simp [nameL, this]
theorem nameL_good (s : ByteArray) (pos : Nat) (h : ¬ pos < s.size) (ho : okTo s pos) (h1 : 1 ≤ s.size) (h2 : s.size ≤ 12) (h3 : s.toList ≠ [46]) (h4 : s.toList ≠ [46, 46]) : nameL s.data.toList = true := by
  have : s.data.toList.take pos = s.data.toList := List.take_of_length_le (by simp; omega)
  have h5 := ho.2
  rw [this] at h5
  rw [ByteArray.toList_eq] at h3 h4
  simp [nameL, h5, h3, h4, h1, h2]
theorem nameL_empty (s : ByteArray) (h : s.toList.isEmpty = true) : nameL s.data.toList = false := by
  rw [ByteArray.toList_eq] at h; simp at h; simp [nameL, h]
theorem nameL_long (s : ByteArray) (h : 12 < s.size) : nameL s.data.toList = false := by
  have : ¬ s.size ≤ 12 := by omega
  simp [nameL, this]
theorem nameL_dot (s : ByteArray) (h : s.toList = [46]) : nameL s.data.toList = false := by
  rw [ByteArray.toList_eq] at h; simp [nameL, h]
theorem nameL_dots (s : ByteArray) (h : (s.toList == [46, 46]) = true) : nameL s.data.toList = false := by
  have h := beq_iff_eq.1 h
  rw [ByteArray.toList_eq] at h; simp [nameL, h]
theorem size_pos_of (s : ByteArray) (h : s.toList.isEmpty = false) : 1 ≤ s.size := by
  rw [ByteArray.toList_eq] at h; 
  rcases Nat.eq_zero_or_pos s.size with h0 | h0
  · have : s.data.toList = [] := by apply List.eq_nil_of_length_eq_zero; simpa using h0
    rw [this] at h; simp at h
  · exact h0
theorem name_any (s : ByteArray) (w : World) :
    Calls Tryd.prog 37 #[.string s] w fun e w' => e = .returned (.bool (nameL s.data.toList)) ∧ Below w.heap.size w w' := by
  go_enter Tryd.func37, Tryd.ntmps37
  go_wp2_with fail
  · go_ret; exact ⟨ret_bool (nameL_empty s ‹_›).symm, Below.refl _ _⟩
  · go_ret; exact ⟨ret_bool (nameL_long s (by omega)).symm, Below.refl _ _⟩
  · go_ret; exact ⟨ret_bool (nameL_dot s ‹_›).symm, Below.refl _ _⟩
  · go_ret; exact ⟨ret_bool (nameL_dots s ‹_›).symm, Below.refl _ _⟩
  · have h1 := size_pos_of s ‹_›
    go_loopw [] (fun w' => ∃ (pos : Nat), w' = w.iter s pos ∧ okTo s pos) (fun w' => s.size - w'.iterPos w.heap.size)
    case atStart => exact ⟨0, rfl, okTo_zero s⟩
    case round =>
      obtain ⟨pos, rfl, ho⟩ := hrel
      by_cases hp : pos < s.size
      · have hnx : ∀ ty, (Instr.next (.pointer (some ⟨w.heap.size, 0, none⟩)) true ty).run Tryd.prog (w.iter s pos) = _ := fun ty => run_next_any w s pos ty hp
        have hwd := width_pos s pos hp
        cases hs : signB ((Utf8.decode s pos).1 : Int)
        · go_wp2_with (go_at_call 54; refine (sign_any _ _).mono ?_; rintro e w' ⟨rfl, rfl⟩)
          go_ret
          exact ⟨ret_bool (nameL_bad s pos hp hs).symm, (Below.refl _ _).alloc (Nat.le_refl _) _⟩
        · go_wp2_with (go_at_call 54; refine (sign_any _ _).mono ?_; rintro e w' ⟨rfl, rfl⟩)
          go_roundw
          case rel => exact ⟨_, rfl, okTo_step s pos hp ho hs⟩
          case measure => simp; omega
      · have hnx : ∀ ty, (Instr.next (.pointer (some ⟨w.heap.size, 0, none⟩)) true ty).run Tryd.prog (w.iter s pos) = _ := fun ty => run_next_end w s pos ty hp
        go_wp2
        go_ret
        exact ⟨ret_bool (nameL_good s pos hp ho h1 (by omega) ‹_› (by simpa using ‹(s.toList == [46, 46]) = false›)).symm, (Below.refl _ _).alloc (Nat.le_refl _) _⟩
end Go.Proofs.YtldgpcmnmegioaaDoor
