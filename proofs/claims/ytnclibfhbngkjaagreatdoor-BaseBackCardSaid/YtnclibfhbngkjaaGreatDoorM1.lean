/- Several texts of mine, one behind the other: EachSpec, Sign, Name, PathSpec, PathSplit, PathMore, PathWithin, VerSpec, CrcSpec, ArcSpec, BaseSpec, ArcMem, BaseMem, MapKeys, BaseCopy, Rec. -/
import Derived.Test.YtnclibfhbngkjaaGreatDoorM2
import Derived.Test.YtnclibfhbngkjaaGreatDoorProg
import Derived.WalkKit
import Derived.WalkSpells
import Derived.WalkLawsBesides
import Derived.BigGuardPart
import Derived.Handy
import Derived.Lib.Hide
import Derived.Deep.RegionHeld3
import Derived.StillTailTactics
import Derived.BigQuiet
import Derived.Deep.QuietTactic
import Derived.Lib.IndexMore
import Derived.KernelRfl
import Derived.Sort.KeysCollected
import Derived.Outline
namespace Go.Proofs.YtnclibfhbngkjaaGreatDoor
variable {α : Type}
def rAll (one : RSt → α × RSt) : Nat → RSt → List α × RSt
  | 0, s => ([], s)
  | f + 1, s => if s.1.length = 0 then ([], s) else ((one s).1 :: (rAll one f (one s).2).1, (rAll one f (one s).2).2)
/-- A reader of a part takes something. -/
def Takes (one : RSt → α × RSt) : Prop := ∀ s, 0 < s.1.length → (one s).2.1.length < s.1.length
theorem rAll_fuel {one : RSt → α × RSt} (less : Takes one) : ∀ (f g : Nat) (s : RSt), s.1.length ≤ f → s.1.length ≤ g → rAll one f s = rAll one g s
  | 0, 0, s, _, _ => rfl
  | 0, g + 1, s, h, _ => by have : s.1.length = 0 := by omega
                            simp only [rAll, if_pos this]
  | f + 1, 0, s, _, h => by have : s.1.length = 0 := by omega
                            simp only [rAll, if_pos this]
  | f + 1, g + 1, s, hf, hg => by
    by_cases h0 : s.1.length = 0
    · simp only [rAll, if_pos h0]
    · have hl := less s (by omega)
      simp only [rAll, if_neg h0, rAll_fuel less f g (one s).2 (by omega) (by omega)]
/-- All parts of a list, and what is left of it. -/
def rEach (one : RSt → α × RSt) (s : RSt) : List α × RSt := rAll one s.1.length s
theorem rEach_nil (one : RSt → α × RSt) {s : RSt} (h : s.1.length = 0) : rEach one s = ([], s) := by
  unfold rEach; rw [h]; rfl
theorem rEach_cons {one : RSt → α × RSt} (less : Takes one) {s : RSt} (h : 0 < s.1.length) :
    rEach one s = ((one s).1 :: (rEach one (one s).2).1, (rEach one (one s).2).2) := by
  have hl := less s h
  unfold rEach
  obtain ⟨n, hn⟩ : ∃ n, s.1.length = n + 1 := ⟨s.1.length - 1, by omega⟩
  rw [hn]
  simp only [rAll, if_neg (show ¬ s.1.length = 0 by omega), rAll_fuel less n _ (one s).2 (by omega) (Nat.le_refl _)]
/-- What was read goes back to the same bytes. -/
theorem rEach_good {one : RSt → α × RSt} {enc : α → List UInt8} (less : Takes one) (hone : ∀ s x l, one s = (x, (l, false)) → s.2 = false ∧ s.1 = enc x ++ l) :
    ∀ (n : Nat) (s : RSt) (L : List α) (l : List UInt8), s.1.length ≤ n → rEach one s = (L, (l, false)) → s.2 = false ∧ s.1 = L.flatMap enc ++ l ∧ L.length + l.length ≤ s.1.length := by
  intro n
  induction n with
  | zero =>
    intro s L l hs h
    rw [rEach_nil one (by omega)] at h
    simp only [Prod.mk.injEq] at h
    obtain ⟨rfl, h⟩ := h
    subst h
    simp
  | succ n ih =>
    intro s L l hs h
    by_cases h0 : s.1.length = 0
    · rw [rEach_nil one h0] at h
      simp only [Prod.mk.injEq] at h
      obtain ⟨rfl, h⟩ := h
      subst h
      simp
    · have hl := less s (by omega)
      rw [rEach_cons less (by omega)] at h
      simp only [Prod.mk.injEq] at h
      obtain ⟨rfl, h⟩ := h
      obtain ⟨h1, h2, h3⟩ := ih (one s).2 (rEach one (one s).2).1 l (by omega) (by rw [← h])
      have e : one s = ((one s).1, ((one s).2.1, false)) := by rw [← h1]
      obtain ⟨g1, g2⟩ := hone s _ _ e
      refine ⟨g1, ?_, ?_⟩
      · rw [List.flatMap_cons, List.append_assoc, ← h2]; exact g2
      · simp only [List.length_cons]; omega
/-- A text of a list. -/
def oneText (most : Nat) (s : RSt) : List UInt8 × RSt := rRaw most s
theorem oneText_takes (most : Nat) : Takes (oneText most) := fun _ h => rRaw_less h
theorem oneText_good {most : Nat} {s : RSt} {x l : List UInt8} (h : oneText most s = (x, (l, false))) : s.2 = false ∧ s.1 = raw4 x ++ l := by
  have := rRaw_good h; exact ⟨this.1, this.2.1⟩
/-- A number from four bytes' range or not. -/
def u32 (n : Int) : Nat := (n % 4294967296).toNat
theorem u32_lt (n : Int) : u32 n < 4294967296 := by unfold u32; omega
theorem u32_of {n : Nat} (h : n < 4294967296) : u32 (n : Int) = n := by unfold u32; omega
def numI (n : Int) : List UInt8 := num4 (u32 n)
theorem numI_len (n : Int) : (numI n).length = 4 := rfl
theorem raw4_len (l : List UInt8) : (raw4 l).length = 4 + l.length := by simp [raw4, num4_len]
end Go.Proofs.YtnclibfhbngkjaaGreatDoor
namespace Go.Proofs.YtnclibfhbngkjaaGreatDoor
open Go.RowKit
def signB (c : Int) : Bool := decide ((97 ≤ c ∧ c ≤ 122) ∨ (48 ≤ c ∧ c ≤ 57) ∨ c = 45 ∨ c = 46 ∨ c = 95)
theorem signB_t {c : Int} (h : (97 ≤ c ∧ c ≤ 122) ∨ (48 ≤ c ∧ c ≤ 57) ∨ c = 45 ∨ c = 46 ∨ c = 95) : signB c = true := decide_eq_true h
theorem signB_f {c : Int} (h : ¬((97 ≤ c ∧ c ≤ 122) ∨ (48 ≤ c ∧ c ≤ 57) ∨ c = 45 ∨ c = 46 ∨ c = 95)) : signB c = false := decide_eq_false h
theorem sign_any (c : Int) (w : World) :
    Calls Tryz.prog 67 #[.int .i32 c] w fun e w' => e = .returned (.bool (signB c)) ∧ w = w' := by
  go_enter Tryz.func67, Tryz.ntmps67
  go_wp2
  all_goals go_ret
  all_goals refine ⟨ret_bool ?_, rfl⟩
  all_goals first
    | exact (signB_t (by omega)).symm
    | (show (c == 95) = signB c; by_cases h : c = 95
       · rw [signB_t (by omega)]; simpa using h
       · rw [signB_f (by omega)]; simpa using h)
end Go.Proofs.YtnclibfhbngkjaaGreatDoor
namespace Go.Proofs.YtnclibfhbngkjaaGreatDoor
open Go.RowKit
def signs (l : List UInt8) : Bool := l.all fun b => signB (b.toNat : Int)
def nameL (l : List UInt8) : Bool := decide (1 ≤ l.length ∧ l.length ≤ 12 ∧ l ≠ [46] ∧ l ≠ [46, 46]) && signs l
theorem width_pos (s : ByteArray) (pos : Nat) (h : pos < s.size) : 1 ≤ (Utf8.decode s pos).2 := by
  by_cases ha : (s[pos]'h).toNat < 128
  · rw [decode_ascii s pos h ha]
    exact Nat.le_refl _
  · exact (decode_high s pos h (by omega)).2
theorem signB_lt {c : Int} (h : signB c = true) : c < 128 := by
  have := of_decide_eq_true h; omega
def okTo (s : ByteArray) (pos : Nat) : Prop := pos ≤ s.size ∧ signs (s.data.toList.take pos) = true
theorem okTo_zero (s : ByteArray) : okTo s 0 := ⟨Nat.zero_le _, by simp [signs]⟩
theorem signs_append (a b : List UInt8) : signs (a ++ b) = (signs a && signs b) := by simp [signs]
theorem signs_cons (a : UInt8) (b : List UInt8) : signs (a :: b) = (signB (a.toNat : Int) && signs b) := by simp [signs]
theorem split_at (s : ByteArray) (pos : Nat) (h : pos < s.size) : s.data.toList = s.data.toList.take pos ++ s[pos] :: s.data.toList.drop (pos + 1) := by
  have h' : pos < s.data.toList.length := by simpa using h
  conv => lhs; rw [← List.take_append_drop pos s.data.toList]
  rw [List.drop_eq_getElem_cons h']; rfl
theorem take_snoc (s : ByteArray) (k : Nat) (h : k < s.size) : s.data.toList.take (k + 1) = s.data.toList.take k ++ [s[k]] := by
  rw [List.take_succ_eq_append_getElem (by simpa using h)]; rfl
theorem decode_sign (s : ByteArray) (pos : Nat) (h : pos < s.size) (hs : signB ((Utf8.decode s pos).1 : Int) = true) : Utf8.decode s pos = ((s[pos]'h).toNat, 1) := by
  by_cases ha : (s[pos]'h).toNat < 128
  · exact decode_ascii s pos h ha
  · have := (decode_high s pos h (by omega)).1
    have := signB_lt hs
    omega
theorem okTo_step (s : ByteArray) (pos : Nat) (h : pos < s.size) (ho : okTo s pos) (hs : signB ((Utf8.decode s pos).1 : Int) = true) : okTo s (pos + (Utf8.decode s pos).2) := by
  have e := decode_sign s pos h hs
  rw [e] at hs ⊢
  refine ⟨by simp; omega, ?_⟩
  show signs (List.take (pos + 1) _) = true
  rw [take_snoc s pos h, signs_append, ho.2, signs_cons, hs]; simp [signs]
theorem nameL_bad (s : ByteArray) (pos : Nat) (h : pos < s.size) (hs : signB ((Utf8.decode s pos).1 : Int) = false) : nameL s.data.toList = false := by
  have : signs s.data.toList = false := by
    rw [split_at s pos h, signs_append, signs_cons]
    have : signB ((s[pos]'h).toNat : Int) = false := by
      by_cases ha : (s[pos]'h).toNat < 128
      · rw [decode_ascii s pos h ha] at hs; exact hs
      · exact signB_f (by omega)
    rw [this]; simp
  simp [nameL, this]
theorem nameL_good (s : ByteArray) (pos : Nat) (h : ¬ pos < s.size) (ho : okTo s pos) (h1 : 1 ≤ s.size) (h2 : s.size ≤ 12) (h3 : s.toList ≠ [46]) (h4 : s.toList ≠ [46, 46]) : nameL s.data.toList = true := by
  have : s.data.toList.take pos = s.data.toList := List.take_of_length_le (by simp; omega)
  have h5 := ho.2
  rw [this] at h5
  rw [ByteArray.toList_eq] at h3 h4
  simp [nameL, h5, h3, h4, h1, h2]
theorem nameL_empty (s : ByteArray) (h : s.toList.isEmpty = true) : nameL s.data.toList = false := by
  rw [ByteArray.toList_eq] at h; simp at h; simp [nameL, h]
theorem nameL_long (s : ByteArray) (h : 12 < s.size) : nameL s.data.toList = false := by
  have : ¬ s.size ≤ 12 := by omega
  simp [nameL, this]
theorem nameL_dot (s : ByteArray) (h : s.toList = [46]) : nameL s.data.toList = false := by
  rw [ByteArray.toList_eq] at h; simp [nameL, h]
theorem nameL_dots (s : ByteArray) (h : (s.toList == [46, 46]) = true) : nameL s.data.toList = false := by
  have h := beq_iff_eq.1 h
  rw [ByteArray.toList_eq] at h; simp [nameL, h]
theorem size_pos_of (s : ByteArray) (h : s.toList.isEmpty = false) : 1 ≤ s.size := by
  rw [ByteArray.toList_eq] at h; 
  rcases Nat.eq_zero_or_pos s.size with h0 | h0
  · have : s.data.toList = [] := by apply List.eq_nil_of_length_eq_zero; simpa using h0
    rw [this] at h; simp at h
  · exact h0
theorem name_any (s : ByteArray) (w : World) :
    Calls Tryz.prog 28 #[.string s] w fun e w' => e = .returned (.bool (nameL s.data.toList)) ∧ Below w.heap.size w w' := by
  go_enter Tryz.func28, Tryz.ntmps28
  go_wp2_with fail
  · go_ret; exact ⟨ret_bool (nameL_empty s ‹_›).symm, Below.refl _ _⟩
  · go_ret; exact ⟨ret_bool (nameL_long s (by omega)).symm, Below.refl _ _⟩
  · go_ret; exact ⟨ret_bool (nameL_dot s ‹_›).symm, Below.refl _ _⟩
  · go_ret; exact ⟨ret_bool (nameL_dots s ‹_›).symm, Below.refl _ _⟩
  · have h1 := size_pos_of s ‹_›
    go_loopw [] (fun w' => ∃ (pos : Nat), w' = w.iter s pos ∧ okTo s pos) (fun w' => s.size - w'.iterPos w.heap.size)
    case atStart => exact ⟨0, rfl, okTo_zero s⟩
    case round =>
      obtain ⟨pos, rfl, ho⟩ := hrel
      by_cases hp : pos < s.size
      · have hnx : ∀ ty, (Instr.next (.pointer (some ⟨w.heap.size, 0, none⟩)) true ty).run Tryz.prog (w.iter s pos) = _ := fun ty => run_next_any w s pos ty hp
        have hwd := width_pos s pos hp
        cases hs : signB ((Utf8.decode s pos).1 : Int)
        · go_wp2_with (go_at_call 67; refine (sign_any _ _).mono ?_; rintro e w' ⟨rfl, rfl⟩)
          go_ret
          exact ⟨ret_bool (nameL_bad s pos hp hs).symm, (Below.refl _ _).alloc (Nat.le_refl _) _⟩
        · go_wp2_with (go_at_call 67; refine (sign_any _ _).mono ?_; rintro e w' ⟨rfl, rfl⟩)
          go_roundw
          case rel => exact ⟨_, rfl, okTo_step s pos hp ho hs⟩
          case measure => simp; omega
      · have hnx : ∀ ty, (Instr.next (.pointer (some ⟨w.heap.size, 0, none⟩)) true ty).run Tryz.prog (w.iter s pos) = _ := fun ty => run_next_end w s pos ty hp
        go_wp2
        go_ret
        exact ⟨ret_bool (nameL_good s pos hp ho h1 (by omega) ‹_› (by simpa using ‹(s.toList == [46, 46]) = false›)).symm, (Below.refl _ _).alloc (Nat.le_refl _) _⟩
end Go.Proofs.YtnclibfhbngkjaaGreatDoor
namespace Go.Proofs.YtnclibfhbngkjaaGreatDoor
/-- A path's names. -/
def pathL (l : List UInt8) : Option (List (List UInt8)) :=
  if l = [47] then some []
  else if 40 < l.length ∨ l.head? ≠ some 47 then none
  else if 5 < (splitOn 47 l.tail).length then none
  else if (splitOn 47 l.tail).all nameL then some (splitOn 47 l.tail) else none
theorem pathL_root : pathL [47] = some [] := by simp [pathL]
theorem pathL_long {l : List UInt8} (h : 40 < l.length) : pathL l = none := by
  have h1 : l ≠ [47] := fun e => by rw [e] at h; simp at h
  simp [pathL, h1, h]
theorem pathL_head {l : List UInt8} (h1 : l ≠ [47]) (h : l.head? ≠ some 47) : pathL l = none := by
  simp [pathL, h1, h]
theorem pathL_many {l : List UInt8} (h1 : l ≠ [47]) (h : 5 < (splitOn 47 l.tail).length) : pathL l = none := by
  simp only [pathL, if_neg h1, if_pos h]; split <;> rfl
theorem pathL_bad {l : List UInt8} (h1 : l ≠ [47]) (h : (splitOn 47 l.tail).all nameL = false) : pathL l = none := by
  simp only [pathL, if_neg h1, h]; split
  · rfl
  · split <;> rfl
theorem pathL_good {l : List UInt8} (h1 : l ≠ [47]) (h2 : l.length ≤ 40) (h3 : l.head? = some 47) (h4 : (splitOn 47 l.tail).length ≤ 5) (h5 : (splitOn 47 l.tail).all nameL = true) :
    pathL l = some (splitOn 47 l.tail) := by
  unfold pathL; rw [if_neg h1, if_neg (by simp [h3]; omega), if_neg (by omega), if_pos h5]
theorem all_getD {L : List (List UInt8)} {k : Nat} (hk : k < L.length) (h : nameL (L.getD k []) = false) : L.all nameL = false := by
  rw [List.all_eq_false]
  exact ⟨L.getD k [], by simp [hk], by rw [h]; simp⟩
theorem all_take_step {L : List (List UInt8)} {k : Nat} (hk : k < L.length) (h0 : (L.take k).all nameL = true) (h : nameL (L.getD k []) = true) : (L.take (k + 1)).all nameL = true := by
  rw [List.take_succ_eq_append_getElem hk, List.all_append, h0]
  simp at h ⊢
  simpa [hk] using h

theorem signs_no47 {l : List UInt8} (h : signs l = true) : (47 : UInt8) ∉ l := by
  intro hm
  have := (List.all_eq_true.1 h) 47 hm
  exact absurd this (by decide)
theorem nameL_no47 {l : List UInt8} (h : nameL l = true) : (47 : UInt8) ∉ l := by
  unfold nameL at h; simp only [Bool.and_eq_true] at h; exact signs_no47 h.2
/-- What is known of a path's names. -/
theorem pathL_facts {l : List UInt8} {L : List (List UInt8)} (h : pathL l = some L) :
    L.length ≤ 5 ∧ L.all nameL = true ∧ l.length ≤ 40 ∧ (l = [47] ∧ L = [] ∨ l ≠ [47] ∧ L ≠ [] ∧ glue 47 L = l ∧ L = splitOn 47 l.tail) := by
  unfold pathL at h
  split at h
  · rename_i h1; cases h; subst h1; exact ⟨by simp, by simp, by simp, Or.inl ⟨rfl, rfl⟩⟩
  · rename_i h1
    split at h
    · cases h
    · rename_i h2
      split at h
      · cases h
      · rename_i h3
        split at h
        · rename_i h4
          have h := Option.some.inj h
          subst h
          have h2' := not_or.1 h2
          refine ⟨by omega, h4, by omega, Or.inr ⟨h1, splitOn_ne _ _, ?_, rfl⟩⟩
          rw [glue_splitOn]
          have h5 : l.head? = some 47 := by simpa using h2'.2
          cases l with
          | nil => cases h5
          | cons x r => simp at h5; subst h5; rfl
        · cases h
theorem glue_take_len (c : UInt8) (L : List (List UInt8)) (k : Nat) : (glue c (L.take k)).length ≤ (glue c L).length := by
  conv => rhs; rw [← List.take_append_drop k L]
  rw [glue_append, List.length_append]; omega
/-- The path of names. -/
def joinP (L : List (List UInt8)) : List UInt8 := if L = [] then [47] else glue 47 L
theorem joinP_nil : joinP [] = [47] := rfl
theorem joinP_cons (p : List UInt8) (L) : joinP (p :: L) = glue 47 (p :: L) := by simp [joinP]
theorem joinP_len (L : List (List UInt8)) : (joinP L).length ≤ (glue 47 L).length + 1 := by
  unfold joinP; split
  · simp
  · omega
theorem joinP_pathL {l : List UInt8} {L : List (List UInt8)} (h : pathL l = some L) : joinP L = l := by
  rcases (pathL_facts h).2.2.2 with ⟨h1, h2⟩ | ⟨_, h2, h3, _⟩
  · rw [h1, h2]; rfl
  · unfold joinP; rw [if_neg h2]; exact h3
end Go.Proofs.YtnclibfhbngkjaaGreatDoor
namespace Go.Proofs.YtnclibfhbngkjaaGreatDoor
open Go.RowKit
theorem hasPrefix_head (l : List UInt8) (c : UInt8) : Lib.hasPrefix l [c] = decide (l.head? = some c) := by
  cases l with
  | nil => simp [Lib.hasPrefix]
  | cons x r =>
    rw [Bool.eq_iff_iff]; simp [Lib.hasPrefix, List.isPrefixOf]; exact eq_comm
theorem split_tail (s : ByteArray) (w : World) (hE : Env w) (h1 : 1 ≤ s.size) (hs : s.size ≤ 40) :
    Calls Tryz.prog 93 #[.string (s.extract 1 s.size), .string ⟨#[47]⟩] w fun e w' =>
      e = .returned (.slice (some ⟨w.heap.size, 0, none⟩) (splitOn 47 s.data.toList.tail).length (splitOn 47 s.data.toList.tail).length) ∧
        w.alloc (.cells (((splitOn 47 s.data.toList.tail).map bs).map Value.string).toArray 9) = w' := by
  have e1 : s.extract 1 s.size = bs s.data.toList.tail := by
    rw [extract_bs]; congr 1
    rw [List.take_of_length_le (by simp)]; simp
  have h := Tryz.strings_Split_shaped (bs s.data.toList.tail) (bs [47]) w hE.shaped (by rw [bs_size]; simp; omega) (by rw [bs_size]; simp)
  rw [splitB_on, countB_on, bs_data] at h
  rw [e1]
  exact h.mono fun e w' ⟨he, hw⟩ => ⟨he, hw.symm⟩

def SplitR (o : Option (List (List UInt8))) (w : World) (e : Ending) (w' : World) : Prop :=
  match o with
  | none => e = .returned (.tuple #[.slice none 0 0, .bool false]) ∧ Ext w w'
  | some L => ∃ a cap, e = .returned (.tuple #[.slice a L.length cap, .bool true]) ∧ L.length ≤ cap ∧ Strs w' a L ∧ Ext w w'
theorem toList_root {s : ByteArray} (h : (s.toList == [47]) = true) : s.data.toList = [47] := by
  have h := beq_iff_eq.1 h; rwa [ByteArray.toList_eq] at h
theorem toList_not {s : ByteArray} {l : List UInt8} (h : (s.toList == l) = false) : s.data.toList ≠ l := by
  have h := beq_eq_false_iff_ne.1 h; rwa [ByteArray.toList_eq] at h
theorem head_size {s : ByteArray} {c : UInt8} (h : s.data.toList.head? = some c) : 1 ≤ s.size := by
  cases hs : s.data.toList with
  | nil => rw [hs] at h; cases h
  | cons x r => rw [← size_len, hs]; simp
set_option maxHeartbeats 400000 in
theorem path_split (s : ByteArray) (w : World) (hE : Env w) :
    Calls Tryz.prog 73 #[.string s] w (SplitR (pathL s.data.toList) w) := by
  go_enter Tryz.func73, Tryz.ntmps73
  go_wp2_with fail
  · go_ret2; rw [toList_root ‹_›, pathL_root]; exact ⟨none, 0, rfl, Nat.le_refl _, Strs.nil _ _, Ext.refl _⟩
  · go_ret2; rw [pathL_long (by rw [size_len]; omega)]; exact ⟨rfl, Ext.refl _⟩
  · have hn := Lib.hid (toList_not (s := s) (l := [47]) ‹_›)
    refine (Tryz.strings_HasPrefix _ _ _).mono ?_
    rintro e w' ⟨rfl, rfl⟩
    rw [show (({ data := #[47] } : ByteArray).data.toList) = [47] from rfl, hasPrefix_head]
    cases hh : decide (s.data.toList.head? = some 47) with
    | false =>
      have HH := Lib.hid (of_decide_eq_false hh); clear hh
      go_wp2_with fail
      go_ret2; rw [pathL_head hn.out HH.out]; exact ⟨rfl, Ext.refl _⟩
    | true =>
      have HH := Lib.hid (of_decide_eq_true hh); clear hh
      have h1 := head_size HH.out
      go_wp2_with fail
      refine (split_tail s _ hE h1 (by omega)).mono ?_
      rintro e w1 ⟨rfl, hw1⟩
      have hx : Ext w' w1 := by rw [← hw1]; exact Ext.alloc _ _
      have hS : Strs w1 (some ⟨w'.heap.size, 0, none⟩) (splitOn 47 s.data.toList.tail) := by rw [← hw1]; exact Strs.made _ _ _
      have hL1 := splitOn_length_pos 47 s.data.toList.tail
      clear hw1
      generalize hL : splitOn 47 s.data.toList.tail = L at *
      have HL := Lib.hid hL; clear hL
      have HS := Lib.hid hS; clear hS
      by_cases h5 : 5 < L.length
      · go_wp2_with fail
        go_ret2; rw [pathL_many hn.out (by rw [HL.out]; exact h5)]; exact ⟨rfl, hx⟩
      · go_wp2_with fail
        go_loopw [25] (fun i wr => ∃ k : Nat, k ≤ L.length ∧ i = .int .i64 k ∧ Hid ((L.take k).all nameL = true) ∧ Ext w1 wr) (fun i _ => L.length - (intOf i).toNat)
        case atStart => exact ⟨0, Nat.zero_le _, rfl, Lib.hid (by simp), Ext.refl _⟩
        case round =>
          obtain ⟨k, hk, rfl, hall, hext⟩ := hrel
          by_cases hlt : k < L.length
          · have hcell := hext.cell (HS.out.at0 k hlt)
            obtain ⟨p, hp⟩ : ∃ p, p = L.getD k [] := ⟨_, rfl⟩
            rw [← hp] at hcell
            have HP := Lib.hid hp; clear hp
            cases hname : nameL p with
            | false =>
              have HN := Lib.hid hname; clear hname
              go_wp2_with (go_at_call 28; refine (name_any _ _).mono ?_; rintro e w2 ⟨rfl, hb2⟩; rw [bs_data, HN.out])
              go_ret2
              rw [pathL_bad hn.out (by rw [HL.out]; exact all_getD hlt (by rw [← HP.out]; exact HN.out))]; exact ⟨rfl, hx.trans (hext.trans hb2)⟩
            | true =>
              have HN := Lib.hid hname; clear hname
              go_wp2_with (go_at_call 28; refine (name_any _ _).mono ?_; rintro e w2 ⟨rfl, hb2⟩; rw [bs_data, HN.out])
              go_roundw
              case rel => exact ⟨k + 1, by omega, by go_num, Lib.hid (all_take_step hlt hall.out (by rw [← HP.out]; exact HN.out)), hext.trans hb2⟩
              case measure => simp [intOf]; omega
          · have hkk : k = L.length := by omega
            go_wp2
            go_ret2
            subst hkk
            have hall := hall.out
            rw [List.take_length] at hall
            rw [pathL_good hn.out (by rw [size_len]; omega) HH.out (by rw [HL.out]; omega) (by rw [HL.out]; exact hall), HL.out]
            exact ⟨_, _, rfl, Nat.le_refl _, HS.out.ext hext, hx.trans hext⟩
end Go.Proofs.YtnclibfhbngkjaaGreatDoor
namespace Go.Proofs.YtnclibfhbngkjaaGreatDoor
open Go.RowKit
theorem split_none {s : ByteArray} (w : World) (hE : Env w) (h : pathL s.data.toList = none) :
    Calls Tryz.prog 73 #[.string s] w fun e w' => e = .returned (.tuple #[.slice none 0 0, .bool false]) ∧ Ext w w' := by
  have := path_split s w hE; rw [h] at this; exact this
theorem split_some {s : ByteArray} {L : List (List UInt8)} (w : World) (hE : Env w) (h : pathL s.data.toList = some L) :
    Calls Tryz.prog 73 #[.string s] w fun e w' => ∃ a cap, e = .returned (.tuple #[.slice a L.length cap, .bool true]) ∧ L.length ≤ cap ∧ Strs w' a L ∧ Ext w w' := by
  have := path_split s w hE; rw [h] at this; exact this

/-- A path of something below the root? -/
def rightL (l : List UInt8) : Bool := match pathL l with
  | some L => decide (0 < L.length)
  | none => false
theorem rightL_none {l} (h : pathL l = none) : rightL l = false := by simp [rightL, h]
theorem rightL_some {l L} (h : pathL l = some L) : rightL l = decide (0 < L.length) := by simp [rightL, h]
theorem path_right (s : ByteArray) (w : World) (hE : Env w) :
    Calls Tryz.prog 71 #[.string s] w fun e w' => e = .returned (.bool (rightL s.data.toList)) ∧ Ext w w' := by
  go_enter Tryz.func71, Tryz.ntmps71
  go_wp2_with fail
  cases hp : pathL s.data.toList with
  | none =>
    have HP := Lib.hid hp; clear hp
    refine (split_none _ hE HP.out).mono ?_
    rintro e w1 ⟨rfl, hx⟩
    go_wp2_with fail
    go_ret; exact ⟨ret_bool (rightL_none HP.out).symm, hx⟩
  | some L =>
    have HP := Lib.hid hp; clear hp
    refine (split_some _ hE HP.out).mono ?_
    rintro e w1 ⟨a, cap, rfl, hcap, hS, hx⟩
    go_wp2_with fail
    go_ret; exact ⟨ret_bool (by rw [rightL_some HP.out]; first | done | simp), hx⟩








































theorem keepS {a b : World} {p : Addr} {v : Value} (h : Ext a b) (hc : a.cell? p = some v) : Ext a b ∧ b.cell? p = some v := ⟨h, h.cell hc⟩
/-- The directory of a path, and its last name. -/
def parentL (l : List UInt8) : Option (List UInt8 × List UInt8) := match pathL l with
  | some (p :: q) => some (joinP ((p :: q).take q.length), (p :: q).getD q.length [])
  | _ => none
def ParentR (o : Option (List UInt8 × List UInt8)) (w : World) (e : Ending) (w' : World) : Prop :=
  match o with
  | none => e = .returned (.tuple #[.string (bs []), .string (bs []), .bool false]) ∧ Ext w w'
  | some (d, n) => e = .returned (.tuple #[.string (bs d), .string (bs n), .bool true]) ∧ Ext w w'
































































end Go.Proofs.YtnclibfhbngkjaaGreatDoor
namespace Go.Proofs.YtnclibfhbngkjaaGreatDoor
open Go.RowKit
/-- Does a path stand within another one? -/
def withinL (s d : List UInt8) : Bool := match pathL s, pathL d with
  | some L, some U => decide (U.length < L.length) && decide (L.take U.length = U)
  | _, _ => false
theorem take_step_eq {A B : List (List UInt8)} {k : Nat} (ha : k < A.length) (hb : k < B.length) (h : A.take k = B.take k) (he : A.getD k [] = B.getD k []) : A.take (k + 1) = B.take (k + 1) := by
  rw [List.take_succ_eq_append_getElem ha, List.take_succ_eq_append_getElem hb, h]
  simp [ha, hb] at he
  rw [he]
theorem take_ne {A B : List (List UInt8)} {k : Nat} (_ha : k < A.length) (hb : k < B.length) (he : A.getD k [] ≠ B.getD k []) : A.take B.length ≠ B := by
  intro h
  apply he
  have h1 : (A.take B.length).getD k [] = B.getD k [] := by rw [h]
  rw [← h1]
  simp [List.getD, hb]
set_option maxHeartbeats 400000 in
theorem path_within (s d : ByteArray) (w : World) (hE : Env w) :
    Calls Tryz.prog 39 #[.string s, .string d] w fun e w' => e = .returned (.bool (withinL s.data.toList d.data.toList)) ∧ Ext w w' := by
  go_enter Tryz.func39, Tryz.ntmps39
  go_wp2_with fail
  cases hp : pathL s.data.toList with
  | none =>
    have HP := Lib.hid hp; clear hp
    refine (split_none _ hE HP.out).mono ?_
    rintro e w1 ⟨rfl, hx⟩
    go_wp2_with fail
    refine (path_split _ _ (hE.ext hx)).mono ?_
    intro e w2 hr
    cases hq : pathL d.data.toList with
    | none =>
      rw [hq] at hr; obtain ⟨rfl, hx2⟩ := hr; clear hq
      go_wp2_with fail
      go_ret; exact ⟨ret_bool (by simp [withinL, HP.out]), hx.trans hx2⟩
    | some U =>
      rw [hq] at hr; obtain ⟨a, cap, rfl, -, -, hx2⟩ := hr; clear hq
      go_wp2_with fail
      go_ret; exact ⟨ret_bool (by simp [withinL, HP.out]), hx.trans hx2⟩
  | some L =>
    have HP := Lib.hid hp; clear hp
    refine (split_some _ hE HP.out).mono ?_
    rintro e w1 ⟨a, cap, rfl, hcap, hS, hx⟩
    have HS := Lib.hid hS; clear hS
    go_wp2_with fail
    cases hq : pathL d.data.toList with
    | none =>
      have HQ := Lib.hid hq; clear hq
      refine (split_none _ (hE.ext hx) HQ.out).mono ?_
      rintro e w2 ⟨rfl, hx2⟩
      go_wp2_with fail
      go_ret; exact ⟨ret_bool (by simp [withinL, HP.out, HQ.out]), hx.trans hx2⟩
    | some U =>
      have HQ := Lib.hid hq; clear hq
      refine (split_some _ (hE.ext hx) HQ.out).mono ?_
      rintro e w2 ⟨b, cap2, rfl, hcap2, hT, hx2⟩
      have HT := Lib.hid hT; clear hT
      have hu := (pathL_facts HQ.out).1
      have hl := (pathL_facts HP.out).1
      have hxx := hx.trans hx2
      by_cases hle : L.length ≤ U.length
      · go_wp2_with fail
        go_ret; exact ⟨ret_bool (by simp [withinL, HP.out, HQ.out]; omega), hxx⟩
      · have hlt : U.length < L.length := by omega
        go_wp2_with fail
        go_loopw [36] (fun i wr => ∃ k : Nat, k ≤ U.length ∧ i = .int .i64 k ∧ Hid (L.take k = U.take k) ∧ Ext w2 wr) (fun i _ => U.length - (intOf i).toNat)
        case atStart => exact ⟨0, Nat.zero_le _, rfl, Lib.hid (by simp), Ext.refl _⟩
        case round =>
          obtain ⟨k, hk, rfl, heq, hext⟩ := hrel
          by_cases hkl : k < U.length
          · obtain ⟨g, off, ha, -, hc1⟩ := HS.out.at (by intro e; rw [e] at hlt; simp at hlt)
            obtain ⟨g2, off2, hb, -, hc2⟩ := HT.out.at (by intro e; rw [e] at hkl; simp at hkl)
            subst ha hb
            have hcell1 := hext.cell (hx2.cell (hc1 k (by omega)))
            have hcell2 := hext.cell (hc2 k hkl)
            clear hc1 hc2
            obtain ⟨p, hp⟩ : ∃ p, p = L.getD k [] := ⟨_, rfl⟩
            obtain ⟨q, hq⟩ : ∃ q, q = U.getD k [] := ⟨_, rfl⟩
            rw [← hp] at hcell1
            rw [← hq] at hcell2
            have HPP := Lib.hid hp; clear hp
            have HQQ := Lib.hid hq; clear hq
            have hkl2 : k < L.length := by omega
            by_cases hpq : p = q
            · subst hpq
              go_wp2_with fail
              go_roundw
              case rel => exact ⟨k + 1, by omega, by go_num, Lib.hid (take_step_eq (by omega) hkl heq.out (by rw [← HPP.out, ← HQQ.out])), hext⟩
              case measure => simp [intOf]; omega
            · have hb1 := bs_beq_ne hpq
              have hb2 := bs_bne_ne hpq
              have HPQ := Lib.hid hpq; clear hpq
              go_wp2_with fail
              go_ret
              exact ⟨ret_bool (by
                have := take_ne (A := L) (B := U) (by omega) hkl (by rw [← HPP.out, ← HQQ.out]; exact HPQ.out)
                simp [withinL, HP.out, HQ.out, this]), hxx.trans hext⟩
          · have hkk : k = U.length := by omega
            go_wp2_with fail
            go_ret
            subst hkk
            have h2 := heq.out
            rw [List.take_length] at h2
            exact ⟨ret_bool (by simp [withinL, HP.out, HQ.out, h2, hlt]), hxx.trans hext⟩
end Go.Proofs.YtnclibfhbngkjaaGreatDoor
namespace Go.Proofs.YtnclibfhbngkjaaGreatDoor
/-- The number that a text of a version's number tells. -/
def numV (l : List UInt8) : Option Nat := (canon l).bind fun n => if n ≤ 9999 then some n else none
theorem numV_some {l : List UInt8} {n : Nat} (h : numV l = some n) : canon l = some n ∧ n ≤ 9999 := by
  unfold numV at h
  cases hc : canon l with
  | none => rw [hc] at h; cases h
  | some m =>
    rw [hc] at h
    simp only [Option.bind_some] at h
    split at h
    · have h := Option.some.inj h
      subst h
      exact ⟨rfl, by assumption⟩
    · cases h
theorem numV_of {l : List UInt8} {n : Nat} (h : canon l = some n) (hn : n ≤ 9999) : numV l = some n := by simp [numV, h, hn]
theorem numV_inj {a b : List UInt8} {n : Nat} (ha : numV a = some n) (hb : numV b = some n) : a = b := by
  rw [← (canon_iff a n).1 (numV_some ha).1, ← (canon_iff b n).1 (numV_some hb).1]
theorem numV_nil : numV [] = none := rfl

theorem index_miss {c : UInt8} {l : List UInt8} (h : c ∉ l) : Lib.index l [c] = -1 := by
  induction l with
  | nil => rfl
  | cons x r ih =>
    have h1 : x ≠ c := fun e => h (by simp [e])
    have h2 : c ∉ r := fun e => h (by simp [e])
    rw [index_cons_ne x c r h1, ih h2]; rfl
theorem index_hit {c : UInt8} {a : List UInt8} (r : List UInt8) (h : c ∉ a) : Lib.index (a ++ c :: r) [c] = a.length := by
  induction a with
  | nil => exact index_cons_eq c r
  | cons x a ih =>
    have h1 : x ≠ c := fun e => h (by simp [e])
    have h2 : c ∉ a := fun e => h (by simp [e])
    have e : ((a.length : Int) == -1) = false := by rw [beq_eq_false_iff_ne]; omega
    rw [List.cons_append, index_cons_ne x c _ h1, ih h2, e]; simp
theorem cut_none {c : UInt8} {l : List UInt8} (h : c ∉ l) : Lib.cut l [c] = (l, [], false) := by
  unfold Lib.cut; rw [index_miss h]; rfl
theorem cut_some {c : UInt8} {a : List UInt8} (r : List UInt8) (h : c ∉ a) : Lib.cut (a ++ c :: r) [c] = (a, r, true) := by
  unfold Lib.cut; rw [index_hit r h, if_pos (by omega)]
  have e : ((a.length : Int)).toNat = a.length := by omega
  rw [e]
  simp
theorem split_mem {c : UInt8} {l : List UInt8} (h : c ∈ l) : ∃ a r, l = a ++ c :: r ∧ c ∉ a := by
  induction l with
  | nil => cases h
  | cons x l ih =>
    by_cases hx : x = c
    · exact ⟨[], l, by simp [hx], by simp⟩
    · have h : c ∈ l := by
        rcases List.mem_cons.1 h with h | h
        · exact absurd h.symm hx
        · exact h
      obtain ⟨a, r, rfl, ha⟩ := ih h
      exact ⟨x :: a, r, rfl, by simp [ha]; exact fun e => hx e.symm⟩

/-- The numbers of these texts. -/
def numsV : List (List UInt8) → Option (List Nat)
  | [] => some []
  | p :: r => match numV p, numsV r with
    | some n, some m => some (n :: m)
    | _, _ => none
theorem numsV_cons {p : List UInt8} {r : List (List UInt8)} {n : Nat} {m : List Nat} (h : numV p = some n) (k : numsV r = some m) : numsV (p :: r) = some (n :: m) := by simp [numsV, h, k]
theorem numsV_snoc {L : List (List UInt8)} {X : List Nat} {p : List UInt8} {n : Nat} (h : numsV L = some X) (k : numV p = some n) : numsV (L ++ [p]) = some (X ++ [n]) := by
  induction L generalizing X with
  | nil =>
    have h := Option.some.inj h
    subst h
    exact numsV_cons k rfl
  | cons q L ih =>
    unfold numsV at h
    cases hq : numV q with
    | none => rw [hq] at h; cases h
    | some a =>
      cases hL : numsV L with
      | none => rw [hq, hL] at h; cases h
      | some Y =>
        rw [hq, hL] at h
        have h := Option.some.inj h
        subst h
        exact numsV_cons hq (ih hL)
theorem numsV_bad {L : List (List UInt8)} {p : List UInt8} (hp : p ∈ L) (k : numV p = none) : numsV L = none := by
  induction L with
  | nil => cases hp
  | cons q L ih =>
    unfold numsV
    rcases List.mem_cons.1 hp with rfl | hp
    · rw [k]
    · rw [ih hp]; cases numV q <;> rfl
theorem numsV_len {L : List (List UInt8)} {X : List Nat} (h : numsV L = some X) : X.length = L.length := by
  induction L generalizing X with
  | nil => have h := Option.some.inj h; subst h; rfl
  | cons q L ih =>
    unfold numsV at h
    cases hq : numV q with
    | none => rw [hq] at h; cases h
    | some a =>
      cases hL : numsV L with
      | none => rw [hq, hL] at h; cases h
      | some Y =>
        rw [hq, hL] at h
        have h := Option.some.inj h
        subst h
        simp [ih hL]
theorem numsV_inj {A B : List (List UInt8)} {X : List Nat} (ha : numsV A = some X) (hb : numsV B = some X) : A = B := by
  induction A generalizing B X with
  | nil =>
    have ha := Option.some.inj ha; subst ha
    have := numsV_len hb
    exact (List.eq_nil_of_length_eq_zero this.symm).symm
  | cons p A ih =>
    cases B with
    | nil =>
      have hb := Option.some.inj hb; subst hb
      exact absurd (numsV_len ha) (by simp)
    | cons q B =>
      unfold numsV at ha hb
      cases hp : numV p with
      | none => rw [hp] at ha; cases ha
      | some a =>
        cases hq : numV q with
        | none => rw [hq] at hb; cases hb
        | some b =>
          cases hA : numsV A with
          | none => rw [hp, hA] at ha; cases ha
          | some U =>
            cases hB : numsV B with
            | none => rw [hq, hB] at hb; cases hb
            | some V =>
              rw [hp, hA] at ha
              rw [hq, hB] at hb
              have ha := Option.some.inj ha
              have hb := Option.some.inj hb
              rw [← hb] at ha
              have e1 := (List.cons.inj ha).1
              have e2 := (List.cons.inj ha).2
              subst e1 e2
              rw [numV_inj hp hq, ih hA hB]

/-- The revision behind the first sign 45. -/
def revV (more : Bool) (t : List UInt8) : Option Nat :=
  if more then (numV t).bind fun n => if 1 ≤ n then some n else none else some 0
theorem revV_no (t : List UInt8) : revV false t = some 0 := rfl
theorem revV_bad {t : List UInt8} (h : numV t = none) : revV true t = none := by simp [revV, h]
theorem revV_zero {t : List UInt8} (h : numV t = some 0) : revV true t = none := by simp [revV, h]
theorem revV_ok {t : List UInt8} {n : Nat} (h : numV t = some n) (hn : 1 ≤ n) : revV true t = some n := by
  have : ¬ n = 0 := by omega
  simp [revV, h]; omega
/-- A version's numbers, and its revision. -/
def verL (l : List UInt8) : Option (List Nat × Nat) :=
  match revV (Lib.cut l [45]).2.2 (Lib.cut l [45]).2.1, numsV (splitOn 46 (Lib.cut l [45]).1) with
  | some r, some X => if X.length ≤ 4 then some (X, r) else none
  | _, _ => none
theorem verL_rev {l h t : List UInt8} {m : Bool} (hc : Lib.cut l [45] = (h, t, m)) (hr : revV m t = none) : verL l = none := by simp [verL, hc, hr]
theorem verL_nums {l h t : List UInt8} {m : Bool} (hc : Lib.cut l [45] = (h, t, m)) (hr : numsV (splitOn 46 h) = none) : verL l = none := by
  simp only [verL, hc, hr]
  split
  · rename_i h; cases h
  · rfl
theorem verL_many {l h t : List UInt8} {m : Bool} {X : List Nat} (hc : Lib.cut l [45] = (h, t, m)) (hr : numsV (splitOn 46 h) = some X) (hX : 4 < X.length) : verL l = none := by
  simp only [verL, hc, hr]
  split
  · rw [if_neg]
    rename_i h1
    have h1 := Option.some.inj h1
    subst h1; omega
  · rfl
theorem verL_good {l h t : List UInt8} {m : Bool} {X : List Nat} {r : Nat} (hc : Lib.cut l [45] = (h, t, m)) (hr : revV m t = some r) (hn : numsV (splitOn 46 h) = some X) (hX : X.length ≤ 4) : verL l = some (X, r) := by
  simp [verL, hc, hr, hn, hX]

theorem split_inj {c : UInt8} {a b : List UInt8} (h : splitOn c a = splitOn c b) : a = b := by
  have := congrArg (glue c) h
  rw [glue_splitOn, glue_splitOn] at this
  exact (List.cons.inj this).2
theorem verL_inj {a b : List UInt8} {v : List Nat × Nat} (ha : verL a = some v) (hb : verL b = some v) : a = b := by
  have key : ∀ {l : List UInt8}, verL l = some v → ∃ h t m, Lib.cut l [45] = (h, t, m) ∧ revV m t = some v.2 ∧ numsV (splitOn 46 h) = some v.1 := by
    intro l hl
    refine ⟨(Lib.cut l [45]).1, (Lib.cut l [45]).2.1, (Lib.cut l [45]).2.2, rfl, ?_⟩
    unfold verL at hl
    split at hl
    · rename_i r X h1 h2
      split at hl
      · have hl := Option.some.inj hl
        subst hl
        exact ⟨h1, h2⟩
      · cases hl
    · cases hl
  have rev : ∀ {m t r}, revV m t = some r → m = true ∧ 1 ≤ r ∧ numV t = some r ∨ m = false ∧ r = 0 := by
    intro m t r h
    cases m with
    | false => exact Or.inr ⟨rfl, (Option.some.inj h).symm⟩
    | true =>
      simp only [revV, if_true] at h
      cases hn : numV t with
      | none => rw [hn] at h; cases h
      | some n =>
        rw [hn] at h
        simp only [Option.bind_some] at h
        split at h
        · have h := Option.some.inj h
          subst h
          exact Or.inl ⟨rfl, by assumption, rfl⟩
        · cases h
  obtain ⟨h1, t1, m1, c1, r1, n1⟩ := key ha
  obtain ⟨h2, t2, m2, c2, r2, n2⟩ := key hb
  have eh : h1 = h2 := split_inj (numsV_inj n1 n2)
  have sh : ∀ {l h t m}, Lib.cut l [45] = (h, t, m) → l = if m = true then h ++ 45 :: t else h := by
    intro l h t m hc
    by_cases hm : 45 ∈ l
    · obtain ⟨x, y, rfl, hx⟩ := split_mem hm
      rw [cut_some y hx] at hc
      simp only [Prod.mk.injEq] at hc
      obtain ⟨rfl, rfl, rfl⟩ := hc
      simp
    · rw [cut_none hm] at hc
      simp only [Prod.mk.injEq] at hc
      obtain ⟨rfl, rfl, rfl⟩ := hc
      simp
  rw [sh c1, sh c2, eh]
  rcases rev r1 with ⟨rfl, p1, q1⟩ | ⟨rfl, p1⟩ <;> rcases rev r2 with ⟨rfl, p2, q2⟩ | ⟨rfl, p2⟩
  · rw [numV_inj q1 q2]
  · omega
  · omega
  · rfl

/-- Which one of two lists of numbers is the greater one. -/
def cmpN (a b : Nat) : Int := if a < b then -1 else if b < a then 1 else 0
def cmpL : List Nat → List Nat → Int
  | [], [] => 0
  | [], _ :: _ => -1
  | _ :: _, [] => 1
  | a :: x, b :: y => if a < b then -1 else if b < a then 1 else cmpL x y
def cmpP (v u : List Nat × Nat) : Int := if cmpL v.1 u.1 = 0 then cmpN v.2 u.2 else cmpL v.1 u.1
def cmpV : Option (List Nat × Nat) → Option (List Nat × Nat) → Int
  | some v, some u => cmpP v u
  | some _, none => 1
  | none, some _ => -1
  | none, none => 0
theorem cmpN_neg (a b : Nat) : cmpN a b = - cmpN b a := by unfold cmpN; repeat' split
                                                           all_goals omega
theorem cmpL_neg : ∀ (x y : List Nat), cmpL x y = - cmpL y x
  | [], [] => rfl
  | [], _ :: _ => rfl
  | _ :: _, [] => rfl
  | a :: x, b :: y => by
    have := cmpL_neg x y
    unfold cmpL
    repeat' split
    all_goals omega
theorem cmpV_neg (a b : Option (List Nat × Nat)) : cmpV a b = - cmpV b a := by
  cases a <;> cases b <;> try rfl
  rename_i v u
  show cmpP v u = - cmpP u v
  unfold cmpP
  have h1 := cmpL_neg v.1 u.1
  have h2 := cmpN_neg v.2 u.2
  repeat' split
  all_goals omega
theorem cmpL_eq : ∀ (x y : List Nat), cmpL x y = 0 ↔ x = y
  | [], [] => by simp [cmpL]
  | [], _ :: _ => by simp [cmpL]
  | _ :: _, [] => by simp [cmpL]
  | a :: x, b :: y => by
    have := cmpL_eq x y
    unfold cmpL
    rw [List.cons.injEq]
    repeat' split
    · constructor
      · intro h; omega
      · rintro ⟨h, _⟩; omega
    · constructor
      · intro h; omega
      · rintro ⟨h, _⟩; omega
    · rw [this]
      constructor
      · intro h; exact ⟨by omega, h⟩
      · exact fun h => h.2
theorem cmpN_eq (a b : Nat) : cmpN a b = 0 ↔ a = b := by
  unfold cmpN
  repeat' split
  all_goals omega
theorem cmpP_eq (v u : List Nat × Nat) : cmpP v u = 0 ↔ v = u := by
  have h1 := cmpL_eq v.1 u.1
  have h2 := cmpN_eq v.2 u.2
  unfold cmpP
  split
  · rename_i h
    rw [h2]
    constructor
    · intro k; exact Prod.ext (h1.1 h) k
    · intro k; rw [k]
  · rename_i h
    constructor
    · intro k; exact absurd k h
    · intro k; subst k; exact absurd (h1.2 rfl) h
theorem cmpN_trans {a b c : Nat} (h : 0 ≤ cmpN a b) (k : 0 ≤ cmpN b c) : 0 ≤ cmpN a c ∧ (cmpN a c = 0 → cmpN a b = 0 ∧ cmpN b c = 0) := by
  unfold cmpN at *
  repeat' split at h
  all_goals repeat' split at k
  all_goals repeat' split
  all_goals omega
theorem cmpL_trans : ∀ {x y z : List Nat}, 0 ≤ cmpL x y → 0 ≤ cmpL y z → 0 ≤ cmpL x z ∧ (cmpL x z = 0 → cmpL x y = 0 ∧ cmpL y z = 0)
  | [], [], _ => fun _ k => ⟨k, fun h => ⟨rfl, h⟩⟩
  | [], _ :: _, _ => fun h _ => by simp [cmpL] at h
  | _ :: _, [], [] => fun _ _ => by simp [cmpL]
  | _ :: _, [], _ :: _ => fun _ k => by simp [cmpL] at k
  | _ :: _, _ :: _, [] => fun _ _ => by simp [cmpL]
  | a :: x, b :: y, c :: z => fun h k => by
    have ih : 0 ≤ cmpL x y → 0 ≤ cmpL y z → 0 ≤ cmpL x z ∧ (cmpL x z = 0 → cmpL x y = 0 ∧ cmpL y z = 0) := fun h k => cmpL_trans h k
    have e1 : cmpL (a :: x) (b :: y) = if a < b then -1 else if b < a then 1 else cmpL x y := rfl
    have e2 : cmpL (b :: y) (c :: z) = if b < c then -1 else if c < b then 1 else cmpL y z := rfl
    have e3 : cmpL (a :: x) (c :: z) = if a < c then -1 else if c < a then 1 else cmpL x z := rfl
    rw [e1] at h
    rw [e2] at k
    rw [e1, e2, e3]
    generalize cmpL x y = p at *
    generalize cmpL y z = q at *
    generalize cmpL x z = r at *
    repeat' split at h
    all_goals repeat' split at k
    all_goals repeat' split
    all_goals omega
theorem cmpP_trans {u v w : List Nat × Nat} (h : 0 ≤ cmpP u v) (k : 0 ≤ cmpP v w) : 0 ≤ cmpP u w := by
  have t1 := @cmpL_trans u.1 v.1 w.1
  have t2 := @cmpN_trans u.2 v.2 w.2
  unfold cmpP at *
  split at h <;> split at k <;> rename_i a b
  · have := t1 (by omega) (by omega)
    have := t2 h k
    split <;> omega
  · have := t1 (by omega) (by omega)
    split
    · rename_i e; have := this.2 e; omega
    · omega
  · have := t1 (by omega) (by omega)
    split
    · rename_i e; have := this.2 e; omega
    · omega
  · have := t1 (by omega) (by omega)
    split
    · rename_i e; have := this.2 e; omega
    · omega
theorem cmpV_trans {a b c : Option (List Nat × Nat)} (h : 0 ≤ cmpV a b) (k : 0 ≤ cmpV b c) : 0 ≤ cmpV a c := by
  cases a <;> cases b <;> cases c <;> simp only [cmpV] at * <;> first | omega | exact cmpP_trans h k
theorem cmpV_same {a b : List UInt8} {v : List Nat × Nat} (ha : verL a = some v) : cmpV (verL a) (verL b) = 0 ↔ a = b := by
  rw [ha]
  cases hb : verL b with
  | none =>
    constructor
    · intro h; simp [cmpV] at h
    · intro h; subst h; rw [ha] at hb; cases hb
  | some u =>
    show cmpP v u = 0 ↔ _
    rw [cmpP_eq]
    constructor
    · intro h; subst h; exact verL_inj ha hb
    · intro h; subst h; rw [ha] at hb; exact Option.some.inj hb
/-- Is a version as it is asked for? -/
def fitsV (v than : Option (List Nat × Nat)) (way : Int) : Bool :=
  v.isSome && (decide (way = 0) || decide (way = 1) && decide (0 ≤ cmpV v than) || decide (way = 2) && decide (cmpV v than = 0) || decide (way = 3) && decide (cmpV v than < 0))
end Go.Proofs.YtnclibfhbngkjaaGreatDoor
namespace Go.Proofs.YtnclibfhbngkjaaGreatDoor
/-- One step of the register. -/
def crc1 (x : BitVec 32) : BitVec 32 := if x.getLsbD 0 then (x >>> 1) ^^^ 0xEDB88320#32 else x >>> 1
def crcK : Nat → BitVec 32 → BitVec 32
  | 0, x => x
  | n + 1, x => crcK n (crc1 x)
def crc8 (x : BitVec 32) : BitVec 32 := crcK 8 x
def bv (b : UInt8) : BitVec 32 := BitVec.ofNat 32 b.toNat
def crcB (c : BitVec 32) (b : UInt8) : BitVec 32 := crc8 (c ^^^ bv b)
def crcF (c : BitVec 32) (l : List UInt8) : BitVec 32 := l.foldl crcB c
def crc0 : BitVec 32 := 0xFFFFFFFF#32
def crcL (l : List UInt8) : BitVec 32 := ~~~ (crcF crc0 l)
theorem xor_xor (a b c d : BitVec 32) : (a ^^^ b) ^^^ (c ^^^ d) = (a ^^^ c) ^^^ (b ^^^ d) := by
  rw [BitVec.xor_assoc, BitVec.xor_assoc, ← BitVec.xor_assoc b c d, BitVec.xor_comm b c, BitVec.xor_assoc c b d]
theorem crc1_xor (x y : BitVec 32) : crc1 (x ^^^ y) = crc1 x ^^^ crc1 y := by
  unfold crc1
  rw [BitVec.getLsbD_xor, BitVec.ushiftRight_xor_distrib]
  cases x.getLsbD 0 <;> cases y.getLsbD 0
  · simp
  · simp [BitVec.xor_assoc]
  · simp only [Bool.true_xor, Bool.not_false, if_true, Bool.false_eq_true, if_false]
    rw [BitVec.xor_assoc, BitVec.xor_comm (y >>> 1), ← BitVec.xor_assoc]
  · simp only [Bool.true_xor, Bool.not_true, if_true, Bool.false_eq_true, if_false]
    rw [xor_xor, BitVec.xor_self, BitVec.xor_zero]
theorem crc1_zero : crc1 0 = 0 := by decide
theorem crc1_inj {x : BitVec 32} (h : crc1 x = 0) : x = 0 := by
  unfold crc1 at h
  split at h
  · have h2 : (x >>> 1) = 0xEDB88320#32 := by
      have := congrArg (· ^^^ 0xEDB88320#32) h
      simpa [BitVec.xor_assoc] using this
    have h3 := congrArg (fun v : BitVec 32 => v.getLsbD 31) h2
    simp at h3
  · rename_i h0
    have h0 : x.getLsbD 0 = false := by simpa using h0
    apply BitVec.eq_of_getLsbD_eq
    intro i hi
    match i with
    | 0 => rw [h0]; simp
    | j + 1 =>
      have h3 := congrArg (fun v : BitVec 32 => v.getLsbD j) h
      simp only [BitVec.getLsbD_ushiftRight] at h3
      rw [Nat.add_comm, h3]; simp
theorem crcK_xor : ∀ (n : Nat) (x y : BitVec 32), crcK n (x ^^^ y) = crcK n x ^^^ crcK n y
  | 0, _, _ => rfl
  | n + 1, x, y => by rw [crcK, crcK, crcK, crc1_xor, crcK_xor n]
theorem crcK_zero : ∀ (n : Nat), crcK n 0 = 0
  | 0 => rfl
  | n + 1 => by rw [crcK, crc1_zero, crcK_zero n]
theorem crcK_inj : ∀ (n : Nat) {x : BitVec 32}, crcK n x = 0 → x = 0
  | 0, _, h => h
  | n + 1, _, h => crc1_inj (crcK_inj n h)
theorem crc8_xor (x y : BitVec 32) : crc8 (x ^^^ y) = crc8 x ^^^ crc8 y := crcK_xor 8 x y
theorem crc8_zero : crc8 0 = 0 := crcK_zero 8
theorem crc8_inj {x : BitVec 32} (h : crc8 x = 0) : x = 0 := crcK_inj 8 h
/-- Bytes that stand higher come down as they are. -/
theorem crc8_up1 : ∀ b : Fin 256, crc8 (BitVec.ofNat 32 (256 * b.val)) = BitVec.ofNat 32 b.val := by decide +kernel
theorem crc8_up2 : ∀ b : Fin 256, crc8 (BitVec.ofNat 32 (65536 * b.val)) = BitVec.ofNat 32 (256 * b.val) := by decide +kernel
theorem crc8_up3 : ∀ b : Fin 256, crc8 (BitVec.ofNat 32 (16777216 * b.val)) = BitVec.ofNat 32 (65536 * b.val) := by decide +kernel
/-- Four bytes as a number of 32 bits. -/
def bv4 (a b c d : UInt8) : BitVec 32 := bv a ^^^ (BitVec.ofNat 32 (256 * b.toNat) ^^^ (BitVec.ofNat 32 (65536 * c.toNat) ^^^ BitVec.ofNat 32 (16777216 * d.toNat)))
theorem up1 (b : UInt8) : crc8 (BitVec.ofNat 32 (256 * b.toNat)) = bv b := crc8_up1 ⟨b.toNat, b.toNat_lt⟩
theorem up2 (b : UInt8) : crc8 (BitVec.ofNat 32 (65536 * b.toNat)) = BitVec.ofNat 32 (256 * b.toNat) := crc8_up2 ⟨b.toNat, b.toNat_lt⟩
theorem up3 (b : UInt8) : crc8 (BitVec.ofNat 32 (16777216 * b.toNat)) = BitVec.ofNat 32 (65536 * b.toNat) := crc8_up3 ⟨b.toNat, b.toNat_lt⟩
theorem crcF_four (s : BitVec 32) (a b c d : UInt8) : crcF s [a, b, c, d] = crc8 (crc8 (crc8 (crc8 (s ^^^ bv4 a b c d)))) := by
  simp only [crcF, List.foldl, crcB, bv4]
  simp only [crc8_xor, up1, up2, up3]
  simp only [BitVec.xor_assoc]
theorem crcF_append (s : BitVec 32) (a b : List UInt8) : crcF s (a ++ b) = crcF (crcF s a) b := by simp [crcF]
theorem crc8_4_inj {x : BitVec 32} (h : crc8 (crc8 (crc8 (crc8 x))) = 0) : x = 0 := crc8_inj (crc8_inj (crc8_inj (crc8_inj h)))
/-- Bytes, turned by others. -/
def xorL : List UInt8 → List UInt8 → List UInt8
  | a :: l, b :: m => (a ^^^ b) :: xorL l m
  | _, _ => []
theorem bv_xor (a b : UInt8) : bv (a ^^^ b) = bv a ^^^ bv b := by
  apply BitVec.eq_of_toNat_eq
  have h1 := a.toNat_lt
  have h2 := b.toNat_lt
  have h3 := (a ^^^ b).toNat_lt
  rw [BitVec.toNat_xor]
  simp only [bv, BitVec.toNat_ofNat]
  rw [Nat.mod_eq_of_lt (by omega), Nat.mod_eq_of_lt (by omega), Nat.mod_eq_of_lt (by omega), UInt8.toNat_xor]
theorem crcF_xor : ∀ (l m : List UInt8) (s t : BitVec 32), l.length = m.length → crcF (s ^^^ t) (xorL l m) = crcF s l ^^^ crcF t m
  | [], [], s, t, _ => rfl
  | a :: l, b :: m, s, t, h => by
    have ih := crcF_xor l m (crcB s a) (crcB t b) (by simpa using h)
    simp only [crcF, xorL, List.foldl] at ih ⊢
    rw [← ih]
    congr 1
    unfold crcB
    rw [← crc8_xor, bv_xor, xor_xor]
theorem bv_zero : bv 0 = 0 := by decide
theorem crcF_zeros : ∀ (n : Nat) (s : BitVec 32), crcF s (List.replicate n 0) = crcK (8 * n) s
  | 0, s => rfl
  | n + 1, s => by
    have ih := crcF_zeros n (crcB s 0)
    rw [List.replicate_succ]
    simp only [crcF, List.foldl] at ih ⊢
    rw [ih]
    have e : crcB s 0 = crcK 8 s := by unfold crcB crc8; rw [bv_zero]; congr 1; exact BitVec.xor_zero
    rw [e]
    have : ∀ (k : Nat) (x : BitVec 32), crcK (8 * n) (crcK k x) = crcK (8 * n + k) x := by
      intro k
      induction k with
      | zero => intro x; rfl
      | succ k ih => intro x; rw [crcK, ih, ← Nat.add_assoc, crcK]
    rw [this 8 s, Nat.mul_succ]
/-- The four bytes of a sum. -/
def le4 (c : BitVec 32) : List UInt8 := [UInt8.ofNat c.toNat, UInt8.ofNat (c.toNat / 256), UInt8.ofNat (c.toNat / 65536), UInt8.ofNat (c.toNat / 16777216)]
/-- Bytes that bear their sum behind them. -/
def summed (l : List UInt8) : Prop := ∃ m, l = m ++ le4 (crcL m)
def crcKey : BitVec 32 := crc8 (crc8 (crc8 (crc8 crc0)))
theorem xor_add (i a b : Nat) (h : b < 2 ^ i) : b ^^^ (2 ^ i * a) = 2 ^ i * a + b := by
  apply Nat.eq_of_testBit_eq
  intro j
  rw [Nat.testBit_xor, Nat.testBit_two_pow_mul_add a h, Nat.testBit_two_pow_mul]
  by_cases hj : j < i
  · rw [if_pos hj, decide_eq_false (by omega)]; simp
  · rw [if_neg hj, decide_eq_true (by omega), Nat.testBit_lt_two_pow (Nat.lt_of_lt_of_le h (Nat.pow_le_pow_right (by decide) (by omega)))]; simp
theorem bv4_toNat (a b c d : UInt8) : (bv4 a b c d).toNat = a.toNat + 256 * b.toNat + 65536 * c.toNat + 16777216 * d.toNat := by
  have ha := a.toNat_lt
  have hb := b.toNat_lt
  have hc := c.toNat_lt
  have hd := d.toNat_lt
  unfold bv4 bv
  simp only [BitVec.toNat_xor, BitVec.toNat_ofNat]
  rw [Nat.mod_eq_of_lt (by omega), Nat.mod_eq_of_lt (by omega), Nat.mod_eq_of_lt (by omega), Nat.mod_eq_of_lt (by omega)]
  have e1 := xor_add 8 b.toNat a.toNat (by omega)
  have e2 := xor_add 16 c.toNat (2 ^ 8 * b.toNat + a.toNat) (by omega)
  have e3 := xor_add 24 d.toNat (2 ^ 16 * c.toNat + (2 ^ 8 * b.toNat + a.toNat)) (by omega)
  rw [← Nat.xor_assoc, ← Nat.xor_assoc, show 256 = 2 ^ 8 from rfl, show 65536 = 2 ^ 16 from rfl, show 16777216 = 2 ^ 24 from rfl, e1, e2, e3]
  omega
theorem crc8_4_xor (x y : BitVec 32) : crc8 (crc8 (crc8 (crc8 (x ^^^ y)))) = crc8 (crc8 (crc8 (crc8 x))) ^^^ crc8 (crc8 (crc8 (crc8 y))) := by rw [crc8_xor, crc8_xor, crc8_xor, crc8_xor]
theorem crc8_4_eq {x y : BitVec 32} (h : crc8 (crc8 (crc8 (crc8 x))) = crc8 (crc8 (crc8 (crc8 y)))) : x = y := by
  have : crc8 (crc8 (crc8 (crc8 (x ^^^ y)))) = 0 := by rw [crc8_4_xor, h, BitVec.xor_self]; rfl
  exact BitVec.xor_eq_zero_iff.1 (crc8_4_inj this)
/-- What bears its sum leaves the key. -/
theorem sum_key (m : List UInt8) (a b c d : UInt8) : crcF crc0 (m ++ [a, b, c, d]) = crcKey ↔ a.toNat + 256 * b.toNat + 65536 * c.toNat + 16777216 * d.toNat = (crcL m).toNat := by
  rw [crcF_append, crcF_four, ← bv4_toNat]
  unfold crcKey crcL
  generalize crcF crc0 m = F
  have hall : crc0 = BitVec.allOnes 32 := by decide
  constructor
  · intro h
    have h := crc8_4_eq h
    rw [hall] at h
    have : bv4 a b c d = ~~~ F := by
      have h2 := congrArg (F ^^^ ·) h
      simp only [← BitVec.xor_assoc, BitVec.xor_self, BitVec.zero_xor] at h2
      rw [h2, BitVec.xor_allOnes]
    rw [this]
  · intro h
    have h : bv4 a b c d = ~~~ F := BitVec.eq_of_toNat_eq h
    rw [h, hall, ← BitVec.xor_allOnes, ← BitVec.xor_assoc, BitVec.xor_self, BitVec.zero_xor]
/-- Four bytes in a row that are turned leave the key just if none was. -/
theorem spoil_key {l : List UInt8} {at_ n : Nat} (a b c d : UInt8) (hl : l.length = at_ + 4 + n) (h : crcF crc0 l = crcKey) :
    crcF crc0 (xorL l (List.replicate at_ 0 ++ ([a, b, c, d] ++ List.replicate n 0))) = crcKey ↔ a = 0 ∧ b = 0 ∧ c = 0 ∧ d = 0 := by
  have e := crcF_xor l (List.replicate at_ 0 ++ ([a, b, c, d] ++ List.replicate n 0)) crc0 0 (by simp [hl]; omega)
  have e0 : crc0 ^^^ (0 : BitVec 32) = crc0 := BitVec.xor_zero
  rw [e0, h, crcF_append, crcF_append, crcF_zeros n, crcF_zeros at_, crcK_zero, crcF_four] at e
  rw [e]
  have hz : (0 : BitVec 32) ^^^ bv4 a b c d = bv4 a b c d := BitVec.zero_xor
  rw [hz]
  constructor
  · intro hk
    have h1 : crcK (8 * n) (crc8 (crc8 (crc8 (crc8 (bv4 a b c d))))) = 0 := by
      have h2 := congrArg (crcKey ^^^ ·) hk
      simp only [← BitVec.xor_assoc, BitVec.xor_self, BitVec.zero_xor] at h2
      exact h2
    have h3 := crc8_4_inj (crcK_inj _ h1)
    have h4 := congrArg BitVec.toNat h3
    rw [bv4_toNat] at h4
    have h4 : a.toNat + 256 * b.toNat + 65536 * c.toNat + 16777216 * d.toNat = 0 := h4
    exact ⟨UInt8.toNat_inj.1 (show a.toNat = (0 : UInt8).toNat by show a.toNat = 0; omega), UInt8.toNat_inj.1 (show b.toNat = (0 : UInt8).toNat by show b.toNat = 0; omega), UInt8.toNat_inj.1 (show c.toNat = (0 : UInt8).toNat by show c.toNat = 0; omega), UInt8.toNat_inj.1 (show d.toNat = (0 : UInt8).toNat by show d.toNat = 0; omega)⟩
  · rintro ⟨rfl, rfl, rfl, rfl⟩
    have h0 : bv4 0 0 0 0 = 0 := by decide
    rw [h0, crc8_zero, crc8_zero, crc8_zero, crc8_zero, crcK_zero]
    exact BitVec.xor_zero
end Go.Proofs.YtnclibfhbngkjaaGreatDoor
namespace Go.Proofs.YtnclibfhbngkjaaGreatDoor
abbrev By := List UInt8
structure NeedD where
  name : By
  way : Int
  ver : By
structure FileD where
  path : By
  config : Bool
  data : By
structure PkgD where
  name : By
  ver : By
  needs : List NeedD
  conf : List By
  files : List FileD
  units : List By
def pz : PkgD := ⟨[], [], [], [], [], []⟩
/-! ### May it be? -/
def verR (l : By) : Bool := (verL l).isSome
def needR (n : NeedD) : Bool := nameL n.name && (decide (n.way = 0 ∧ n.ver = []) || (decide (1 ≤ n.way ∧ n.way ≤ 3) && verR n.ver))
def varL : By := [47, 118, 97, 114]
def fileR (f : FileD) : Bool := rightL f.path && (decide (f.data.length ≤ 512) && (!withinL f.path varL && !decide (f.path = varL)))
/-- Is a text less than another one? -/
def ltL : By → By → Bool
  | [], [] => false
  | [], _ :: _ => true
  | _ :: _, [] => false
  | a :: l, b :: m => decide (a.toNat < b.toNat) || (decide (a.toNat = b.toNat) && ltL l m)
theorem ltL_trans : ∀ {a b c : By}, ltL a b = true → ltL b c = true → ltL a c = true
  | [], b, [], h, k => by cases b <;> simp [ltL] at h k
  | [], _, _ :: _, _, _ => rfl
  | _ :: _, [], _, h, _ => by simp [ltL] at h
  | _ :: _, _ :: _, [], _, k => by simp [ltL] at k
  | x :: a, y :: b, z :: c, h, k => by
    simp only [ltL, Bool.or_eq_true, Bool.and_eq_true, decide_eq_true_eq] at h k ⊢
    rcases h with h | ⟨h1, h2⟩ <;> rcases k with k | ⟨k1, k2⟩
    · left; omega
    · left; omega
    · left; omega
    · right; exact ⟨by omega, ltL_trans h2 k2⟩
/-- The file of a number, behind those ahead of it. -/
def fileAt (L : List FileD) (k : Nat) : Bool :=
  fileR (L.getD k ⟨[], false, []⟩) && ((decide (k = 0) || ltL (L.getD (k - 1) ⟨[], false, []⟩).path (L.getD k ⟨[], false, []⟩).path) && !((L.take k).any fun g => withinL (L.getD k ⟨[], false, []⟩).path g.path))
def filesTo (L : List FileD) (k : Nat) : Bool := (List.range k).all fun j => fileAt L j
theorem filesTo_succ (L : List FileD) (k : Nat) : filesTo L (k + 1) = (filesTo L k && fileAt L k) := by simp [filesTo, List.range_succ, List.all_append]
def headP (p : PkgD) : Bool := nameL p.name && (verR p.ver && (decide (p.needs.length ≤ 8) && (decide (p.conf.length ≤ 8) && (decide (p.files.length ≤ 12) && decide (p.units.length ≤ 4)))))
def confR (p : PkgD) (s : By) : Bool := nameL s && !decide (s = p.name)
def rightP (p : PkgD) : Bool := headP p && (p.needs.all needR && (p.conf.all (confR p) && (p.units.all (fun s => decide (s.length ≤ 300)) && filesTo p.files p.files.length)))
/-! ### Its bytes -/
def needB (n : NeedD) : By := raw4 n.name ++ (numI n.way ++ raw4 n.ver)
def boolN (b : Bool) : Nat := if b then 1 else 0
def fileB (f : FileD) : By := raw4 f.path ++ (num4 (boolN f.config) ++ raw4 f.data)
def packP (p : PkgD) : By := [raw4 p.name, raw4 p.ver, raw4 (p.needs.flatMap needB), raw4 (p.conf.flatMap raw4), raw4 (p.files.flatMap fileB), raw4 (p.units.flatMap raw4)].flatten
def sumB (l : By) : By := num4 (crcL l).toNat
def writeP (p : PkgD) : By := packP p ++ sumB (packP p)
/-! ### Read back -/
def oneNeed (s : RSt) : NeedD × RSt := (⟨(rRaw 12 s).1, ((rNum 3 (rRaw 12 s).2).1 : Nat), (rRaw 30 (rNum 3 (rRaw 12 s).2).2).1⟩, (rRaw 30 (rNum 3 (rRaw 12 s).2).2).2)
def oneFile (s : RSt) : FileD × RSt := (⟨(rRaw 40 s).1, decide ((rNum 1 (rRaw 40 s).2).1 = 1), (rRaw 512 (rNum 1 (rRaw 40 s).2).2).1⟩, (rRaw 512 (rNum 1 (rRaw 40 s).2).2).2)
theorem oneNeed_takes : Takes oneNeed := fun _ h => Nat.lt_of_le_of_lt (rRaw_len 30 _).1 (Nat.lt_of_le_of_lt (rNum_len 3 _) (rRaw_less h))
theorem oneFile_takes : Takes oneFile := fun _ h => Nat.lt_of_le_of_lt (rRaw_len 512 _).1 (Nat.lt_of_le_of_lt (rNum_len 1 _) (rRaw_less h))
theorem oneNeed_good (s : RSt) (x : NeedD) (l : By) (h : oneNeed s = (x, (l, false))) : s.2 = false ∧ s.1 = needB x ++ l := by
  unfold oneNeed at h
  simp only [Prod.mk.injEq] at h
  obtain ⟨rfl, h⟩ := h
  have h3 : rRaw 30 (rNum 3 (rRaw 12 s).2).2 = ((rRaw 30 (rNum 3 (rRaw 12 s).2).2).1, (l, false)) := by rw [← h]
  obtain ⟨g1, g2, _⟩ := rRaw_good h3
  have h2 : rNum 3 (rRaw 12 s).2 = ((rNum 3 (rRaw 12 s).2).1, ((rNum 3 (rRaw 12 s).2).2.1, false)) := by rw [← g1]
  obtain ⟨g3, g4, g5, g6⟩ := rNum_good h2
  have h1 : rRaw 12 s = ((rRaw 12 s).1, ((rRaw 12 s).2.1, false)) := by rw [← g3]
  obtain ⟨g7, g8, _⟩ := rRaw_good h1
  refine ⟨g7, ?_⟩
  simp only [needB, numI, u32_of g6, List.append_assoc]
  rw [← g2, ← g4]; exact g8
theorem oneFile_good (s : RSt) (x : FileD) (l : By) (h : oneFile s = (x, (l, false))) : s.2 = false ∧ s.1 = fileB x ++ l := by
  unfold oneFile at h
  simp only [Prod.mk.injEq] at h
  obtain ⟨rfl, h⟩ := h
  have h3 : rRaw 512 (rNum 1 (rRaw 40 s).2).2 = ((rRaw 512 (rNum 1 (rRaw 40 s).2).2).1, (l, false)) := by rw [← h]
  obtain ⟨g1, g2, _⟩ := rRaw_good h3
  have h2 : rNum 1 (rRaw 40 s).2 = ((rNum 1 (rRaw 40 s).2).1, ((rNum 1 (rRaw 40 s).2).2.1, false)) := by rw [← g1]
  obtain ⟨g3, g4, g5, g6⟩ := rNum_good h2
  have h1 : rRaw 40 s = ((rRaw 40 s).1, ((rRaw 40 s).2.1, false)) := by rw [← g3]
  obtain ⟨g7, g8, _⟩ := rRaw_good h1
  refine ⟨g7, ?_⟩
  have hb : boolN (decide ((rNum 1 (rRaw 40 s).2).1 = 1)) = (rNum 1 (rRaw 40 s).2).1 := by
    unfold boolN
    by_cases e : (rNum 1 (rRaw 40 s).2).1 = 1
    · rw [e]; rfl
    · have : (rNum 1 (rRaw 40 s).2).1 = 0 := by omega
      rw [this]; rfl
  simp only [fileB, hb, List.append_assoc]
  rw [← g2, ← g4]; exact g8
/-! And the other way: what was packed is read. -/
theorem le32_num4 {n : Nat} (h : n < 4294967296) (l : By) : le32 (num4 n ++ l) = n := by
  simp only [le32, byteAt, num4, List.cons_append, List.nil_append, List.getD_cons_zero, List.getD_cons_succ, UInt8.toNat_ofNat']
  omega
theorem rNum_back {most n : Nat} (h : n ≤ most) (hn : n < 4294967296) (l : By) : rNum most (num4 n ++ l, false) = (n, (l, false)) := by
  have hl : ¬ (num4 n ++ l).length < 4 := by simp [num4_len]
  unfold rNum
  simp only [if_neg hl, le32_num4 hn, if_neg (show ¬ most < n by omega)]
  rfl
theorem rRaw_back {most : Nat} {p : By} (h : p.length ≤ most) (hp : p.length < 4294967296) (l : By) : rRaw most (raw4 p ++ l, false) = (p, (l, false)) := by
  have e := rNum_back h hp (p ++ l)
  unfold raw4
  rw [List.append_assoc]
  unfold rRaw
  rw [e]
  simp
theorem rList_back {p : By} (h : p.length ≤ 16777216) (l : By) : rList (raw4 p ++ l, false) = ((p, false), (l, false)) := by
  unfold rList
  rw [rRaw_back h (by omega) l]
theorem rEach_back {α : Type} {one : RSt → α × RSt} {enc : α → By} (less : Takes one) : ∀ (L : List α), (∀ x ∈ L, 0 < (enc x).length ∧ ∀ l, one (enc x ++ l, false) = (x, (l, false))) → rEach one (L.flatMap enc, false) = (L, ([], false))
  | [], _ => rEach_nil one rfl
  | x :: L, h => by
    obtain ⟨h1, h2⟩ := h x (by simp)
    rw [List.flatMap_cons]
    rw [rEach_cons less (by simp only [List.length_append]; omega), h2]
    simp only [rEach_back less L (fun y hy => h y (by simp [hy]))]
theorem nameL_12 {l : By} (h : nameL l = true) : l.length ≤ 12 := by
  unfold nameL at h
  simp only [Bool.and_eq_true, decide_eq_true_eq] at h
  omega
theorem rightL_40 {l : By} (h : rightL l = true) : l.length ≤ 40 := by
  unfold rightL at h
  split at h
  · rename_i L hL
    exact (pathL_facts hL).2.2.1
  · cases h
structure RdPk where
  p : PkgD
  ok : Bool
def unP (b : By) : RdPk :=
  let s1 := rRaw 12 (b, false)
  let s2 := rRaw 30 s1.2
  let n := rList s2.2
  let c := rList n.2
  let f := rList c.2
  let u := rList f.2
  let N := rEach oneNeed n.1
  let C := rEach (oneText 12) c.1
  let F := rEach oneFile f.1
  let U := rEach (oneText 300) u.1
  ⟨⟨s1.1, s2.1, N.1, C.1, F.1, U.1⟩, rDone u.2 && (rDone N.2 && (rDone C.2 && (rDone F.2 && rDone U.2)))⟩
/-- What bytes are: a package, or an error's number. -/
def readP (b : By) : PkgD × Nat :=
  if b.length < 4 then (pz, 5)
  else if le32 (b.drop (b.length - 4)) ≠ (crcL (b.take (b.length - 4))).toNat then (pz, 5)
  else if (unP (b.take (b.length - 4))).ok && rightP (unP (b.take (b.length - 4))).p then ((unP (b.take (b.length - 4))).p, 0) else (pz, 4)
theorem unP_good {b : By} (h : (unP b).ok = true) : packP (unP b).p = b := by
  simp only [unP, Bool.and_eq_true] at h
  obtain ⟨k1, k2, k3, k4, k5⟩ := h
  simp only [unP]
  generalize h1 : rRaw 12 (b, false) = s1 at *
  generalize h2 : rRaw 30 s1.2 = s2 at *
  generalize h3 : rList s2.2 = n at *
  generalize h4 : rList n.2 = c at *
  generalize h5 : rList c.2 = f at *
  generalize h6 : rList f.2 = u at *
  generalize h7 : rEach oneNeed n.1 = N at *
  generalize h8 : rEach (oneText 12) c.1 = C at *
  generalize h9 : rEach oneFile f.1 = F at *
  generalize h0 : rEach (oneText 300) u.1 = U at *
  have k1 := rDone_of k1
  have k2 := rDone_of k2
  have k3 := rDone_of k3
  have k4 := rDone_of k4
  have k5 := rDone_of k5
  have a7 := rEach_good oneNeed_takes oneNeed_good _ n.1 N.1 [] (Nat.le_refl _) (by rw [h7, ← k2])
  have a8 := rEach_good (oneText_takes 12) (fun _ _ _ => oneText_good) _ c.1 C.1 [] (Nat.le_refl _) (by rw [h8, ← k3])
  have a9 := rEach_good oneFile_takes oneFile_good _ f.1 F.1 [] (Nat.le_refl _) (by rw [h9, ← k4])
  have a0 := rEach_good (oneText_takes 300) (fun _ _ _ => oneText_good) _ u.1 U.1 [] (Nat.le_refl _) (by rw [h0, ← k5])
  have b6 := rList_good (s := f.2) (a := u.1) (b := u.2) h6 a0.1
  have b5 := rList_good (s := c.2) (a := f.1) (b := f.2) h5 a9.1
  have b4 := rList_good (s := n.2) (a := c.1) (b := c.2) h4 a8.1
  have b3 := rList_good (s := s2.2) (a := n.1) (b := n.2) h3 a7.1
  have c2 : rRaw 30 s1.2 = (s2.1, (s2.2.1, false)) := by rw [h2, ← b3.1]
  obtain ⟨q1, q2, _⟩ := rRaw_good c2
  have c1 : rRaw 12 (b, false) = (s1.1, (s1.2.1, false)) := by rw [h1, ← q1]
  obtain ⟨_, p2, _⟩ := rRaw_good c1
  have v7 := a7.2.1
  have v8 := a8.2.1
  have v9 := a9.2.1
  have v0 := a0.2.1
  rw [List.append_nil] at v7 v8 v9 v0
  have e8 : C.1.flatMap raw4 = c.1.1 := v8.symm
  have e0 : U.1.flatMap raw4 = u.1.1 := v0.symm
  have z : u.2.1 = [] := by rw [k1]
  have w6 := b6.2.1
  rw [z, List.append_nil] at w6
  simp only [packP, List.flatten_cons, List.flatten_nil, List.append_nil]
  rw [← v7, e8, ← v9, e0, ← w6, ← b5.2.1, ← b4.2.1, ← b3.2.1, ← q2]
  exact p2.symm
theorem drop_num4 {b : By} (h : 4 ≤ b.length) : b = b.take (b.length - 4) ++ num4 (le32 (b.drop (b.length - 4))) := by
  have h4 : (b.drop (b.length - 4)).length = 4 := by simp; omega
  have e := num4_le32 (l := b.drop (b.length - 4)) (by omega)
  have e2 : (b.drop (b.length - 4)).drop 4 = [] := List.drop_of_length_le (by omega)
  rw [e2, List.append_nil] at e
  rw [e, List.take_append_drop]
/-- What was read is written as the same bytes. -/
theorem readP_good {b : By} {p : PkgD} (h : readP b = (p, 0)) : rightP p = true ∧ writeP p = b := by
  unfold readP at h
  split at h
  · simp at h
  · rename_i hl
    split at h
    · simp at h
    · rename_i hs
      split at h
      · rename_i hk
        rw [Bool.and_eq_true] at hk
        simp only [Prod.mk.injEq, and_true] at h
        subst h
        refine ⟨hk.2, ?_⟩
        unfold writeP sumB
        rw [unP_good hk.1]
        have hs : le32 (b.drop (b.length - 4)) = (crcL (b.take (b.length - 4))).toNat := Classical.byContradiction hs
        rw [← hs]
        exact (drop_num4 (by omega)).symm
      · simp at h
theorem num4_len2 (n : Nat) : (num4 n).length = 4 := rfl
theorem needR_back {n : NeedD} (h : needR n = true) (hv : n.ver.length ≤ 30) (l : By) : oneNeed (needB n ++ l, false) = (n, (l, false)) := by
  unfold needR at h
  simp only [Bool.and_eq_true, Bool.or_eq_true, decide_eq_true_eq] at h
  have h12 := nameL_12 h.1
  have hw : 0 ≤ n.way ∧ n.way ≤ 3 := by rcases h.2 with h | h <;> omega
  have hu : u32 n.way = n.way.toNat := by unfold u32; omega
  unfold oneNeed needB numI
  simp only [List.append_assoc]
  rw [rRaw_back (by omega) (by omega)]
  simp only
  rw [rNum_back (by rw [hu]; omega) (u32_lt _)]
  simp only
  rw [rRaw_back hv (by omega)]
  simp only [hu]
  have : ((n.way.toNat : Nat) : Int) = n.way := by omega
  rw [this]
theorem fileR_back {f : FileD} (h : fileR f = true) (l : By) : oneFile (fileB f ++ l, false) = (f, (l, false)) := by
  unfold fileR at h
  simp only [Bool.and_eq_true, decide_eq_true_eq] at h
  have h40 := rightL_40 h.1
  have hb : boolN f.config ≤ 1 := by unfold boolN; split <;> omega
  unfold oneFile fileB
  simp only [List.append_assoc]
  rw [rRaw_back (by omega) (by omega)]
  simp only
  rw [rNum_back hb (by omega)]
  simp only
  rw [rRaw_back (by omega) (by omega)]
  have : decide (boolN f.config = 1) = f.config := by cases f.config <;> rfl
  rw [this]
theorem needB_len (n : NeedD) : (needB n).length = 12 + n.name.length + n.ver.length := by simp [needB, raw4_len, numI_len]; omega
theorem fileB_len (f : FileD) : (fileB f).length = 12 + f.path.length + f.data.length := by simp [fileB, raw4_len, num4_len]; omega
theorem flat_len_le {α : Type} {enc : α → By} {m : Nat} : ∀ (L : List α), (∀ x ∈ L, (enc x).length ≤ m) → (L.flatMap enc).length ≤ m * L.length
  | [], _ => by simp
  | x :: L, h => by
    have := flat_len_le L (fun y hy => h y (by simp [hy]))
    have := h x (by simp)
    rw [List.flatMap_cons, List.length_append, List.length_cons, Nat.mul_succ]; omega
/-! ### How long versions are -/
theorem digits_le : ∀ (k n : Nat), n < 10 ^ (k + 1) → (Lib.decDigits n).length ≤ k + 1
  | 0, n, h => by rw [Lib.decDigits, dif_pos (by omega)]; simp
  | k + 1, n, h => by
    rw [Lib.decDigits]
    split
    · simp
    · have := digits_le k (n / 10) (by rw [Nat.pow_succ] at h; omega)
      simp only [List.length_append, List.length_cons, List.length_nil]
      omega
theorem numV_4 {l : By} {n : Nat} (h : numV l = some n) : l.length ≤ 4 := by
  obtain ⟨h1, h2⟩ := numV_some h
  have e := (canon_iff l n).1 h1
  rw [← e]
  exact digits_le 3 n (by omega)
theorem numsV_4 : ∀ {L : List By} {X : List Nat}, numsV L = some X → ∀ p ∈ L, p.length ≤ 4
  | [], _, _, p, hp => by simp at hp
  | q :: L, X, h, p, hp => by
    cases hq : numV q with
    | none => rw [numsV_bad (by simp) hq] at h; cases h
    | some n =>
      rcases List.mem_cons.1 hp with rfl | hp
      · exact numV_4 hq
      · cases hl : numsV L with
        | none => simp [numsV, hq, hl] at h
        | some Y => exact numsV_4 hl p hp
theorem glue_len_le (c : UInt8) (m : Nat) : ∀ (L : List By), (∀ p ∈ L, p.length ≤ m) → (glue c L).length ≤ (m + 1) * L.length
  | [], _ => by simp [glue]
  | p :: L, h => by
    have h1 := glue_len_le c m L (fun q hq => h q (by simp [hq]))
    have h2 := h p (by simp)
    rw [glue_cons, List.length_cons, Nat.mul_succ]
    simp only [List.length_append, List.length_cons]
    omega
theorem verL_parts {l h t : By} {m : Bool} {v : List Nat × Nat} (hc : Lib.cut l [45] = (h, t, m)) (hv : verL l = some v) : h.length ≤ 19 ∧ (m = true → t.length ≤ 4) := by
  cases hr : revV m t with
  | none => rw [verL_rev hc hr] at hv; cases hv
  | some r =>
    cases hn : numsV (splitOn 46 h) with
    | none => rw [verL_nums hc hn] at hv; cases hv
    | some X =>
      by_cases hX : X.length ≤ 4
      · refine ⟨?_, ?_⟩
        · have h1 := glue_len_le 46 4 (splitOn 46 h) (numsV_4 hn)
          rw [glue_splitOn, List.length_cons] at h1
          have := numsV_len hn
          omega
        · intro hm
          subst hm
          cases ht : numV t with
          | none => rw [revV_bad ht] at hr; cases hr
          | some n => exact numV_4 ht
      · rw [verL_many hc hn (by omega)] at hv; cases hv
theorem verR_30 {l : By} (h : verR l = true) : l.length ≤ 30 := by
  unfold verR at h
  obtain ⟨v, hv⟩ := Option.isSome_iff_exists.1 h
  by_cases hm : (45 : UInt8) ∈ l
  · obtain ⟨a, r, rfl, ha⟩ := split_mem hm
    have := verL_parts (cut_some r ha) hv
    have h2 := this.2 rfl
    simp only [List.length_append, List.length_cons]
    omega
  · have := (verL_parts (cut_none hm) hv).1
    omega
/-! ### What is written is read -/
theorem filesTo_all {L : List FileD} {k : Nat} (h : filesTo L k = true) : ∀ f ∈ L.take k, fileR f = true := by
  intro f hf
  obtain ⟨j, hj, e⟩ := List.mem_take_iff_getElem.1 hf
  unfold filesTo at h
  have := (List.all_eq_true.1 h) j (by simp; omega)
  unfold fileAt at this
  simp only [Bool.and_eq_true] at this
  have h1 := this.1
  rw [List.getD_eq_getElem?_getD, List.getElem?_eq_getElem (by omega)] at h1
  rw [← e]; exact h1
theorem packP_len {p : PkgD} (h : rightP p = true) : (packP p).length ≤ 16000 ∧ (p.needs.flatMap needB).length ≤ 16000 ∧ (p.conf.flatMap raw4).length ≤ 16000 ∧ (p.files.flatMap fileB).length ≤ 16000 ∧ (p.units.flatMap raw4).length ≤ 16000 := by
  unfold rightP headP at h
  simp only [Bool.and_eq_true, decide_eq_true_eq] at h
  obtain ⟨⟨h1, h2, h3, h4, h5, h6⟩, h7, h8, h9, h0⟩ := h
  have n1 := nameL_12 h1
  have n2 := verR_30 h2
  have hf := filesTo_all h0
  rw [List.take_length] at hf
  have a1 := flat_len_le (enc := needB) (m := 54) p.needs (fun x hx => by
    have := (List.all_eq_true.1 h7) x hx
    unfold needR at this
    simp only [Bool.and_eq_true, Bool.or_eq_true, decide_eq_true_eq] at this
    have i1 := nameL_12 this.1
    have i2 : x.ver.length ≤ 30 := by
      rcases this.2 with e | e
      · rw [e.2]; simp
      · exact verR_30 e.2
    rw [needB_len]; omega)
  have a2 := flat_len_le (enc := raw4) (m := 16) p.conf (fun x hx => by
    have := (List.all_eq_true.1 h8) x hx
    unfold confR at this
    simp only [Bool.and_eq_true] at this
    have i1 := nameL_12 this.1
    rw [raw4_len]; omega)
  have a3 := flat_len_le (enc := fileB) (m := 564) p.files (fun x hx => by
    have := hf x hx
    unfold fileR at this
    simp only [Bool.and_eq_true, decide_eq_true_eq] at this
    have i1 := rightL_40 this.1
    rw [fileB_len]; omega)
  have a4 := flat_len_le (enc := raw4) (m := 304) p.units (fun x hx => by
    have := (List.all_eq_true.1 h9) x hx
    simp only [decide_eq_true_eq] at this
    rw [raw4_len]; omega)
  have e : (packP p).length = 24 + p.name.length + p.ver.length + (p.needs.flatMap needB).length + (p.conf.flatMap raw4).length + (p.files.flatMap fileB).length + (p.units.flatMap raw4).length := by
    simp [packP, raw4_len]; omega
  omega
theorem unP_back {p : PkgD} (h : rightP p = true) : unP (packP p) = ⟨p, true⟩ := by
  obtain ⟨_, l1, l2, l3, l4⟩ := packP_len h
  unfold rightP headP at h
  simp only [Bool.and_eq_true, decide_eq_true_eq] at h
  obtain ⟨⟨h1, h2, h3, h4, h5, h6⟩, h7, h8, h9, h0⟩ := h
  have n1 := nameL_12 h1
  have n2 := verR_30 h2
  have hf := filesTo_all h0
  rw [List.take_length] at hf
  have e1 : rEach oneNeed (p.needs.flatMap needB, false) = (p.needs, ([], false)) := rEach_back oneNeed_takes p.needs (fun x hx => by
    have hr := (List.all_eq_true.1 h7) x hx
    refine ⟨by rw [needB_len]; omega, fun l => needR_back hr ?_ l⟩
    unfold needR at hr
    simp only [Bool.and_eq_true, Bool.or_eq_true, decide_eq_true_eq] at hr
    rcases hr.2 with e | e
    · rw [e.2]; simp
    · exact verR_30 e.2)
  have e2 : rEach (oneText 12) (p.conf.flatMap raw4, false) = (p.conf, ([], false)) := rEach_back (oneText_takes 12) p.conf (fun x hx => by
    have hr := (List.all_eq_true.1 h8) x hx
    unfold confR at hr
    simp only [Bool.and_eq_true] at hr
    have i1 := nameL_12 hr.1
    exact ⟨by rw [raw4_len]; omega, fun l => rRaw_back (by omega) (by omega) l⟩)
  have e3 : rEach oneFile (p.files.flatMap fileB, false) = (p.files, ([], false)) := rEach_back oneFile_takes p.files (fun x hx => ⟨by rw [fileB_len]; omega, fun l => fileR_back (hf x hx) l⟩)
  have e4 : rEach (oneText 300) (p.units.flatMap raw4, false) = (p.units, ([], false)) := rEach_back (oneText_takes 300) p.units (fun x hx => by
    have hr := (List.all_eq_true.1 h9) x hx
    simp only [decide_eq_true_eq] at hr
    exact ⟨by rw [raw4_len]; omega, fun l => rRaw_back (by omega) (by omega) l⟩)
  have hp : packP p = raw4 p.name ++ (raw4 p.ver ++ (raw4 (p.needs.flatMap needB) ++ (raw4 (p.conf.flatMap raw4) ++ (raw4 (p.files.flatMap fileB) ++ (raw4 (p.units.flatMap raw4) ++ []))))) := by simp [packP]
  rw [hp]
  unfold unP
  simp only [rRaw_back (show p.name.length ≤ 12 by omega) (by omega), rRaw_back (show p.ver.length ≤ 30 by omega) (by omega), rList_back (show (p.needs.flatMap needB).length ≤ 16777216 by omega), rList_back (show (p.conf.flatMap raw4).length ≤ 16777216 by omega), rList_back (show (p.files.flatMap fileB).length ≤ 16777216 by omega), rList_back (show (p.units.flatMap raw4).length ≤ 16777216 by omega), e1, e2, e3, e4]
  rfl
theorem readP_back {p : PkgD} (h : rightP p = true) : readP (writeP p) = (p, 0) := by
  have hl : (writeP p).length = (packP p).length + 4 := by simp [writeP, sumB, num4_len]
  have ht : (writeP p).take ((writeP p).length - 4) = packP p := by rw [hl]; simp [writeP]
  have hd : (writeP p).drop ((writeP p).length - 4) = sumB (packP p) := by rw [hl]; simp [writeP]
  have hs : le32 (sumB (packP p)) = (crcL (packP p)).toNat := by
    have := le32_num4 (n := (crcL (packP p)).toNat) (crcL (packP p)).isLt []
    rwa [List.append_nil] at this
  unfold readP
  rw [if_neg (by omega), ht, hd, hs, if_neg (by simp), unP_back h]
  simp [h]
/-! ### What is spoilt is refused -/
/-- Do bytes bear their sum? -/
def sumR (b : By) : Prop := 4 ≤ b.length ∧ le32 (b.drop (b.length - 4)) = (crcL (b.take (b.length - 4))).toNat
theorem sumR_key {b : By} (h : 4 ≤ b.length) : sumR b ↔ crcF crc0 b = crcKey := by
  obtain ⟨a, c, d, e, he⟩ : ∃ a c d e, b.drop (b.length - 4) = [a, c, d, e] := by
    have h4 : (b.drop (b.length - 4)).length = 4 := by simp; omega
    match b.drop (b.length - 4), h4 with
    | [a, c, d, e], _ => exact ⟨a, c, d, e, rfl⟩
  have hb : b = b.take (b.length - 4) ++ [a, c, d, e] := by rw [← he, List.take_append_drop]
  have hk := sum_key (b.take (b.length - 4)) a c d e
  rw [← hb] at hk
  rw [hk]
  unfold sumR
  rw [he]
  exact ⟨fun h => h.2, fun h2 => ⟨h, h2⟩⟩
theorem readP_sum {b : By} : (readP b).2 = 5 ↔ ¬ sumR b := by
  unfold readP sumR
  by_cases h : b.length < 4
  · rw [if_pos h]; simp; omega
  · rw [if_neg h]
    by_cases hs : le32 (b.drop (b.length - 4)) ≠ (crcL (b.take (b.length - 4))).toNat
    · rw [if_pos hs]; simp only [true_iff]; exact fun k => hs k.2
    · rw [if_neg hs]
      split <;> simp <;> exact ⟨by omega, Classical.byContradiction hs⟩
/-- Four bytes in a row, turned. -/
theorem spoil {p : PkgD} (h : rightP p = true) {at_ : Nat} (a b c d : UInt8) (hat : at_ + 4 ≤ (writeP p).length) :
    ((readP (xorL (writeP p) (List.replicate at_ 0 ++ ([a, b, c, d] ++ List.replicate ((writeP p).length - at_ - 4) 0)))).2 = 0 ↔ a = 0 ∧ b = 0 ∧ c = 0 ∧ d = 0) ∧
    ((readP (xorL (writeP p) (List.replicate at_ 0 ++ ([a, b, c, d] ++ List.replicate ((writeP p).length - at_ - 4) 0)))).2 = 0 ∨ (readP (xorL (writeP p) (List.replicate at_ 0 ++ ([a, b, c, d] ++ List.replicate ((writeP p).length - at_ - 4) 0)))).2 = 5) := by
  have hr := readP_back h
  have hs : sumR (writeP p) := by
    apply Classical.byContradiction
    intro k
    have := readP_sum.2 k
    rw [hr] at this
    cases this
  have hk := (sumR_key hs.1).1 hs
  have hlen : (writeP p).length = at_ + 4 + ((writeP p).length - at_ - 4) := by omega
  have hsp := spoil_key a b c d hlen hk
  have hxl : ∀ (l m : By), l.length = m.length → (xorL l m).length = l.length := by
    intro l
    induction l with
    | nil => intro m hm; cases m <;> simp [xorL] at hm ⊢
    | cons x l ih =>
      intro m hm
      cases m with
      | nil => simp at hm
      | cons y m => simp only [xorL, List.length_cons]; rw [ih m (by simpa using hm)]
  have hll := hxl (writeP p) (List.replicate at_ 0 ++ ([a, b, c, d] ++ List.replicate ((writeP p).length - at_ - 4) 0)) (by simp; omega)
  by_cases hz : a = 0 ∧ b = 0 ∧ c = 0 ∧ d = 0
  · obtain ⟨rfl, rfl, rfl, rfl⟩ := hz
    have hid : ∀ (l : By) (n : Nat), l.length = n → xorL l (List.replicate n 0) = l := by
      intro l
      induction l with
      | nil => intro n _; cases n <;> rfl
      | cons x l ih =>
        intro n hn
        cases n with
        | zero => simp at hn
        | succ n => rw [List.replicate_succ]; simp only [xorL]; rw [ih n (by simpa using hn)]; simp
    have e : (List.replicate at_ (0 : UInt8) ++ ([0, 0, 0, 0] ++ List.replicate ((writeP p).length - at_ - 4) 0)) = List.replicate (writeP p).length 0 := by
      have : ([0, 0, 0, 0] : By) = List.replicate 4 0 := rfl
      rw [this, List.replicate_append_replicate, List.replicate_append_replicate]
      congr 1; omega
    rw [e, hid _ _ rfl, hr]
    simp
  · have hn : ¬ sumR (xorL (writeP p) (List.replicate at_ 0 ++ ([a, b, c, d] ++ List.replicate ((writeP p).length - at_ - 4) 0))) := fun k => hz (hsp.1 ((sumR_key (by rw [hll]; exact hs.1)).1 k))
    have h5 := readP_sum.2 hn
    rw [h5]
    simp [hz]
end Go.Proofs.YtnclibfhbngkjaaGreatDoor
namespace Go.Proofs.YtnclibfhbngkjaaGreatDoor
/-! ### A package as one that is there: of each file's bytes the sum alone -/
def ofF (f : FileD) : FileD := ⟨f.path, f.config, sumB f.data⟩
def ofP (p : PkgD) : PkgD := ⟨p.name, p.ver, p.needs, p.conf, p.files.map ofF, p.units⟩
def SumsP (p : PkgD) : Prop := ∀ f ∈ p.files, f.data.length = 4
theorem ofP_sums (p : PkgD) : SumsP (ofP p) := by
  intro f hf
  simp only [ofP, List.mem_map] at hf
  obtain ⟨g, _, rfl⟩ := hf
  rfl
theorem getD_map_path (L : List FileD) (k : Nat) : ((L.map ofF).getD k ⟨[], false, []⟩).path = (L.getD k ⟨[], false, []⟩).path := by
  by_cases h : k < L.length
  · simp [List.getD_eq_getElem?_getD, h, ofF]
  · simp [List.getD_eq_getElem?_getD, h]
theorem fileR_ofF {f : FileD} (h : fileR f = true) : fileR (ofF f) = true := by
  unfold fileR at h ⊢
  simp only [Bool.and_eq_true, decide_eq_true_eq] at h ⊢
  exact ⟨h.1, by simp [ofF, sumB, num4_len], h.2.2⟩
theorem fileAt_ofF {L : List FileD} {k : Nat} (hk : k < L.length) (h : fileAt L k = true) : fileAt (L.map ofF) k = true := by
  unfold fileAt at h ⊢
  rw [getD_map_path, getD_map_path]
  simp only [Bool.and_eq_true] at h ⊢
  have e : (L.map ofF).getD k ⟨[], false, []⟩ = ofF (L.getD k ⟨[], false, []⟩) := by simp [List.getD_eq_getElem?_getD, hk]
  refine ⟨by rw [e]; exact fileR_ofF h.1, h.2.1, ?_⟩
  have h3 := h.2.2
  rw [← List.map_take, List.any_map]
  exact h3
theorem ofP_right {p : PkgD} (h : rightP p = true) : rightP (ofP p) = true := by
  unfold rightP at h ⊢
  simp only [Bool.and_eq_true] at h ⊢
  refine ⟨?_, h.2.1, h.2.2.1, h.2.2.2.1, ?_⟩
  · have := h.1
    unfold headP at this ⊢
    simp only [ofP, List.length_map]
    exact this
  · have := h.2.2.2.2
    unfold filesTo at this ⊢
    rw [List.all_eq_true] at this ⊢
    intro j hj
    have hj' : j < p.files.length := by simpa [ofP] using hj
    exact fileAt_ofF hj' (this j (by simpa using hj'))
/-! ### Its bytes in a base -/
def fileE (f : FileD) : By := raw4 f.path ++ (num4 (boolN f.config) ++ f.data)
def packE (p : PkgD) : By := [raw4 p.name, raw4 p.ver, raw4 (p.needs.flatMap needB), raw4 (p.conf.flatMap raw4), raw4 (p.files.flatMap fileE), raw4 (p.units.flatMap raw4)].flatten
def oneNeedE (s : RSt) : NeedD × RSt := (⟨(rRaw 60 s).1, ((rNum 9 (rRaw 60 s).2).1 : Nat), (rRaw 60 (rNum 9 (rRaw 60 s).2).2).1⟩, (rRaw 60 (rNum 9 (rRaw 60 s).2).2).2)
def oneFileE (s : RSt) : FileD × RSt := (⟨(rRaw 60 s).1, decide ((rNum 1 (rRaw 60 s).2).1 = 1), num4 (rNum 4294967295 (rNum 1 (rRaw 60 s).2).2).1⟩, (rNum 4294967295 (rNum 1 (rRaw 60 s).2).2).2)
theorem oneNeedE_takes : Takes oneNeedE := fun _ h => Nat.lt_of_le_of_lt (rRaw_len 60 _).1 (Nat.lt_of_le_of_lt (rNum_len 9 _) (rRaw_less h))
theorem oneFileE_takes : Takes oneFileE := fun _ h => Nat.lt_of_le_of_lt (rNum_len _ _) (Nat.lt_of_le_of_lt (rNum_len 1 _) (rRaw_less h))
def unE (b : By) : RdPk :=
  let s1 := rRaw 60 (b, false)
  let s2 := rRaw 60 s1.2
  let n := rList s2.2
  let c := rList n.2
  let f := rList c.2
  let u := rList f.2
  let N := rEach oneNeedE n.1
  let C := rEach (oneText 60) c.1
  let F := rEach oneFileE f.1
  let U := rEach (oneText 300) u.1
  ⟨⟨s1.1, s2.1, N.1, C.1, F.1, U.1⟩, rDone u.2 && (rDone N.2 && (rDone C.2 && (rDone F.2 && rDone U.2)))⟩
theorem needE_back {n : NeedD} (h : needR n = true) (hv : n.ver.length ≤ 60) (l : By) : oneNeedE (needB n ++ l, false) = (n, (l, false)) := by
  unfold needR at h
  simp only [Bool.and_eq_true, Bool.or_eq_true, decide_eq_true_eq] at h
  have h12 := nameL_12 h.1
  have hw : 0 ≤ n.way ∧ n.way ≤ 3 := by rcases h.2 with h | h <;> omega
  have hu : u32 n.way = n.way.toNat := by unfold u32; omega
  unfold oneNeedE needB numI
  simp only [List.append_assoc]
  rw [rRaw_back (by omega) (by omega)]
  simp only
  rw [rNum_back (by rw [hu]; omega) (u32_lt _)]
  simp only
  rw [rRaw_back hv (by omega)]
  simp only [hu]
  have : ((n.way.toNat : Nat) : Int) = n.way := by omega
  rw [this]
theorem num4_le {d : By} (h : d.length = 4) : num4 (le32 d) = d := by
  have := num4_le32 (l := d) (by omega)
  rwa [List.drop_of_length_le (by omega), List.append_nil] at this
theorem fileE_back {f : FileD} (h : fileR f = true) (hd : f.data.length = 4) (l : By) : oneFileE (fileE f ++ l, false) = (f, (l, false)) := by
  unfold fileR at h
  simp only [Bool.and_eq_true, decide_eq_true_eq] at h
  have h40 := rightL_40 h.1
  have hb : boolN f.config ≤ 1 := by unfold boolN; split <;> omega
  unfold oneFileE fileE
  simp only [List.append_assoc]
  rw [rRaw_back (by omega) (by omega)]
  simp only
  rw [rNum_back hb (by omega)]
  simp only
  rw [← num4_le hd, rNum_back (by have := le32_lt f.data; omega) (le32_lt _)]
  have : decide (boolN f.config = 1) = f.config := by cases f.config <;> rfl
  rw [this]
  simp only [num4_le hd]
theorem fileE_len {f : FileD} (h : f.data.length = 4) : (fileE f).length = 12 + f.path.length := by simp [fileE, raw4_len, num4_len, h]; omega
theorem packE_len {p : PkgD} (h : rightP p = true) (hs : SumsP p) : (packE p).length ≤ 4000 ∧ (p.needs.flatMap needB).length ≤ 4000 ∧ (p.conf.flatMap raw4).length ≤ 4000 ∧ (p.files.flatMap fileE).length ≤ 4000 ∧ (p.units.flatMap raw4).length ≤ 4000 := by
  unfold rightP headP at h
  simp only [Bool.and_eq_true, decide_eq_true_eq] at h
  obtain ⟨⟨h1, h2, h3, h4, h5, h6⟩, h7, h8, h9, h0⟩ := h
  have n1 := nameL_12 h1
  have n2 := verR_30 h2
  have hf := filesTo_all h0
  rw [List.take_length] at hf
  have a1 := flat_len_le (enc := needB) (m := 54) p.needs (fun x hx => by
    have := (List.all_eq_true.1 h7) x hx
    unfold needR at this
    simp only [Bool.and_eq_true, Bool.or_eq_true, decide_eq_true_eq] at this
    have i1 := nameL_12 this.1
    have i2 : x.ver.length ≤ 30 := by
      rcases this.2 with e | e
      · rw [e.2]; simp
      · exact verR_30 e.2
    rw [needB_len]; omega)
  have a2 := flat_len_le (enc := raw4) (m := 16) p.conf (fun x hx => by
    have := (List.all_eq_true.1 h8) x hx
    unfold confR at this
    simp only [Bool.and_eq_true] at this
    have i1 := nameL_12 this.1
    rw [raw4_len]; omega)
  have a3 := flat_len_le (enc := fileE) (m := 52) p.files (fun x hx => by
    have := hf x hx
    unfold fileR at this
    simp only [Bool.and_eq_true, decide_eq_true_eq] at this
    have i1 := rightL_40 this.1
    rw [fileE_len (hs x hx)]; omega)
  have a4 := flat_len_le (enc := raw4) (m := 304) p.units (fun x hx => by
    have := (List.all_eq_true.1 h9) x hx
    simp only [decide_eq_true_eq] at this
    rw [raw4_len]; omega)
  have e : (packE p).length = 24 + p.name.length + p.ver.length + (p.needs.flatMap needB).length + (p.conf.flatMap raw4).length + (p.files.flatMap fileE).length + (p.units.flatMap raw4).length := by
    simp [packE, raw4_len]; omega
  omega
/-- What a base packs it unpacks. -/
theorem unE_back {p : PkgD} (h : rightP p = true) (hs : SumsP p) : unE (packE p) = ⟨p, true⟩ := by
  obtain ⟨_, l1, l2, l3, l4⟩ := packE_len h hs
  unfold rightP headP at h
  simp only [Bool.and_eq_true, decide_eq_true_eq] at h
  obtain ⟨⟨h1, h2, h3, h4, h5, h6⟩, h7, h8, h9, h0⟩ := h
  have n1 := nameL_12 h1
  have n2 := verR_30 h2
  have hf := filesTo_all h0
  rw [List.take_length] at hf
  have e1 : rEach oneNeedE (p.needs.flatMap needB, false) = (p.needs, ([], false)) := rEach_back oneNeedE_takes p.needs (fun x hx => by
    have hr := (List.all_eq_true.1 h7) x hx
    refine ⟨by rw [needB_len]; omega, fun l => needE_back hr ?_ l⟩
    unfold needR at hr
    simp only [Bool.and_eq_true, Bool.or_eq_true, decide_eq_true_eq] at hr
    rcases hr.2 with e | e
    · rw [e.2]; simp
    · have := verR_30 e.2; omega)
  have e2 : rEach (oneText 60) (p.conf.flatMap raw4, false) = (p.conf, ([], false)) := rEach_back (oneText_takes 60) p.conf (fun x hx => by
    have hr := (List.all_eq_true.1 h8) x hx
    unfold confR at hr
    simp only [Bool.and_eq_true] at hr
    have i1 := nameL_12 hr.1
    exact ⟨by rw [raw4_len]; omega, fun l => rRaw_back (by omega) (by omega) l⟩)
  have e3 : rEach oneFileE (p.files.flatMap fileE, false) = (p.files, ([], false)) := rEach_back oneFileE_takes p.files (fun x hx => ⟨by rw [fileE_len (hs x hx)]; omega, fun l => fileE_back (hf x hx) (hs x hx) l⟩)
  have e4 : rEach (oneText 300) (p.units.flatMap raw4, false) = (p.units, ([], false)) := rEach_back (oneText_takes 300) p.units (fun x hx => by
    have hr := (List.all_eq_true.1 h9) x hx
    simp only [decide_eq_true_eq] at hr
    exact ⟨by rw [raw4_len]; omega, fun l => rRaw_back (by omega) (by omega) l⟩)
  have hp : packE p = raw4 p.name ++ (raw4 p.ver ++ (raw4 (p.needs.flatMap needB) ++ (raw4 (p.conf.flatMap raw4) ++ (raw4 (p.files.flatMap fileE) ++ (raw4 (p.units.flatMap raw4) ++ []))))) := by simp [packE]
  rw [hp]
  unfold unE
  simp only [rRaw_back (show p.name.length ≤ 60 by omega) (by omega), rRaw_back (show p.ver.length ≤ 60 by omega) (by omega), rList_back (show (p.needs.flatMap needB).length ≤ 16777216 by omega), rList_back (show (p.conf.flatMap raw4).length ≤ 16777216 by omega), rList_back (show (p.files.flatMap fileE).length ≤ 16777216 by omega), rList_back (show (p.units.flatMap raw4).length ≤ 16777216 by omega), e1, e2, e3, e4]
  rfl
theorem packE_inj {p q : PkgD} (hp : rightP p = true) (hq : rightP q = true) (sp : SumsP p) (sq : SumsP q) (h : packE p = packE q) : p = q := by
  have a := unE_back hp sp
  have b := unE_back hq sq
  rw [h, b] at a
  exact (congrArg RdPk.p a).symm
theorem packP_inj {p q : PkgD} (hp : rightP p = true) (hq : rightP q = true) (h : packP p = packP q) : p = q := by
  have a := unP_back hp
  have b := unP_back hq
  rw [h, b] at a
  exact (congrArg RdPk.p a).symm
/-! ### Bases: what there is at each name -/
abbrev BaseF := By → Option PkgD
def noneF : BaseF := fun _ => none
def withF (f : BaseF) (e : PkgD) : BaseF := fun x => if x = e.name then some e else f x
def lessF (f : BaseF) (n : By) : BaseF := fun x => if x = n then none else f x
/-- All that is there may be, and bears its name. -/
def GoodF (f : BaseF) : Prop := ∀ x e, f x = some e → e.name = x ∧ rightP e = true ∧ SumsP e
theorem GoodF.none : GoodF noneF := fun _ _ h => by cases h
theorem GoodF.with {f : BaseF} (h : GoodF f) {e : PkgD} (hr : rightP e = true) (hs : SumsP e) : GoodF (withF f e) := by
  intro x d hd
  unfold withF at hd
  split at hd
  · rename_i hx; cases hd; exact ⟨hx.symm, hr, hs⟩
  · exact h x d hd
theorem GoodF.less {f : BaseF} (h : GoodF f) (n : By) : GoodF (lessF f n) := by
  intro x d hd
  unfold lessF at hd
  split at hd
  · cases hd
  · exact h x d hd
/-- Its names, in order. -/
def NamesF (f : BaseF) (ss : List By) : Prop := ss.Pairwise (fun x y => x ≤ y) ∧ ss.Nodup ∧ ∀ x, x ∈ ss ↔ (f x).isSome = true
theorem NamesF.eq {f : BaseF} {ss tt : List By} (h : NamesF f ss) (k : NamesF f tt) : ss = tt := by
  have hp : ss.Perm tt := (List.perm_ext_iff_of_nodup h.2.1 k.2.1).2 fun x => by rw [h.2.2, k.2.2]
  exact hp.eq_of_pairwise (fun a b _ _ h1 h2 => List.le_antisymm h1 h2) h.1 k.1
def packsF (f : BaseF) (ss : List By) : List By := ss.map fun n => packE ((f n).getD pz)
theorem packs_inj {f g : BaseF} {ss tt : List By} (hf : GoodF f) (hg : GoodF g) (h : NamesF f ss) (k : NamesF g tt) (e : packsF f ss = packsF g tt) : f = g := by
  have hall : ∀ (ss tt : List By), (∀ x ∈ ss, (f x).isSome = true) → (∀ x ∈ tt, (g x).isSome = true) → packsF f ss = packsF g tt → ss = tt ∧ ∀ x ∈ ss, f x = g x := by
    intro ss
    induction ss with
    | nil => intro tt _ _ e; cases tt with
      | nil => simp
      | cons => simp [packsF] at e
    | cons a ss ih =>
      intro tt h1 h2 e
      cases tt with
      | nil => simp [packsF] at e
      | cons b tt =>
        simp only [packsF, List.map_cons, List.cons.injEq] at e
        obtain ⟨x, hx⟩ := Option.isSome_iff_exists.1 (h1 a (by simp))
        obtain ⟨y, hy⟩ := Option.isSome_iff_exists.1 (h2 b (by simp))
        have gx := hf a x hx
        have gy := hg b y hy
        have exy : x = y := by
          have := e.1
          rw [hx, hy] at this
          exact packE_inj gx.2.1 gy.2.1 gx.2.2 gy.2.2 this
        have eab : a = b := by rw [← gx.1, ← gy.1, exy]
        obtain ⟨i1, i2⟩ := ih tt (fun x hx => h1 x (by simp [hx])) (fun x hx => h2 x (by simp [hx])) e.2
        subst eab
        refine ⟨by rw [i1], fun z hz => ?_⟩
        rcases List.mem_cons.1 hz with rfl | hz
        · rw [hx, hy, exy]
        · exact i2 z hz
  obtain ⟨h1, h2⟩ := hall ss tt (fun x hx => (h.2.2 x).1 hx) (fun x hx => (k.2.2 x).1 hx) e
  funext x
  by_cases hx : x ∈ ss
  · exact h2 x hx
  · have hy : x ∉ tt := by rw [← h1]; exact hx
    have e1 : f x = none := by
      cases hfx : f x with
      | none => rfl
      | some d => exact absurd ((h.2.2 x).2 (by rw [hfx]; rfl)) hx
    have e2 : g x = none := by
      cases hgx : g x with
      | none => rfl
      | some d => exact absurd ((k.2.2 x).2 (by rw [hgx]; rfl)) hy
    rw [e1, e2]
theorem packs_iff {f g : BaseF} {ss tt : List By} (hf : GoodF f) (hg : GoodF g) (h : NamesF f ss) (k : NamesF g tt) : packsF f ss = packsF g tt ↔ f = g :=
  ⟨packs_inj hf hg h k, fun e => by subst e; rw [h.eq k]⟩
theorem withF_self {f : BaseF} {n : By} {e : PkgD} (hf : GoodF f) (h : f n = some e) : withF f e = f := by
  funext x
  unfold withF
  split
  · rename_i hx; rw [hx, (hf n e h).1, h]
  · rfl
theorem lessF_with {f : BaseF} {n : By} {e : PkgD} (hf : GoodF f) (h : f n = some e) : withF (lessF f n) e = f := by
  funext x
  unfold withF lessF
  split
  · rename_i hx; rw [hx, (hf n e h).1, h]
  · rename_i hx; rw [(hf n e h).1] at hx; rw [if_neg hx]
theorem lessF_none {f : BaseF} {n : By} (h : f n = none) : lessF f n = f := by
  funext x
  unfold lessF
  split
  · rename_i hx; rw [hx, h]
  · rfl
theorem names_less {f : BaseF} {ss tt : List By} {n : By} (h : NamesF f ss) (k : NamesF (lessF f n) tt) (hn : (f n).isSome = true) : tt.length + 1 = ss.length := by
  have hp : (n :: tt).Perm ss := (List.perm_ext_iff_of_nodup (List.nodup_cons.2 ⟨fun hm => by
    have := (k.2.2 n).1 hm
    simp [lessF] at this, k.2.1⟩) h.2.1).2 fun x => by
      rw [List.mem_cons, k.2.2, h.2.2]
      unfold lessF
      by_cases hx : x = n
      · simp [hx, hn]
      · simp [hx]
  have := hp.length_eq
  simpa using this
end Go.Proofs.YtnclibfhbngkjaaGreatDoor
namespace Go.Proofs.YtnclibfhbngkjaaGreatDoor
open Go.RowKit
def nz : NeedD := ⟨[], 0, []⟩
def fz : FileD := ⟨[], false, []⟩
/-- Needs lie so. -/
def NeedsM (w : World) (a : Option Addr) (L : List NeedD) : Prop :=
  L = [] ∨ ∃ g off, a = some ⟨g, off, none⟩ ∧ g < w.heap.size ∧ ∀ i, i < L.length → w.cell? ⟨g, off + i * 3, none⟩ = some (.string (bs (L.getD i nz).name)) ∧ w.cell? ⟨g, off + i * 3 + 1, none⟩ = some (.int .i64 (L.getD i nz).way) ∧ w.cell? ⟨g, off + i * 3 + 2, none⟩ = some (.string (bs (L.getD i nz).ver))
theorem NeedsM.ext {w w' : World} {a : Option Addr} {L : List NeedD} (h : NeedsM w a L) (k : Ext w w') : NeedsM w' a L := by
  rcases h with h | ⟨g, off, ha, hg, hc⟩
  · exact Or.inl h
  · exact Or.inr ⟨g, off, ha, Nat.lt_of_lt_of_le hg k.size, fun i hi => ⟨k.cell (hc i hi).1, k.cell (hc i hi).2.1, k.cell (hc i hi).2.2⟩⟩
theorem NeedsM.at {w : World} {a : Option Addr} {L : List NeedD} (h : NeedsM w a L) {i : Nat} (hi : i < L.length) :
    ∃ g off, a = some ⟨g, off, none⟩ ∧ g < w.heap.size ∧ w.cell? ⟨g, off + i * 3, none⟩ = some (.string (bs (L.getD i nz).name)) ∧ w.cell? ⟨g, off + i * 3 + 1, none⟩ = some (.int .i64 (L.getD i nz).way) ∧ w.cell? ⟨g, off + i * 3 + 2, none⟩ = some (.string (bs (L.getD i nz).ver)) := by
  rcases h with h | ⟨g, off, ha, hg, hc⟩
  · rw [h] at hi; simp at hi
  · exact ⟨g, off, ha, hg, hc i hi⟩
theorem NeedsM.nil (w : World) (a : Option Addr) : NeedsM w a [] := Or.inl rfl
/-- A file's three cells. -/
def FileAtM (w : World) (g o : Nat) (f : FileD) : Prop := w.cell? ⟨g, o, none⟩ = some (.string (bs f.path)) ∧ w.cell? ⟨g, o + 1, none⟩ = some (.bool f.config) ∧ ∃ d c, w.cell? ⟨g, o + 2, none⟩ = some (.slice d f.data.length c) ∧ f.data.length ≤ c ∧ Bytes w d f.data
theorem FileAtM.ext {w w' : World} {g o : Nat} {f : FileD} (h : FileAtM w g o f) (k : Ext w w') : FileAtM w' g o f := by
  obtain ⟨h1, h2, d, c, h3, h4, h5⟩ := h
  exact ⟨k.cell h1, k.cell h2, d, c, k.cell h3, h4, h5.ext k⟩
/-- Files lie so. -/
def FilesM (w : World) (a : Option Addr) (L : List FileD) : Prop :=
  L = [] ∨ ∃ g off, a = some ⟨g, off, none⟩ ∧ g < w.heap.size ∧ ∀ i, i < L.length → FileAtM w g (off + i * 3) (L.getD i fz)
theorem FilesM.ext {w w' : World} {a : Option Addr} {L : List FileD} (h : FilesM w a L) (k : Ext w w') : FilesM w' a L := by
  rcases h with h | ⟨g, off, ha, hg, hc⟩
  · exact Or.inl h
  · exact Or.inr ⟨g, off, ha, Nat.lt_of_lt_of_le hg k.size, fun i hi => (hc i hi).ext k⟩
theorem FilesM.at {w : World} {a : Option Addr} {L : List FileD} (h : FilesM w a L) {i : Nat} (hi : i < L.length) :
    ∃ g off, a = some ⟨g, off, none⟩ ∧ g < w.heap.size ∧ FileAtM w g (off + i * 3) (L.getD i fz) := by
  rcases h with h | ⟨g, off, ha, hg, hc⟩
  · rw [h] at hi; simp at hi
  · exact ⟨g, off, ha, hg, hc i hi⟩
theorem FilesM.nil (w : World) (a : Option Addr) : FilesM w a [] := Or.inl rfl
/-- Where a package's four lists lie. -/
structure PkgA where
  an : Option Addr
  ac : Option Addr
  af : Option Addr
  au : Option Addr
  cn : Nat
  cc : Nat
  cf : Nat
  cu : Nat
def pkgV (p : PkgD) (A : PkgA) : Value := .agg #[.string (bs p.name), .string (bs p.ver), .slice A.an p.needs.length A.cn, .slice A.ac p.conf.length A.cc, .slice A.af p.files.length A.cf, .slice A.au p.units.length A.cu]
structure PkgM (w : World) (p : PkgD) (A : PkgA) : Prop where
  needs : NeedsM w A.an p.needs
  conf : Strs w A.ac p.conf
  files : FilesM w A.af p.files
  units : Strs w A.au p.units
theorem PkgM.ext {w w' : World} {p : PkgD} {A : PkgA} (h : PkgM w p A) (k : Ext w w') : PkgM w' p A := ⟨h.needs.ext k, h.conf.ext k, h.files.ext k, h.units.ext k⟩
/-- Are the four lists' capacities such as slices have? -/
def PkgC (p : PkgD) (A : PkgA) : Prop := p.needs.length ≤ A.cn ∧ p.conf.length ≤ A.cc ∧ p.files.length ≤ A.cf ∧ p.units.length ≤ A.cu
end Go.Proofs.YtnclibfhbngkjaaGreatDoor
namespace Go.Proofs.YtnclibfhbngkjaaGreatDoor
open Go.RowKit
/-- A file's three cells: where, whether it is the users', the sum. -/
def FileAtE (w : World) (g o : Nat) (f : FileD) : Prop := w.cell? ⟨g, o, none⟩ = some (.string (bs f.path)) ∧ w.cell? ⟨g, o + 1, none⟩ = some (.bool f.config) ∧ w.cell? ⟨g, o + 2, none⟩ = some (.int .u32 (le32 f.data : Nat))
theorem FileAtE.ext {w w' : World} {g o : Nat} {f : FileD} (h : FileAtE w g o f) (k : Ext w w') : FileAtE w' g o f := ⟨k.cell h.1, k.cell h.2.1, k.cell h.2.2⟩
/-- Files lie so. -/
def FilesE (w : World) (a : Option Addr) (L : List FileD) : Prop :=
  L = [] ∨ ∃ g off, a = some ⟨g, off, none⟩ ∧ g < w.heap.size ∧ ∀ i, i < L.length → FileAtE w g (off + i * 3) (L.getD i fz)
theorem FilesE.ext {w w' : World} {a : Option Addr} {L : List FileD} (h : FilesE w a L) (k : Ext w w') : FilesE w' a L := by
  rcases h with h | ⟨g, off, ha, hg, hc⟩
  · exact Or.inl h
  · exact Or.inr ⟨g, off, ha, Nat.lt_of_lt_of_le hg k.size, fun i hi => (hc i hi).ext k⟩
theorem FilesE.at {w : World} {a : Option Addr} {L : List FileD} (h : FilesE w a L) {i : Nat} (hi : i < L.length) :
    ∃ g off, a = some ⟨g, off, none⟩ ∧ g < w.heap.size ∧ FileAtE w g (off + i * 3) (L.getD i fz) := by
  rcases h with h | ⟨g, off, ha, hg, hc⟩
  · rw [h] at hi; simp at hi
  · exact ⟨g, off, ha, hg, hc i hi⟩
theorem FilesE.nil (w : World) (a : Option Addr) : FilesE w a [] := Or.inl rfl
/-- A package that is there, in memory. -/
structure EntM (w : World) (p : PkgD) (A : PkgA) : Prop where
  needs : NeedsM w A.an p.needs
  conf : Strs w A.ac p.conf
  files : FilesE w A.af p.files
  units : Strs w A.au p.units
theorem EntM.ext {w w' : World} {p : PkgD} {A : PkgA} (h : EntM w p A) (k : Ext w w') : EntM w' p A := ⟨h.needs.ext k, h.conf.ext k, h.files.ext k, h.units.ext k⟩
/-- How names are written as keys. -/
def keyS (x : By) : Lit := .string x
theorem keyS_inj (x y : By) (h : keyS x = keyS y) : x = y := by unfold keyS at h; exact Lit.string.inj h
/-- What a map of packages has at a name. -/
def entF (f : BaseF) (A : By → PkgA) : By → Option Value := fun x => (f x).map fun e => pkgV e (A x)
/-- A block is a map of packages. -/
def EntsM (w : World) (b N : Nat) (f : BaseF) (A : By → PkgA) : Prop :=
  MapF keyS w 9 b N (entF f A) ∧ ∀ x e, f x = some e → EntM w e (A x) ∧ PkgC e (A x)
/-- A base: nothing, or a map of packages. -/
def BaseM (w : World) (v : Value) (N : Nat) (f : BaseF) : Prop :=
  (v = .agg #[.map none] ∧ f = noneF) ∨ ∃ b A, v = .agg #[.map (some b)] ∧ EntsM w b N f A
theorem EntsM.lt {w : World} {b N : Nat} {f : BaseF} {A : By → PkgA} (h : EntsM w b N f A) : b < w.heap.size := h.1.lt
theorem EntsM.ext {w w' : World} {b N : Nat} {f : BaseF} {A : By → PkgA} (h : EntsM w b N f A) (k : Ext w w') : EntsM w' b N f A :=
  ⟨h.1.ext k, fun x e he => ⟨(h.2 x e he).1.ext k, (h.2 x e he).2⟩⟩
theorem BaseM.ext {w w' : World} {v : Value} {N : Nat} {f : BaseF} (h : BaseM w v N f) (k : Ext w w') : BaseM w' v N f := by
  rcases h with h | ⟨b, A, hv, h⟩
  · exact Or.inl h
  · exact Or.inr ⟨b, A, hv, h.ext k⟩
theorem EntsM.mono {w : World} {b N M : Nat} {f : BaseF} {A : By → PkgA} (h : EntsM w b N f A) (hn : N ≤ M) : EntsM w b M f A := ⟨h.1.mono hn, h.2⟩
theorem BaseM.mono {w : World} {v : Value} {N M : Nat} {f : BaseF} (h : BaseM w v N f) (hn : N ≤ M) : BaseM w v M f := by
  rcases h with h | ⟨b, A, hv, h⟩
  · exact Or.inl h
  · exact Or.inr ⟨b, A, hv, h.mono hn⟩
end Go.Proofs.YtnclibfhbngkjaaGreatDoor
namespace Go.Proofs.YtnclibfhbngkjaaGreatDoor
open Go.RowKit
theorem encStr_bs (x : List UInt8) : encStr x = .string (bs x) := rfl
/-- What the map's own keys are, in order. -/
theorem sorted_names {D : DataW Value} {w : World} {b n : Nat} {f : By → Option Value} (h1 : w.ownsMap Tryz.prog 9 selfR b n D) (h3 : ∀ x, Maps.has D (keyS x) = (f x).isSome) {ss : List By} (hp : ss.Perm (strKeys D)) :
    (ss.mergeSort leB).Pairwise (fun x y => x ≤ y) ∧ (ss.mergeSort leB).Nodup ∧ ∀ x, x ∈ ss.mergeSort leB ↔ (f x).isSome = true := by
  obtain ⟨es, hD, hpw, _⟩ := h1.entries str_keyed
  obtain ⟨es', hD', hko⟩ := h1.keysOf
  obtain rfl : es = es' := by rw [hD] at hD'; simpa using hD'
  subst hD
  have hk : ∀ p ∈ es, ∃ x, p.1 = .string x := fun p hp => by obtain ⟨v, hv⟩ := hko p hp; obtain ⟨x, _, hx, _⟩ := Maps.keyOf_str Tryz.underlying9 hv; exact ⟨x, hx⟩
  have tr : ∀ a b c : List UInt8, leB a b = true → leB b c = true → leB a c = true := fun a b c h1 h2 => by simp only [leB, decide_eq_true_eq] at *; exact List.le_trans h1 h2
  have tot : ∀ a b : List UInt8, (leB a b || leB b a) = true := fun a b => by simp only [leB, Bool.or_eq_true, decide_eq_true_eq]; exact List.le_total a b
  have hs := List.pairwise_mergeSort tr tot ss
  have hm : (ss.mergeSort leB).Perm (strKeys (.map es)) := (List.mergeSort_perm ss _).trans hp
  have hnd : (strKeys (.map es)).Nodup := by
    show (es.map fun p => strOf p.1).Nodup
    refine List.pairwise_map.2 (List.Pairwise.imp_of_mem (fun {p q} hp' hq' hne e => hne ?_) hpw)
    obtain ⟨a, ha⟩ := hk p hp'
    obtain ⟨b, hb⟩ := hk q hq'
    rw [ha, hb] at e ⊢
    exact congrArg _ e
  refine ⟨List.Pairwise.imp (fun {a b} h => by simpa [leB] using h) hs, hm.nodup_iff.2 hnd, fun x => ?_⟩
  rw [hm.mem_iff, ← h3 x]
  show x ∈ es.map (fun p => strOf p.1) ↔ Maps.has (.map es) (.string x) = true
  rw [Maps.has_eq, List.any_eq_true, List.mem_map]
  constructor
  · rintro ⟨p, hp', rfl⟩
    obtain ⟨a, ha⟩ := hk p hp'
    exact ⟨p, hp', by rw [ha]; simp [Lit.sameKey, strOf]⟩
  · rintro ⟨p, hp', hs⟩
    obtain ⟨a, ha⟩ := hk p hp'
    rw [ha] at hs
    exact ⟨p, hp', by rw [ha]; simpa [Lit.sameKey, strOf] using hs⟩
end Go.Proofs.YtnclibfhbngkjaaGreatDoor
namespace Go.Proofs.YtnclibfhbngkjaaGreatDoor
open Go.RowKit
theorem entF_some {f : BaseF} {A : By → PkgA} {x : By} {v : Value} (h : entF f A x = some v) : ∃ e, f x = some e ∧ v = pkgV e (A x) := by
  unfold entF at h
  cases hf : f x with
  | none => rw [hf] at h; cases h
  | some e => rw [hf] at h; exact ⟨e, rfl, (Option.some.inj h).symm⟩
set_option maxRecDepth 100000 in
set_option maxHeartbeats 3200000 in
theorem base_copy (bd b N : Nat) (f : BaseF) (A : By → PkgA) (w : World) (hd : MapF keyS w 9 bd 0 (fun _ => none)) (hs : EntsM w b N f A) (hne : b ≠ bd) (hN : N ≤ 100000) :
    Calls Tryz.prog 58 #[.map (some bd), .map (some b)] w fun e w' => e = .returned (.tuple #[]) ∧ MapF keyS w' 9 bd N (entF f A) ∧ Keep (· ≠ bd) w w' := by
  obtain ⟨R, hR⟩ : ∃ R : Ending → World → Prop, R = fun e w' => e = .returned (.tuple #[]) ∧ MapF keyS w' 9 bd N (entF f A) ∧ Keep (· ≠ bd) w w' := ⟨_, rfl⟩
  rw [← hR]
  have HR := Lib.hid hR; clear hR
  have HD := Lib.hid hd; clear hd
  have HS := Lib.hid hs; clear hs
  have hbl := HS.out.lt
  have hdl := HD.out.lt
  have HNE := Lib.hid hne; clear hne
  go_enter Tryz.func58, Tryz.ntmps58
  go_wp2_with (first
    | (at_range; refine wpList_range_F rfl _ 40 rfl 37 str_keyed Tryz.underlying40 b N (entF f A) rfl HS.out.1 ?_; intro w0 c0 hg0 hx0 hs0)
    | go_in)
  go_frame
  obtain ⟨r, hr⟩ : ∃ r, r = w.heap.size := ⟨_, rfl⟩
  rw [← hr] at hg0 hbl hdl ⊢
  have HRS := Lib.hid hr; clear hr hs0
  go_loopw [8] (fun _ wr => ∃ (left : By → Bool) (cnt k : Nat), Hid (MapG keyS wr 9 b r N (entF f A) left cnt) ∧ k + cnt ≤ N ∧ Hid (MapF keyS wr 9 bd k (fun x => if left x then none else entF f A x)) ∧ Hid (Keep (· ≠ bd) w wr)) (fun _ wr => wr.rangeLeft b r)
  case atStart =>
    refine ⟨_, c0, 0, Lib.hid hg0, by have := hg0.cnt_le; omega, Lib.hid ((HD.out.ext hx0).same ?_), Lib.hid (Keep.of_ext hx0)⟩
    funext x
    cases entF f A x <;> simp
  case round =>
    obtain ⟨left, cnt, k, hg, hk, hm, hkp⟩ := hrel
    have HGC := Lib.hid hg.out.count
    go_wp2_with (first
      | (at_next; refine wpList_next_F rfl _ rfl str_keyed (fun x => .string (bs x)) keyS_inj inv_str b r N (entF f A) left cnt rfl hg.out ?_ ?_)
      | go_in)
    · intro hl
      have HL := Lib.hid hl; clear hl
      go_wp2_with fail
      go_end0
      rw [HR.out]
      refine ⟨rfl, (hm.out.same ?_).mono (by omega), hkp.out⟩
      funext x
      rw [HL.out x]
      simp
    · intro x v w1 cnt1 hkey hlx hfx hg1 hlt hk1 hs1 hen
      obtain ⟨e, he, hv⟩ := entF_some hfx
      generalize A x = Ax at hv
      obtain ⟨an, ac, af, au, cn, cc, cf, cu⟩ := Ax
      unfold pkgV at hv
      simp only at hv
      subst hv
      have HFX := Lib.hid hfx; clear hfx he
      have HG1 := Lib.hid hg1; clear hg1
      have HM1 := Lib.hid (hm.out.keep hk1 (by have := HRS.out; omega))
      have HK1 := Lib.hid hk1; clear hk1 hg hm
      have HLX := Lib.hid hlx; clear hlx hs1
      go_wp2_with (first
        | (at_mapUpdate; refine wpList_store_F rfl _ _ _ 40 rfl 37 str_keyed Tryz.underlying40 bd k _ rfl (HM1.out.ext (Ext.alloc _ _)) (by unfold maxLen; omega) keyS_inj _ (.agg #[.string (bs e.name), .string (bs e.ver), .slice an e.needs.length cn, .slice ac e.conf.length cc, .slice af e.files.length cf, .slice au e.units.length cu]) x rfl rfl hkey ?_; intro w2 hm2 hk2; go_frame)
        | go_in)
      have hx1 : Ext w1 (w1.alloc (.cells #[.string (bs e.name), .string (bs e.ver), .slice an e.needs.length cn, .slice ac e.conf.length cc, .slice af e.files.length cf, .slice au e.units.length cu] 37)) := Ext.alloc _ _
      have HX1 := Lib.hid hx1; clear hx1
      have hr1 := HRS.out
      have hg2 := (HG1.out.ext HX1.out).keep hk2 HNE.out (by omega)
      go_roundw
      case rel =>
        refine ⟨_, cnt1, k + 1, Lib.hid hg2, by omega, Lib.hid (hm2.same ?_), Lib.hid (((hkp.out.andThen HK1.out (fun j hj _ => by omega)).andThen (Keep.of_ext (S := fun j => j ≠ bd) HX1.out) (fun _ _ h => h)).trans hk2)⟩
        funext z
        by_cases hz : z = x
        · subst hz
          rw [if_pos rfl, HFX.out]
          simp
        · rw [if_neg hz]
          simp [hz]
      case measure =>
        rw [hg2.count, HGC.out]
        exact hlt
set_option maxHeartbeats 1600000 in
theorem base_copy_nil (bd : Nat) (w : World) (hd : MapF keyS w 9 bd 0 (fun _ => none)) :
    Calls Tryz.prog 58 #[.map (some bd), .map none] w fun e w' => e = .returned (.tuple #[]) ∧ MapF keyS w' 9 bd 0 (fun _ => none) ∧ Keep (· ≠ bd) w w' := by
  have HD := Lib.hid hd; clear hd
  have hrg := run_range_nilMap (P := Tryz.prog) w 40 _ _ Tryz.underlying40
  have hnx : ∀ ty, (Instr.next (.pointer (some ⟨w.heap.size, 0, none⟩)) false ty).run Tryz.prog (w.alloc (.mapIter none 0 #[] 0)) = _ := fun ty => run_next_nilMap _ ty 0 0 #[]
  go_enter Tryz.func58, Tryz.ntmps58
  go_wp2
  refine wp_loop_rounds 1 ?_
  rw [rounds_succ]
  go_wp2
  go_end0
  exact ⟨rfl, HD.out.ext (Ext.alloc _ _), Keep.of_ext (Ext.alloc _ _)⟩
end Go.Proofs.YtnclibfhbngkjaaGreatDoor
namespace Go.Proofs.YtnclibfhbngkjaaGreatDoor
open Go.RowKit
/-- A reader stands in this block, its bytes in blocks of a kind. -/
def Rd (S : Nat → Prop) (w : World) (R : Nat) (s : RSt) : Prop :=
  ∃ a c, w.heap[R]? = some (.cells #[.slice a s.1.length c, .bool s.2] 132 (0, 0)) ∧ s.1.length ≤ c ∧ BytesS S w a s.1
theorem Rd.lt {S : Nat → Prop} {w : World} {R : Nat} {s : RSt} (h : Rd S w R s) : R < w.heap.size := by
  obtain ⟨a, c, hg, _⟩ := h
  exact (Array.getElem?_eq_some_iff.1 hg).1
theorem cell_not {S : Nat → Prop} {w : World} {R : Nat} {s : RSt} (h : Rd S w R s) {g o : Nat} {v : Value} (hv : w.cell? ⟨g, o, none⟩ = some v) (h1 : ∀ a n c, v ≠ .slice a n c) (h2 : ∀ b, v ≠ .bool b) : g ≠ R := by
  rintro rfl
  obtain ⟨a, c, hg, _⟩ := h
  unfold World.cell? at hv
  simp only [hg] at hv
  match o, hv with
  | 0, hv => simp at hv; exact h1 _ _ _ hv.symm
  | 1, hv => simp at hv; exact h2 _ hv.symm
  | o + 2, hv => simp at hv
theorem Bytes.but {S : Nat → Prop} {w w' : World} {R : Nat} {s : RSt} {a : Option Addr} {l : List UInt8} (hR : Rd S w R s) (h : Bytes w a l) (k : But R w w') : Bytes w' a l := by
  rcases h with h | ⟨g, off, ha, hg, hc⟩
  · exact Or.inl h
  · refine Or.inr ⟨g, off, ha, Nat.lt_of_lt_of_le hg k.size, fun i hi => k.cell ?_ (hc i hi)⟩
    exact cell_not hR (hc i hi) (by intros; simp) (by intros; simp)
theorem BytesS.but {S T : Nat → Prop} {w w' : World} {R : Nat} {s : RSt} {a : Option Addr} {l : List UInt8} (hR : Rd S w R s) (h : BytesS T w a l) (k : But R w w') : BytesS T w' a l := by
  rcases h with h | ⟨g, off, ha, hg, hS, hc⟩
  · exact Or.inl h
  · refine Or.inr ⟨g, off, ha, Nat.lt_of_lt_of_le hg k.size, hS, fun i hi => ?_⟩
    have hi' : i < l.length := by simpa [byteV] using hi
    have h1 := hc i hi
    rw [byteV_at hi'] at h1 ⊢
    exact k.cell (cell_not hR h1 (by intros; simp) (by intros; simp)) h1
theorem Rd.but {S T : Nat → Prop} {w w' : World} {R Q : Nat} {s t : RSt} (hR : Rd S w R s) (h : Rd T w Q t) (k : But R w w') (hne : Q ≠ R) : Rd T w' Q t := by
  have hlt := h.lt
  obtain ⟨a, c, hg, hc, hb⟩ := h
  exact ⟨a, c, (k.block Q hlt hne).trans hg, hc, hb.but hR k⟩
theorem Rd.ext {S : Nat → Prop} {w w' : World} {Q : Nat} {t : RSt} (h : Rd S w Q t) (k : Ext w w') : Rd S w' Q t := by
  obtain ⟨a, c, hg, hc, hb⟩ := h
  exact ⟨a, c, k.heap hg, hc, Row.keep hb (Keep.of_ext k)⟩
theorem Rd.keep {S T : Nat → Prop} {w w' : World} {Q : Nat} {t : RSt} (h : Rd S w Q t) (k : Keep T w w') (hQ : T Q) (hS : ∀ g, g < w.heap.size → S g → T g) : Rd S w' Q t := by
  obtain ⟨a, c, hg, hc, hb⟩ := h
  refine ⟨a, c, k.heap hQ hg, hc, ?_⟩
  rcases hb with hb | ⟨g, off, ha, hlt, hSg, hcell⟩
  · exact Or.inl hb
  · refine Or.inr ⟨g, off, ha, Nat.lt_of_lt_of_le hlt k.size, hSg, fun i hi => ?_⟩
    have := hcell i hi
    rw [List.getElem?_eq_getElem hi] at this ⊢
    exact k.cell (hS g hlt hSg) this
theorem Rd.mono {S T : Nat → Prop} {w : World} {Q : Nat} {t : RSt} (h : Rd S w Q t) (hT : ∀ g, g < w.heap.size → S g → T g) : Rd T w Q t := by
  obtain ⟨a, c, hg, hc, hb⟩ := h
  exact ⟨a, c, hg, hc, Row.mono hb hT⟩
theorem rd_num_bad {S : Nat → Prop} {w : World} {R : Nat} {s : RSt} (h : Rd S w R s) : But R w ((w.setCell ⟨R, 1, none⟩ (.bool true)).setCell ⟨R, 0, none⟩ (.slice none 0 0)) ∧ Rd S ((w.setCell ⟨R, 1, none⟩ (.bool true)).setCell ⟨R, 0, none⟩ (.slice none 0 0)) R ([], true) := by
  obtain ⟨a, c, hg, hc, hb⟩ := h
  refine ⟨((But.refl R w).setCell 1 _).setCell 0 _, none, 0, ?_, Nat.le_refl _, Or.inl rfl⟩
  rw [setCell_row (setCell_row hg _)]
  rfl
theorem rd_cut {S : Nat → Prop} {w : World} {R g off c k : Nat} {s : RSt} {a' : Option Addr} {c' : Nat} (hg : w.heap[R]? = some (.cells #[.slice (some ⟨g, off, none⟩) s.1.length c, .bool s.2] 132 (0, 0))) (hc : s.1.length ≤ c) (hb : BytesS S w (some ⟨g, off, none⟩) s.1) (hk : k ≤ s.1.length)
    (ha : s.1.length = k ∨ a' = some ⟨g, off + k, none⟩) (hc' : s.1.length - k ≤ c') :
    But R w (w.setCell ⟨R, 0, none⟩ (.slice a' (s.1.length - k) c')) ∧ Rd S (w.setCell ⟨R, 0, none⟩ (.slice a' (s.1.length - k) c')) R (s.1.drop k, s.2) := by
  have hB : But R w (w.setCell ⟨R, 0, none⟩ (.slice a' (s.1.length - k) c')) := (But.refl R w).setCell 0 _
  have hR : Rd S w R s := ⟨_, _, hg, hc, hb⟩
  refine ⟨hB, a', c', ?_, by simpa using hc', ?_⟩
  · rw [setCell_row hg]; simp
  · rcases ha with h | rfl
    · left; simp [byteV, h]
    · have hb2 := hb.but hR hB
      rcases hb2 with h | ⟨g', off', ha, hlt, hSg, hcell⟩
      · left
        have : s.1 = [] := by simpa [byteV] using h
        simp [byteV, this]
      · have ha := Option.some.inj ha
        obtain ⟨rfl, rfl⟩ : g = g' ∧ off = off' := by constructor <;> (cases ha; rfl)
        right
        refine ⟨g, off + k, rfl, hlt, hSg, fun i hi => ?_⟩
        have hi' : k + i < s.1.length := by simp [byteV] at hi; omega
        have := hcell (k + i) (by simpa [byteV] using hi')
        rw [← Nat.add_assoc] at this
        rw [this]
        simp [byteV, List.getElem?_drop]
theorem rd_facts {w : World} {R : Nat} {v0 v1 : Value} {t : TypeId} (hg : w.heap[R]? = some (.cells #[v0, v1] t (0, 0))) :
    w.cell? ⟨R, 0, none⟩ = some v0 ∧ w.cell? ⟨R, 1, none⟩ = some v1 ∧ w.frozen? ⟨R, 0, none⟩ = false ∧ w.frozen? ⟨R, 1, none⟩ = false := by
  refine ⟨?_, ?_, ?_, ?_⟩
  · unfold World.cell?; simp only [hg]; simp
  · unfold World.cell?; simp only [hg]; simp
  · unfold World.frozen?; simp only [hg]; simp
  · unfold World.frozen?; simp only [hg]; simp
end Go.Proofs.YtnclibfhbngkjaaGreatDoor
