/- Plain words that all my texts share: texts as lists of bytes, what stands between bytes of one kind. No program in sight. -/
import Derived.WalkKit
import Derived.Lib.Split
import Derived.Lib.SplitLaws
import Derived.Lib.Strings
import Derived.Lib.Hide
namespace Go.Proofs.YtpfcofjianmeaaaDoor
open Go.RowKit

/-- A text of bytes. -/
def bs (l : List UInt8) : ByteArray := ⟨l.toArray⟩
theorem bs_data (l : List UInt8) : (bs l).data.toList = l := by simp [bs]
theorem bs_of (s : ByteArray) : bs s.data.toList = s := by cases s; simp [bs]
theorem bs_size (l : List UInt8) : (bs l).size = l.length := by simp [bs, ByteArray.size]
theorem bs_toList (l : List UInt8) : (bs l).toList = l := by rw [ByteArray.toList_eq, bs_data]
theorem bs_inj {a b : List UInt8} : bs a = bs b ↔ a = b := ⟨fun h => by rw [← bs_data a, h, bs_data], fun h => by rw [h]⟩
theorem size_len (s : ByteArray) : s.data.toList.length = s.size := by simp
theorem eq_bs {s : ByteArray} {l : List UInt8} (h : s.data.toList = l) : s = bs l := by rw [← h, bs_of]
theorem extract_bs (s : ByteArray) (a b : Nat) : s.extract a b = bs ((s.data.toList.drop a).take (b - a)) := by
  apply eq_bs; rw [← ByteArray.toList_eq, Lib.extract_toList]

theorem bs_append (a b : List UInt8) : bs a ++ bs b = bs (a ++ b) := by
  apply eq_bs
  simp [bs]
theorem bs_beq_ne {a b : List UInt8} (h : a ≠ b) : ((bs a).toList == (bs b).toList) = false := by rw [bs_toList, bs_toList]; simpa using h
theorem bs_bne_ne {a b : List UInt8} (h : a ≠ b) : ((bs a).toList != (bs b).toList) = true := by rw [bs_toList, bs_toList]; simpa using h
theorem bs_beq_eq {a b : List UInt8} (h : a = b) : ((bs a).toList == (bs b).toList) = true := by rw [h]; simp
theorem bs_bne_eq {a b : List UInt8} (h : a = b) : ((bs a).toList != (bs b).toList) = false := by rw [h]; simp
theorem ret_bool {a b : Bool} (h : a = b) : Ending.returned (.bool a) = .returned (.bool b) := by rw [h]
theorem ret_int {k : IntKind} {a b : Int} (h : a = b) : Ending.returned (.int k a) = .returned (.int k b) := by rw [h]
theorem ret_str {a b : ByteArray} (h : a = b) : Ending.returned (.string a) = .returned (.string b) := by rw [h]

/-- What stands between bytes c. -/
def splitOn (c : UInt8) : List UInt8 → List (List UInt8)
  | [] => [[]]
  | x :: r => if x = c then [] :: splitOn c r else
    match splitOn c r with
    | [] => [[x]]
    | p :: q => (x :: p) :: q
theorem splitOn_ne (c : UInt8) (l : List UInt8) : splitOn c l ≠ [] := by
  cases l with
  | nil => simp [splitOn]
  | cons x r => unfold splitOn; split <;> try simp
                split <;> simp
theorem splitOn_cons_eq (c : UInt8) (r : List UInt8) : splitOn c (c :: r) = [] :: splitOn c r := by simp [splitOn]
theorem splitOn_append (c : UInt8) (a r : List UInt8) (ha : c ∉ a) : splitOn c (a ++ c :: r) = a :: splitOn c r := by
  induction a with
  | nil => simp [splitOn]
  | cons x a ih =>
    have h1 : x ≠ c := fun e => ha (by simp [e])
    have h2 : c ∉ a := fun e => ha (by simp [e])
    rw [List.cons_append, splitOn, if_neg h1, ih h2]
theorem splitOn_none (c : UInt8) (a : List UInt8) (ha : c ∉ a) : splitOn c a = [a] := by
  induction a with
  | nil => rfl
  | cons x a ih =>
    have h1 : x ≠ c := fun e => ha (by simp [e])
    have h2 : c ∉ a := fun e => ha (by simp [e])
    rw [splitOn, if_neg h1, ih h2]

/-- No piece has the byte; joined again by it they are the text. -/
theorem splitOn_mem (c : UInt8) (l : List UInt8) : ∀ p ∈ splitOn c l, c ∉ p := by
  induction l with
  | nil => intro p hp; simp [splitOn] at hp; subst hp; simp
  | cons x r ih =>
    intro p hp
    unfold splitOn at hp
    split at hp
    · rcases List.mem_cons.1 hp with rfl | hp
      · simp
      · exact ih p hp
    · rename_i hx
      split at hp
      · simp at hp; subst hp; simp; exact fun e => hx e.symm
      · rename_i q qs hq
        rcases List.mem_cons.1 hp with rfl | hp
        · intro e
          rcases List.mem_cons.1 e with e | e
          · exact hx e.symm
          · exact ih q (by rw [hq]; simp) e
        · exact ih p (by rw [hq]; simp [hp])

/-- Pieces with the byte ahead of each. -/
def glue (c : UInt8) (L : List (List UInt8)) : List UInt8 := (L.map (c :: ·)).flatten
theorem glue_cons (c : UInt8) (p : List UInt8) (L) : glue c (p :: L) = c :: p ++ glue c L := by simp [glue]
theorem glue_append (c : UInt8) (A B) : glue c (A ++ B) = glue c A ++ glue c B := by simp [glue]
theorem glue_splitOn (c : UInt8) (l : List UInt8) : glue c (splitOn c l) = c :: l := by
  induction l with
  | nil => rfl
  | cons x r ih =>
    unfold splitOn
    split
    · rename_i h; subst h; rw [glue_cons, ih]; rfl
    · split
      · rename_i h; exact absurd h (splitOn_ne c r)
      · rename_i p q h
        rw [h, glue_cons] at ih
        rw [glue_cons]
        simp at ih ⊢
        exact ih
theorem splitOn_glue (c : UInt8) (p : List UInt8) (L : List (List UInt8)) (hp : c ∉ p) (h : ∀ q ∈ L, c ∉ q) : splitOn c (p ++ glue c L) = p :: L := by
  induction L generalizing p with
  | nil => simp [glue, splitOn_none c p hp]
  | cons q L ih =>
    rw [glue_cons, List.cons_append, splitOn_append c p _ hp, ih q (h q (by simp)) (fun r hr => h r (by simp [hr]))]

theorem splitOn_length_pos (c : UInt8) (l : List UInt8) : 1 ≤ (splitOn c l).length := by
  have := splitOn_ne c l
  cases h : splitOn c l with
  | nil => exact absurd h this
  | cons => simp

theorem index_cons_ne (b c : UInt8) (l : List UInt8) (h : b ≠ c) : Lib.index (b :: l) [c] = if Lib.index l [c] == -1 then -1 else Lib.index l [c] + 1 := by
  have hp : ([c] : List UInt8).isPrefixOf (b :: l) = false := by simp [List.isPrefixOf, Ne.symm h]
  rw [Lib.index, hp]; simp
theorem index_cons_eq (c : UInt8) (l : List UInt8) : Lib.index (c :: l) [c] = 0 := by rw [Lib.index]; simp [List.isPrefixOf]
theorem index_count (c : UInt8) (l : List UInt8) : Lib.index l [c] = -1 ↔ Lib.count l [c] = 0 := by
  constructor
  · exact fun h => Lib.count_miss h
  · intro h
    have hge := Lib.index_ge l [c]
    by_cases hm : Lib.index l [c] = -1
    · exact hm
    · obtain ⟨j, hj⟩ : ∃ j : Nat, Lib.index l [c] = j := ⟨(Lib.index l [c]).toNat, by omega⟩
      rw [Lib.count_hit (by simp) hj] at h
      omega
theorem splitK_on (c : UInt8) : ∀ (l : List UInt8), Lib.splitK [c] 0 (Lib.count l [c]) l = splitOn c l
  | [] => by rw [Lib.count_one]; rfl
  | b :: l => by
    have ih := splitK_on c l
    by_cases h : b = c
    · subst h
      rw [Lib.count_cons_eq, Nat.add_comm, Lib.splitK, index_cons_eq, splitOn_cons_eq]
      simp [ih]
    · rw [Lib.count_cons_ne b c l h, splitOn, if_neg h]
      cases hk : Lib.count l [c] with
      | zero =>
        rw [hk] at ih
        rw [← ih]; rfl
      | succ k =>
        rw [hk] at ih
        have hm : Lib.index l [c] ≠ -1 := fun e => by have := (index_count c l).1 e; omega
        have hge := Lib.index_ge l [c]
        obtain ⟨j, hj⟩ : ∃ j : Nat, Lib.index l [c] = j := ⟨(Lib.index l [c]).toNat, by omega⟩
        have hix : Lib.index (b :: l) [c] = ((j + 1 : Nat) : Int) := by rw [index_cons_ne b c l h, if_neg (fun e => hm (beq_iff_eq.1 e)), hj]; omega
        rw [← ih, Lib.splitK, Lib.splitK, hix, hj]
        have e1 : (((j + 1 : Nat) : Int) == -1) = false := by rw [beq_eq_false_iff_ne]; omega
        have e2 : (((j : Nat) : Int) == -1) = false := by rw [beq_eq_false_iff_ne]; omega
        rw [e1, e2]
        simp
/-- The pieces that strings.Split gives, at a separator of one byte. -/
theorem splitB_on (c : UInt8) (s : ByteArray) : Lib.splitB (bs [c]) 0 (Lib.countB s (bs [c])) s = (splitOn c s.data.toList).map bs := by
  have h := Lib.splitB_data (bs [c]) 0 (Lib.countB s (bs [c])) s
  have hc : Lib.countB s (bs [c]) = Lib.count s.data.toList [c] := by unfold Lib.countB; rw [bs_data]
  rw [hc] at h ⊢
  rw [bs_data, splitK_on] at h
  rw [← h, List.map_map]
  conv => lhs; rw [← List.map_id (Lib.splitB (bs [c]) 0 (Lib.count s.data.toList [c]) s)]
  apply List.map_congr_left
  intro x _
  simp [bs_of]
theorem countB_on (c : UInt8) (s : ByteArray) : Lib.countB s (bs [c]) + 1 = (splitOn c s.data.toList).length := by
  have h := Lib.splitB_all (bs [c]) (by rw [bs_size]; simp) 0 (Lib.countB s (bs [c])) s rfl
  rw [splitB_on, List.length_map] at h
  exact h.symm
end Go.Proofs.YtpfcofjianmeaaaDoor
