/- Plain words on versions: their numbers and their revision, which one is newer. No program in sight. -/
import Derived.Test.YtlpjmkkinlcbnaaGreatDoorNumSpec
import Derived.Lib.IndexMore
namespace Go.Proofs.YtlpjmkkinlcbnaaGreatDoor
/-- The number that a text of a version's number tells. -/
def numV (l : List UInt8) : Option Nat := (canon l).bind fun n => if n ≤ 9999 then some n else none
theorem numV_some {l : List UInt8} {n : Nat} (h : numV l = some n) : canon l = some n ∧ n ≤ 9999 := by
  unfold numV at h
  cases hc : canon l with
  | none => rw [hc] at h; cases h
  | some m =>
    rw [hc] at h
    simp only [Option.bind_some] at h
    split at h
    · have h := Option.some.inj h
      subst h
      exact ⟨rfl, by assumption⟩
    · cases h
theorem numV_of {l : List UInt8} {n : Nat} (h : canon l = some n) (hn : n ≤ 9999) : numV l = some n := by simp [numV, h, hn]
theorem numV_inj {a b : List UInt8} {n : Nat} (ha : numV a = some n) (hb : numV b = some n) : a = b := by
  rw [← (canon_iff a n).1 (numV_some ha).1, ← (canon_iff b n).1 (numV_some hb).1]
theorem numV_nil : numV [] = none := rfl

theorem index_miss {c : UInt8} {l : List UInt8} (h : c ∉ l) : Lib.index l [c] = -1 := by
  induction l with
  | nil => rfl
  | cons x r ih =>
    have h1 : x ≠ c := fun e => h (by simp [e])
    have h2 : c ∉ r := fun e => h (by simp [e])
    rw [index_cons_ne x c r h1, ih h2]; rfl
theorem index_hit {c : UInt8} {a : List UInt8} (r : List UInt8) (h : c ∉ a) : Lib.index (a ++ c :: r) [c] = a.length := by
  induction a with
  | nil => exact index_cons_eq c r
  | cons x a ih =>
    have h1 : x ≠ c := fun e => h (by simp [e])
    have h2 : c ∉ a := fun e => h (by simp [e])
    have e : ((a.length : Int) == -1) = false := by rw [beq_eq_false_iff_ne]; omega
    rw [List.cons_append, index_cons_ne x c _ h1, ih h2, e]; simp
theorem cut_none {c : UInt8} {l : List UInt8} (h : c ∉ l) : Lib.cut l [c] = (l, [], false) := by
  unfold Lib.cut; rw [index_miss h]; rfl
theorem cut_some {c : UInt8} {a : List UInt8} (r : List UInt8) (h : c ∉ a) : Lib.cut (a ++ c :: r) [c] = (a, r, true) := by
  unfold Lib.cut; rw [index_hit r h, if_pos (by omega)]
  have e : ((a.length : Int)).toNat = a.length := by omega
  rw [e]
  simp
theorem split_mem {c : UInt8} {l : List UInt8} (h : c ∈ l) : ∃ a r, l = a ++ c :: r ∧ c ∉ a := by
  induction l with
  | nil => cases h
  | cons x l ih =>
    by_cases hx : x = c
    · exact ⟨[], l, by simp [hx], by simp⟩
    · have h : c ∈ l := by
        rcases List.mem_cons.1 h with h | h
        · exact absurd h.symm hx
        · exact h
      obtain ⟨a, r, rfl, ha⟩ := ih h
      exact ⟨x :: a, r, rfl, by simp [ha]; exact fun e => hx e.symm⟩

/-- The numbers of these texts. -/
def numsV : List (List UInt8) → Option (List Nat)
  | [] => some []
  | p :: r => match numV p, numsV r with
    | some n, some m => some (n :: m)
    | _, _ => none
theorem numsV_cons {p : List UInt8} {r : List (List UInt8)} {n : Nat} {m : List Nat} (h : numV p = some n) (k : numsV r = some m) : numsV (p :: r) = some (n :: m) := by simp [numsV, h, k]
theorem numsV_snoc {L : List (List UInt8)} {X : List Nat} {p : List UInt8} {n : Nat} (h : numsV L = some X) (k : numV p = some n) : numsV (L ++ [p]) = some (X ++ [n]) := by
  induction L generalizing X with
  | nil =>
    have h := Option.some.inj h
    subst h
    exact numsV_cons k rfl
  | cons q L ih =>
    unfold numsV at h
    cases hq : numV q with
    | none => rw [hq] at h; cases h
    | some a =>
      cases hL : numsV L with
      | none => rw [hq, hL] at h; cases h
      | some Y =>
        rw [hq, hL] at h
        have h := Option.some.inj h
        subst h
        exact numsV_cons hq (ih hL)
theorem numsV_bad {L : List (List UInt8)} {p : List UInt8} (hp : p ∈ L) (k : numV p = none) : numsV L = none := by
  induction L with
  | nil => cases hp
  | cons q L ih =>
    unfold numsV
    rcases List.mem_cons.1 hp with rfl | hp
    · rw [k]
    · rw [ih hp]; cases numV q <;> rfl
theorem numsV_len {L : List (List UInt8)} {X : List Nat} (h : numsV L = some X) : X.length = L.length := by
  induction L generalizing X with
  | nil => have h := Option.some.inj h; subst h; rfl
  | cons q L ih =>
    unfold numsV at h
    cases hq : numV q with
    | none => rw [hq] at h; cases h
    | some a =>
      cases hL : numsV L with
      | none => rw [hq, hL] at h; cases h
      | some Y =>
        rw [hq, hL] at h
        have h := Option.some.inj h
        subst h
        simp [ih hL]
theorem numsV_inj {A B : List (List UInt8)} {X : List Nat} (ha : numsV A = some X) (hb : numsV B = some X) : A = B := by
  induction A generalizing B X with
  | nil =>
    have ha := Option.some.inj ha; subst ha
    have := numsV_len hb
    exact (List.eq_nil_of_length_eq_zero this.symm).symm
  | cons p A ih =>
    cases B with
    | nil =>
      have hb := Option.some.inj hb; subst hb
      exact absurd (numsV_len ha) (by simp)
    | cons q B =>
      unfold numsV at ha hb
      cases hp : numV p with
      | none => rw [hp] at ha; cases ha
      | some a =>
        cases hq : numV q with
        | none => rw [hq] at hb; cases hb
        | some b =>
          cases hA : numsV A with
          | none => rw [hp, hA] at ha; cases ha
          | some U =>
            cases hB : numsV B with
            | none => rw [hq, hB] at hb; cases hb
            | some V =>
              rw [hp, hA] at ha
              rw [hq, hB] at hb
              have ha := Option.some.inj ha
              have hb := Option.some.inj hb
              rw [← hb] at ha
              have e1 := (List.cons.inj ha).1
              have e2 := (List.cons.inj ha).2
              subst e1 e2
              rw [numV_inj hp hq, ih hA hB]

/-- The revision behind the first sign 45. -/
def revV (more : Bool) (t : List UInt8) : Option Nat :=
  if more then (numV t).bind fun n => if 1 ≤ n then some n else none else some 0
theorem revV_no (t : List UInt8) : revV false t = some 0 := rfl
theorem revV_bad {t : List UInt8} (h : numV t = none) : revV true t = none := by simp [revV, h]
theorem revV_zero {t : List UInt8} (h : numV t = some 0) : revV true t = none := by simp [revV, h]
theorem revV_ok {t : List UInt8} {n : Nat} (h : numV t = some n) (hn : 1 ≤ n) : revV true t = some n := by
  have : ¬ n = 0 := by omega
  simp [revV, h]; omega
/-- A version's numbers, and its revision. -/
def verL (l : List UInt8) : Option (List Nat × Nat) :=
  match revV (Lib.cut l [45]).2.2 (Lib.cut l [45]).2.1, numsV (splitOn 46 (Lib.cut l [45]).1) with
  | some r, some X => if X.length ≤ 4 then some (X, r) else none
  | _, _ => none
theorem verL_rev {l h t : List UInt8} {m : Bool} (hc : Lib.cut l [45] = (h, t, m)) (hr : revV m t = none) : verL l = none := by simp [verL, hc, hr]
theorem verL_nums {l h t : List UInt8} {m : Bool} (hc : Lib.cut l [45] = (h, t, m)) (hr : numsV (splitOn 46 h) = none) : verL l = none := by
  simp only [verL, hc, hr]
  split
  · rename_i h; cases h
  · rfl
theorem verL_many {l h t : List UInt8} {m : Bool} {X : List Nat} (hc : Lib.cut l [45] = (h, t, m)) (hr : numsV (splitOn 46 h) = some X) (hX : 4 < X.length) : verL l = none := by
  simp only [verL, hc, hr]
  split
  · rw [if_neg]
    rename_i h1
    have h1 := Option.some.inj h1
    subst h1; omega
  · rfl
theorem verL_good {l h t : List UInt8} {m : Bool} {X : List Nat} {r : Nat} (hc : Lib.cut l [45] = (h, t, m)) (hr : revV m t = some r) (hn : numsV (splitOn 46 h) = some X) (hX : X.length ≤ 4) : verL l = some (X, r) := by
  simp [verL, hc, hr, hn, hX]

theorem split_inj {c : UInt8} {a b : List UInt8} (h : splitOn c a = splitOn c b) : a = b := by
  have := congrArg (glue c) h
  rw [glue_splitOn, glue_splitOn] at this
  exact (List.cons.inj this).2
theorem verL_inj {a b : List UInt8} {v : List Nat × Nat} (ha : verL a = some v) (hb : verL b = some v) : a = b := by
  have key : ∀ {l : List UInt8}, verL l = some v → ∃ h t m, Lib.cut l [45] = (h, t, m) ∧ revV m t = some v.2 ∧ numsV (splitOn 46 h) = some v.1 := by
    intro l hl
    refine ⟨(Lib.cut l [45]).1, (Lib.cut l [45]).2.1, (Lib.cut l [45]).2.2, rfl, ?_⟩
    unfold verL at hl
    split at hl
    · rename_i r X h1 h2
      split at hl
      · have hl := Option.some.inj hl
        subst hl
        exact ⟨h1, h2⟩
      · cases hl
    · cases hl
  have rev : ∀ {m t r}, revV m t = some r → m = true ∧ 1 ≤ r ∧ numV t = some r ∨ m = false ∧ r = 0 := by
    intro m t r h
    cases m with
    | false => exact Or.inr ⟨rfl, (Option.some.inj h).symm⟩
    | true =>
      simp only [revV, if_true] at h
      cases hn : numV t with
      | none => rw [hn] at h; cases h
      | some n =>
        rw [hn] at h
        simp only [Option.bind_some] at h
        split at h
        · have h := Option.some.inj h
          subst h
          exact Or.inl ⟨rfl, by assumption, rfl⟩
        · cases h
  obtain ⟨h1, t1, m1, c1, r1, n1⟩ := key ha
  obtain ⟨h2, t2, m2, c2, r2, n2⟩ := key hb
  have eh : h1 = h2 := split_inj (numsV_inj n1 n2)
  have sh : ∀ {l h t m}, Lib.cut l [45] = (h, t, m) → l = if m = true then h ++ 45 :: t else h := by
    intro l h t m hc
    by_cases hm : 45 ∈ l
    · obtain ⟨x, y, rfl, hx⟩ := split_mem hm
      rw [cut_some y hx] at hc
      simp only [Prod.mk.injEq] at hc
      obtain ⟨rfl, rfl, rfl⟩ := hc
      simp
    · rw [cut_none hm] at hc
      simp only [Prod.mk.injEq] at hc
      obtain ⟨rfl, rfl, rfl⟩ := hc
      simp
  rw [sh c1, sh c2, eh]
  rcases rev r1 with ⟨rfl, p1, q1⟩ | ⟨rfl, p1⟩ <;> rcases rev r2 with ⟨rfl, p2, q2⟩ | ⟨rfl, p2⟩
  · rw [numV_inj q1 q2]
  · omega
  · omega
  · rfl

/-- Which one of two lists of numbers is the greater one. -/
def cmpN (a b : Nat) : Int := if a < b then -1 else if b < a then 1 else 0
def cmpL : List Nat → List Nat → Int
  | [], [] => 0
  | [], _ :: _ => -1
  | _ :: _, [] => 1
  | a :: x, b :: y => if a < b then -1 else if b < a then 1 else cmpL x y
def cmpP (v u : List Nat × Nat) : Int := if cmpL v.1 u.1 = 0 then cmpN v.2 u.2 else cmpL v.1 u.1
def cmpV : Option (List Nat × Nat) → Option (List Nat × Nat) → Int
  | some v, some u => cmpP v u
  | some _, none => 1
  | none, some _ => -1
  | none, none => 0
theorem cmpN_neg (a b : Nat) : cmpN a b = - cmpN b a := by unfold cmpN; repeat' split
                                                           all_goals omega
theorem cmpL_neg : ∀ (x y : List Nat), cmpL x y = - cmpL y x
  | [], [] => rfl
  | [], _ :: _ => rfl
  | _ :: _, [] => rfl
  | a :: x, b :: y => by
    have := cmpL_neg x y
    unfold cmpL
    repeat' split
    all_goals omega
theorem cmpV_neg (a b : Option (List Nat × Nat)) : cmpV a b = - cmpV b a := by
  cases a <;> cases b <;> try rfl
  rename_i v u
  show cmpP v u = - cmpP u v
  unfold cmpP
  have h1 := cmpL_neg v.1 u.1
  have h2 := cmpN_neg v.2 u.2
  repeat' split
  all_goals omega
theorem cmpL_eq : ∀ (x y : List Nat), cmpL x y = 0 ↔ x = y
  | [], [] => by simp [cmpL]
  | [], _ :: _ => by simp [cmpL]
  | _ :: _, [] => by simp [cmpL]
  | a :: x, b :: y => by
    have := cmpL_eq x y
    unfold cmpL
    rw [List.cons.injEq]
    repeat' split
    · constructor
      · intro h; omega
      · rintro ⟨h, _⟩; omega
    · constructor
      · intro h; omega
      · rintro ⟨h, _⟩; omega
    · rw [this]
      constructor
      · intro h; exact ⟨by omega, h⟩
      · exact fun h => h.2
theorem cmpN_eq (a b : Nat) : cmpN a b = 0 ↔ a = b := by
  unfold cmpN
  repeat' split
  all_goals omega
theorem cmpP_eq (v u : List Nat × Nat) : cmpP v u = 0 ↔ v = u := by
  have h1 := cmpL_eq v.1 u.1
  have h2 := cmpN_eq v.2 u.2
  unfold cmpP
  split
  · rename_i h
    rw [h2]
    constructor
    · intro k; exact Prod.ext (h1.1 h) k
    · intro k; rw [k]
  · rename_i h
    constructor
    · intro k; exact absurd k h
    · intro k; subst k; exact absurd (h1.2 rfl) h
theorem cmpN_trans {a b c : Nat} (h : 0 ≤ cmpN a b) (k : 0 ≤ cmpN b c) : 0 ≤ cmpN a c ∧ (cmpN a c = 0 → cmpN a b = 0 ∧ cmpN b c = 0) := by
  unfold cmpN at *
  repeat' split at h
  all_goals repeat' split at k
  all_goals repeat' split
  all_goals omega
theorem cmpL_trans : ∀ {x y z : List Nat}, 0 ≤ cmpL x y → 0 ≤ cmpL y z → 0 ≤ cmpL x z ∧ (cmpL x z = 0 → cmpL x y = 0 ∧ cmpL y z = 0)
  | [], [], _ => fun _ k => ⟨k, fun h => ⟨rfl, h⟩⟩
  | [], _ :: _, _ => fun h _ => by simp [cmpL] at h
  | _ :: _, [], [] => fun _ _ => by simp [cmpL]
  | _ :: _, [], _ :: _ => fun _ k => by simp [cmpL] at k
  | _ :: _, _ :: _, [] => fun _ _ => by simp [cmpL]
  | a :: x, b :: y, c :: z => fun h k => by
    have ih : 0 ≤ cmpL x y → 0 ≤ cmpL y z → 0 ≤ cmpL x z ∧ (cmpL x z = 0 → cmpL x y = 0 ∧ cmpL y z = 0) := fun h k => cmpL_trans h k
    have e1 : cmpL (a :: x) (b :: y) = if a < b then -1 else if b < a then 1 else cmpL x y := rfl
    have e2 : cmpL (b :: y) (c :: z) = if b < c then -1 else if c < b then 1 else cmpL y z := rfl
    have e3 : cmpL (a :: x) (c :: z) = if a < c then -1 else if c < a then 1 else cmpL x z := rfl
    rw [e1] at h
    rw [e2] at k
    rw [e1, e2, e3]
    generalize cmpL x y = p at *
    generalize cmpL y z = q at *
    generalize cmpL x z = r at *
    repeat' split at h
    all_goals repeat' split at k
    all_goals repeat' split
    all_goals omega
theorem cmpP_trans {u v w : List Nat × Nat} (h : 0 ≤ cmpP u v) (k : 0 ≤ cmpP v w) : 0 ≤ cmpP u w := by
  have t1 := @cmpL_trans u.1 v.1 w.1
  have t2 := @cmpN_trans u.2 v.2 w.2
  unfold cmpP at *
  split at h <;> split at k <;> rename_i a b
  · have := t1 (by omega) (by omega)
    have := t2 h k
    split <;> omega
  · have := t1 (by omega) (by omega)
    split
    · rename_i e; have := this.2 e; omega
    · omega
  · have := t1 (by omega) (by omega)
    split
    · rename_i e; have := this.2 e; omega
    · omega
  · have := t1 (by omega) (by omega)
    split
    · rename_i e; have := this.2 e; omega
    · omega
theorem cmpV_trans {a b c : Option (List Nat × Nat)} (h : 0 ≤ cmpV a b) (k : 0 ≤ cmpV b c) : 0 ≤ cmpV a c := by
  cases a <;> cases b <;> cases c <;> simp only [cmpV] at * <;> first | omega | exact cmpP_trans h k
theorem cmpV_same {a b : List UInt8} {v : List Nat × Nat} (ha : verL a = some v) : cmpV (verL a) (verL b) = 0 ↔ a = b := by
  rw [ha]
  cases hb : verL b with
  | none =>
    constructor
    · intro h; simp [cmpV] at h
    · intro h; subst h; rw [ha] at hb; cases hb
  | some u =>
    show cmpP v u = 0 ↔ _
    rw [cmpP_eq]
    constructor
    · intro h; subst h; exact verL_inj ha hb
    · intro h; subst h; rw [ha] at hb; exact Option.some.inj hb
/-- Is a version as it is asked for? -/
def fitsV (v than : Option (List Nat × Nat)) (way : Int) : Bool :=
  v.isSome && (decide (way = 0) || decide (way = 1) && decide (0 ≤ cmpV v than) || decide (way = 2) && decide (cmpV v than = 0) || decide (way = 3) && decide (cmpV v than < 0))
end Go.Proofs.YtlpjmkkinlcbnaaGreatDoor
