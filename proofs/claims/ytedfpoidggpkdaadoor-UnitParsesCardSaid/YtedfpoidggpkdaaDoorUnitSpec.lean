/- Plain words on units: what their texts say, and which texts say them. -/
import Derived.Test.YtedfpoidggpkdaaDoorVerSpec
import Derived.Test.YtedfpoidggpkdaaDoorPathMore
namespace Go.Proofs.YtedfpoidggpkdaaDoor
abbrev Bs := List UInt8
/-- A unit: its name, its files and names behind five words, how often its start is tried again. -/
structure UnitD where
  name : Bs
  files : List Bs
  after : List Bs
  before : List Bs
  reqs : List Bs
  wants : List Bs
  partof : List Bs
  retry : Int
def UnitD.row (u : UnitD) : Nat → List Bs
  | 1 => u.files
  | 2 => u.after
  | 3 => u.before
  | 4 => u.reqs
  | 5 => u.wants
  | _ => u.partof
def UnitD.put (u : UnitD) (f : Nat) (x : List Bs) : UnitD :=
  match f with
  | 1 => { u with files := x }
  | 2 => { u with after := x }
  | 3 => { u with before := x }
  | 4 => { u with reqs := x }
  | 5 => { u with wants := x }
  | _ => { u with partof := x }
def u0 : UnitD := ⟨[], [], [], [], [], [], [], -1⟩
def uz : UnitD := ⟨[], [], [], [], [], [], [], 0⟩
def wUnit : Bs := [117, 110, 105, 116]
def wFile : Bs := [102, 105, 108, 101]
def wRetry : Bs := [114, 101, 116, 114, 121]
def wAfter : Bs := [97, 102, 116, 101, 114]
def wBefore : Bs := [98, 101, 102, 111, 114, 101]
def wReq : Bs := [114, 101, 113, 117, 105, 114, 101, 115]
def wWants : Bs := [119, 97, 110, 116, 115]
def wPart : Bs := [112, 97, 114, 116, 111, 102]
/-- The list that a word names. -/
def wordN (w : Bs) : Nat := if w = wAfter then 2 else if w = wBefore then 3 else if w = wReq then 4 else if w = wWants then 5 else if w = wPart then 6 else 0
/-- The word of a list. -/
def wordOf : Nat → Bs
  | 1 => wFile
  | 2 => wAfter
  | 3 => wBefore
  | 4 => wReq
  | 5 => wWants
  | _ => wPart
/-- The number of times that a text says. -/
def digN (l : Bs) : Option Nat := match l with
  | [b] => if 48 ≤ b.toNat ∧ b.toNat ≤ 51 then some (b.toNat - 48) else none
  | _ => none
def addU (u : UnitD) (f : Nat) (s : Bs) : UnitD × Nat :=
  if s ∈ u.row f then (u, 9) else if (u.row f).length = 8 then (u, 22) else (u.put f (u.row f ++ [s]), 0)
/-- A unit behind a line. -/
def lineU (u : UnitD) (w r : Bs) : UnitD × Nat :=
  if w = wUnit then (if nameL r = false then (u, 14) else if u.name ≠ [] then (u, 9) else ({ u with name := r }, 0))
  else if w = wFile then (if rightL r = false then (u, 14) else addU u 1 r)
  else if w = wRetry then (match digN r with
    | none => (u, 2)
    | some n => if 0 ≤ u.retry then (u, 9) else ({ u with retry := (n : Int) }, 0))
  else if wordN w = 0 then (u, 4) else if nameL r = false then (u, 14) else addU u (wordN w) r
/-- A line's word, and what stands behind it. -/
def cutW (l : Bs) : Bs × Bs := ((Lib.cut l [32]).1, (Lib.cut l [32]).2.1)
def idle (l : Bs) : Bool := decide (l = [] ∨ l.head? = some 35)
/-- Behind all lines: the unit, or an error's number and the line's. -/
def linesU : List Bs → Nat → UnitD → UnitD ⊕ (Nat × Nat)
  | [], _, u => .inl u
  | l :: r, i, u => if idle l then linesU r (i + 1) u else
    if (lineU u (cutW l).1 (cutW l).2).2 = 0 then linesU r (i + 1) (lineU u (cutW l).1 (cutW l).2).1 else .inr ((lineU u (cutW l).1 (cutW l).2).2, i + 1)
/-- What is said at last. -/
def endU : UnitD ⊕ (Nat × Nat) → UnitD × Nat × Nat
  | .inr (e, i) => (uz, e, i)
  | .inl u => if u.name = [] ∨ u.files = [] then (uz, 8, 0) else if u.retry < 0 then ({ u with retry := 0 }, 0, 0) else (u, 0, 0)
def parseU (s : Bs) : UnitD × Nat × Nat := endU (linesU (splitOn 10 s) 0 u0)
/-- A unit's text. -/
def lineT (w s : Bs) : Bs := w ++ 32 :: (s ++ [10])
def linesT (u : UnitD) : List (Bs × Bs) := (wUnit, u.name) :: ((u.files.map fun s => (wFile, s)) ++ ((u.after.map fun s => (wAfter, s)) ++ ((u.before.map fun s => (wBefore, s)) ++ ((u.reqs.map fun s => (wReq, s)) ++ ((u.wants.map fun s => (wWants, s)) ++ ((u.partof.map fun s => (wPart, s)) ++ [(wRetry, Lib.itoa u.retry)]))))))
def textU (u : UnitD) : Bs := (linesT u).flatMap fun p => lineT p.1 p.2

/-! ### What lines make of a unit -/
/-- A unit that may be, but for what is still to be said of it. -/
def rowR (f : Nat) (L : List Bs) : Prop := L.length ≤ 8 ∧ L.Nodup ∧ ∀ s ∈ L, if f = 1 then rightL s = true else nameL s = true
structure PartU (u : UnitD) : Prop where
  name : u.name = [] ∨ nameL u.name = true
  rows : ∀ f, 1 ≤ f → f ≤ 6 → rowR f (u.row f)
  retry : -1 ≤ u.retry ∧ u.retry ≤ 3
structure GoodU (u : UnitD) : Prop where
  name : nameL u.name = true
  files : u.files ≠ []
  rows : ∀ f, 1 ≤ f → f ≤ 6 → rowR f (u.row f)
  retry : 0 ≤ u.retry ∧ u.retry ≤ 3
theorem partU_0 : PartU u0 := by
  refine ⟨Or.inl rfl, ?_, by decide⟩
  intro f h1 h6
  have : u0.row f = [] := by
    unfold UnitD.row u0
    split <;> rfl
  rw [this]
  exact ⟨by simp, by simp, fun s hs => by simp at hs⟩
theorem row_put (u : UnitD) (f g : Nat) (x : List Bs) (h1 : 1 ≤ f) (h6 : f ≤ 6) (k1 : 1 ≤ g) (k6 : g ≤ 6) : (u.put f x).row g = if g = f then x else u.row g := by
  have hf : f = 1 ∨ f = 2 ∨ f = 3 ∨ f = 4 ∨ f = 5 ∨ f = 6 := by omega
  have hg : g = 1 ∨ g = 2 ∨ g = 3 ∨ g = 4 ∨ g = 5 ∨ g = 6 := by omega
  rcases hf with rfl | rfl | rfl | rfl | rfl | rfl <;> rcases hg with rfl | rfl | rfl | rfl | rfl | rfl <;> rfl
theorem put_name (u : UnitD) (f : Nat) (x : List Bs) : (u.put f x).name = u.name ∧ (u.put f x).retry = u.retry := by
  unfold UnitD.put; split <;> exact ⟨rfl, rfl⟩
theorem addU_part {u v : UnitD} {f : Nat} {s : Bs} (h : PartU u) (h1 : 1 ≤ f) (h6 : f ≤ 6) (hs : if f = 1 then rightL s = true else nameL s = true) (ha : addU u f s = (v, 0)) : PartU v := by
  unfold addU at ha
  split at ha
  · simp at ha
  · rename_i hm
    split at ha
    · simp at ha
    · rename_i hl
      simp only [Prod.mk.injEq, and_true] at ha
      subst ha
      refine ⟨by rw [(put_name u f _).1]; exact h.name, ?_, by rw [(put_name u f _).2]; exact h.retry⟩
      intro g k1 k6
      rw [row_put u f g _ h1 h6 k1 k6]
      split
      · rename_i e
        subst e
        obtain ⟨a, b, c⟩ := h.rows g k1 k6
        refine ⟨by simp; omega, ?_, ?_⟩
        · rw [List.nodup_append]
          refine ⟨b, by simp, ?_⟩
          intro x hx y hy
          simp at hy
          subst hy
          intro e
          subst e
          exact hm hx
        · intro t ht
          rcases List.mem_append.1 ht with ht | ht
          · exact c t ht
          · simp at ht; subst ht; exact hs
      · exact h.rows g k1 k6
theorem wordN_le (w : Bs) : wordN w ≤ 6 := by unfold wordN; repeat' split
                                              all_goals omega
theorem wordN_ne1 (w : Bs) : wordN w ≠ 1 := by unfold wordN; repeat' split
                                               all_goals omega
theorem digN_le {l : Bs} {n : Nat} (h : digN l = some n) : n ≤ 3 ∧ l = [UInt8.ofNat (48 + n)] := by
  unfold digN at h
  split at h
  · rename_i b
    split at h
    · rename_i hb
      have h := Option.some.inj h
      subst h
      refine ⟨by omega, ?_⟩
      have := digit_byte (b := b) ⟨by omega, by omega⟩
      rw [this]
    · cases h
  · cases h
theorem lineU_part {u v : UnitD} {w r : Bs} (h : PartU u) (hl : lineU u w r = (v, 0)) : PartU v := by
  unfold lineU at hl
  split at hl
  · split at hl
    · simp at hl
    · rename_i hn
      split at hl
      · simp at hl
      · simp only [Prod.mk.injEq, and_true] at hl
        subst hl
        refine ⟨Or.inr (by simpa using hn), ?_, h.retry⟩
        intro f h1 h6
        have := h.rows f h1 h6
        have e : UnitD.row { u with name := r } f = u.row f := by unfold UnitD.row; split <;> rfl
        rw [e]; exact this
  · split at hl
    · split at hl
      · simp at hl
      · rename_i hn
        exact addU_part h (Nat.le_refl _) (by omega) (by simpa using hn) hl
    · split at hl
      · split at hl
        · simp at hl
        · rename_i n hd
          split at hl
          · simp at hl
          · simp only [Prod.mk.injEq, and_true] at hl
            subst hl
            have := (digN_le hd).1
            refine ⟨h.name, ?_, by simp only; omega⟩
            intro f h1 h6
            have := h.rows f h1 h6
            have e : UnitD.row { u with retry := (n : Int) } f = u.row f := by unfold UnitD.row; split <;> rfl
            rw [e]; exact this
      · split at hl
        · simp at hl
        · rename_i h0
          split at hl
          · simp at hl
          · rename_i hn
            refine addU_part h (by omega) (wordN_le w) ?_ hl
            rw [if_neg (wordN_ne1 w)]
            simpa using hn
theorem linesU_part : ∀ (L : List Bs) (i : Nat) (u v : UnitD), PartU u → linesU L i u = .inl v → PartU v
  | [], _, u, v, h, hl => by simp only [linesU, Sum.inl.injEq] at hl; rw [← hl]; exact h
  | l :: L, i, u, v, h, hl => by
    unfold linesU at hl
    split at hl
    · exact linesU_part L _ u v h hl
    · split at hl
      · rename_i he
        exact linesU_part L _ _ v (lineU_part h (Prod.ext rfl he)) hl
      · cases hl
/-- What is parsed may be. -/
theorem parseU_good {s : Bs} {u : UnitD} {i : Nat} (h : parseU s = (u, 0, i)) : GoodU u := by
  unfold parseU at h
  cases hl : linesU (splitOn 10 s) 0 u0 with
  | inr p =>
    obtain ⟨e, j⟩ := p
    rw [hl] at h
    simp only [endU, Prod.mk.injEq] at h
    have : ∀ (L : List Bs) (i : Nat) (u : UnitD) (e j : Nat), linesU L i u = .inr (e, j) → e ≠ 0 := by
      intro L
      induction L with
      | nil => intro i u e j hh; cases hh
      | cons l L ih =>
        intro i u e j hh
        unfold linesU at hh
        split at hh
        · exact ih _ _ _ _ hh
        · split at hh
          · exact ih _ _ _ _ hh
          · rename_i hne
            simp only [Sum.inr.injEq, Prod.mk.injEq] at hh
            rw [← hh.1]; exact hne
    exact absurd h.2.1 (this _ _ _ _ _ hl)
  | inl v =>
    have hp := linesU_part _ _ _ _ partU_0 hl
    rw [hl] at h
    unfold endU at h
    simp only at h
    split at h
    · simp at h
    · rename_i hne
      have hne := not_or.1 hne
      have hnm : nameL v.name = true := hp.name.resolve_left hne.1
      split at h
      · rename_i hr
        simp only [Prod.mk.injEq] at h
        obtain ⟨rfl, _⟩ := h
        refine ⟨hnm, hne.2, ?_, by simp⟩
        intro f h1 h6
        have := hp.rows f h1 h6
        have e : UnitD.row { v with retry := 0 } f = v.row f := by unfold UnitD.row; split <;> rfl
        rw [e]; exact this
      · rename_i hr
        simp only [Prod.mk.injEq] at h
        obtain ⟨rfl, _⟩ := h
        exact ⟨hnm, hne.2, hp.rows, ⟨by omega, hp.retry.2⟩⟩
end Go.Proofs.YtedfpoidggpkdaaDoor
