/- Plain words on packages that are to be there together, and on changes. No program in sight. -/
import Derived.Test.YtnclibfhbngkjaaGreatDoorBaseLaws
namespace Go.Proofs.YtnclibfhbngkjaaGreatDoor
structure FaultD where
  code : Nat
  name : By
  what : By
def okD : FaultD := ⟨0, [], []⟩
/-- Is a need not met? -/
def needBad (f : BaseF) (x : NeedD) : Bool := match f x.name with
  | none => true
  | some y => !fitsV (verL y.ver) (verL x.ver) x.way
def needsFault (f : BaseF) (n : By) (L : List NeedD) : Option FaultD := L.findSome? fun x => if needBad f x then some ⟨16, n, x.name⟩ else none
def confFault (f : BaseF) (n : By) (L : List By) : Option FaultD := L.findSome? fun c => if (f c).isSome then some ⟨17, n, c⟩ else none
def entFault (f : BaseF) (n : By) : Option FaultD := match needsFault f n ((f n).getD pz).needs with
  | some x => some x
  | none => confFault f n ((f n).getD pz).conf
/-- Whose a file is: the first one. -/
def hasPath (f : BaseF) (p n : By) : Bool := ((f n).getD pz).files.any fun g => decide (g.path = p)
def ownerN (f : BaseF) (ss : List By) (p : By) : By := (ss.find? (hasPath f p)).getD []
/-- Is some file's path one within which another one would stand? -/
def anyIn (f : BaseF) (ss : List By) (p : By) : Bool := ss.any fun n => ((f n).getD pz).files.any fun g => withinL p g.path
def fileBad (f : BaseF) (ss : List By) (n : By) (g : FileD) : Bool := !decide (ownerN f ss g.path = n) || anyIn f ss g.path
def filesFault (f : BaseF) (ss : List By) (n : By) (L : List FileD) : Option FaultD := L.findSome? fun g => if fileBad f ss n g then some ⟨18, n, g.path⟩ else none
def entsFault (f : BaseF) (ss : List By) : Option FaultD := ss.findSome? fun n => entFault f n
def pathsFault (f : BaseF) (ss : List By) : Option FaultD := ss.findSome? fun n => filesFault f ss n ((f n).getD pz).files
def checkD (f : BaseF) (ss : List By) : FaultD :=
  if 24 < ss.length then ⟨7, [], []⟩ else match entsFault f ss with
    | some x => x
    | none => match pathsFault f ss with
      | some x => x
      | none => okD
/-- May they be there together? -/
def CheckOK (f : BaseF) (ss : List By) : Prop := ss.length ≤ 24 ∧ (∀ n ∈ ss, (∀ x ∈ ((f n).getD pz).needs, needBad f x = false) ∧ ∀ c ∈ ((f n).getD pz).conf, (f c).isSome = false) ∧
  ∀ n ∈ ss, ∀ g ∈ ((f n).getD pz).files, ownerN f ss g.path = n ∧ anyIn f ss g.path = false
theorem findSome_code {α : Type} {L : List α} {h : α → Option FaultD} {x : FaultD} (hc : ∀ a y, h a = some y → y.code ≠ 0) (e : L.findSome? h = some x) : x.code ≠ 0 := by
  obtain ⟨a, _, ha⟩ := List.exists_of_findSome?_eq_some e
  exact hc a x ha
theorem needs_code {f : BaseF} {n : By} {L : List NeedD} {x : FaultD} (e : needsFault f n L = some x) : x.code ≠ 0 :=
  findSome_code (fun a y h => by split at h <;> cases h; exact (by decide : (16 : Nat) ≠ 0)) e
theorem conf_code {f : BaseF} {n : By} {L : List By} {x : FaultD} (e : confFault f n L = some x) : x.code ≠ 0 :=
  findSome_code (fun a y h => by split at h <;> cases h; exact (by decide : (17 : Nat) ≠ 0)) e
theorem ent_code {f : BaseF} {n : By} {x : FaultD} (e : entFault f n = some x) : x.code ≠ 0 := by
  unfold entFault at e
  split at e
  · rename_i h; cases e; exact needs_code h
  · exact conf_code e
theorem files_code {f : BaseF} {ss : List By} {n : By} {L : List FileD} {x : FaultD} (e : filesFault f ss n L = some x) : x.code ≠ 0 :=
  findSome_code (fun a y h => by split at h <;> cases h; exact (by decide : (18 : Nat) ≠ 0)) e
theorem check_ok (f : BaseF) (ss : List By) : (checkD f ss).code = 0 ↔ CheckOK f ss := by
  have hn : ∀ n (L : List NeedD), needsFault f n L = none ↔ ∀ x ∈ L, needBad f x = false := by
    intro n L
    unfold needsFault
    rw [List.findSome?_eq_none_iff]
    constructor
    · intro h x hx
      have := h x hx
      cases hb : needBad f x
      · rfl
      · rw [hb] at this; cases this
    · intro h x hx; rw [h x hx]; rfl
  have hcf : ∀ n (L : List By), confFault f n L = none ↔ ∀ c ∈ L, (f c).isSome = false := by
    intro n L
    unfold confFault
    rw [List.findSome?_eq_none_iff]
    constructor
    · intro h x hx
      have := h x hx
      cases hb : (f x).isSome
      · rfl
      · rw [hb] at this; cases this
    · intro h x hx; rw [h x hx]; rfl
  have hf : ∀ n (L : List FileD), filesFault f ss n L = none ↔ ∀ g ∈ L, ownerN f ss g.path = n ∧ anyIn f ss g.path = false := by
    intro n L
    unfold filesFault
    rw [List.findSome?_eq_none_iff]
    constructor
    · intro h x hx
      have := h x hx
      cases hb : fileBad f ss n x
      · unfold fileBad at hb
        simp only [Bool.or_eq_false_iff, Bool.not_eq_false', decide_eq_true_eq] at hb
        exact hb
      · rw [hb] at this; cases this
    · intro h x hx
      have : fileBad f ss n x = false := by unfold fileBad; rw [(h x hx).2, decide_eq_true (h x hx).1]; rfl
      rw [this]; rfl
  have he : ∀ n, entFault f n = none ↔ (∀ x ∈ ((f n).getD pz).needs, needBad f x = false) ∧ ∀ c ∈ ((f n).getD pz).conf, (f c).isSome = false := by
    intro n
    unfold entFault
    rw [← hn n, ← hcf n]
    cases h : needsFault f n ((f n).getD pz).needs <;> simp
  unfold checkD CheckOK
  by_cases h24 : 24 < ss.length
  · rw [if_pos h24]; constructor
    · intro h; cases h
    · intro h; omega
  · rw [if_neg h24]
    cases ha : entsFault f ss with
    | some x =>
      have hx : x.code ≠ 0 := findSome_code (fun a y h => ent_code h) ha
      constructor
      · intro h; exact absurd h hx
      · rintro ⟨_, h2, _⟩
        have : entsFault f ss = none := List.findSome?_eq_none_iff.2 fun n hn' => (he n).2 (h2 n hn')
        rw [ha] at this; cases this
    | none =>
      cases hb : pathsFault f ss with
      | some x =>
        have hx : x.code ≠ 0 := findSome_code (fun a y h => files_code h) hb
        constructor
        · intro h; exact absurd h hx
        · rintro ⟨_, _, h3⟩
          have : pathsFault f ss = none := List.findSome?_eq_none_iff.2 fun n hn' => (hf n _).2 (h3 n hn')
          rw [hb] at this; cases this
      | none =>
        constructor
        · intro _
          exact ⟨by omega, fun n hn' => (he n).1 (List.findSome?_eq_none_iff.1 ha n hn'), fun n hn' => (hf n _).1 (List.findSome?_eq_none_iff.1 hb n hn')⟩
        · intro _; rfl
/-! ### Changes -/
def comeFault (f : BaseF) (seen : List By) (p : PkgD) : Option FaultD :=
  if rightP p = false then some ⟨4, p.name, []⟩ else if p.name ∈ seen then some ⟨9, p.name, []⟩ else match f p.name with
    | none => none
    | some e => if cmpV (verL p.ver) (verL e.ver) ≤ 0 then some ⟨15, p.name, e.ver⟩ else none
def comesFault (f : BaseF) : List By → List PkgD → Option FaultD
  | _, [] => none
  | seen, p :: L => match comeFault f seen p with
    | some x => some x
    | none => comesFault f (seen ++ [p.name]) L
def goFault (f : BaseF) (seen : List By) (n : By) : Option FaultD := if n ∈ seen then some ⟨9, n, []⟩ else if (f n).isSome then none else some ⟨8, n, []⟩
def gosFault (f : BaseF) : List By → List By → Option FaultD
  | _, [] => none
  | seen, n :: L => match goFault f seen n with
    | some x => some x
    | none => gosFault f (seen ++ [n]) L
def outF (f : BaseF) (come : List PkgD) (go : List By) : BaseF := (come.map ofP).foldl withF (go.foldl lessF f)
/-- What is wrong with a change, but for what would be there then. -/
def preFault (f : BaseF) (come : List PkgD) (go : List By) : Option FaultD :=
  if come.length + go.length = 0 then some ⟨1, [], []⟩ else match comesFault f [] come with
    | some x => some x
    | none => gosFault f (come.map PkgD.name) go
end Go.Proofs.YtnclibfhbngkjaaGreatDoor
