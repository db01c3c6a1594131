/- Operations as bytes, in plain Lean. -/
import Derived.Test.YtldgpcmnmegioaaGreatDoorTreeSpec
namespace Go.Proofs.YtldgpcmnmegioaaGreatDoor
/-- An operation's bytes. -/
def opB (o : OpD) : By := numI o.kind ++ (raw4 o.path ++ (raw4 o.dest ++ raw4 o.data))
def packOps (L : List OpD) : By := L.flatMap opB
/-- An operation that is read. -/
def oneOp (s : RSt) : OpD × RSt :=
  (⟨((rNum 6 s).1 : Nat), (rRaw 40 (rNum 6 s).2).1, (rRaw 40 (rRaw 40 (rNum 6 s).2).2).1, (rRaw 3500 (rRaw 40 (rRaw 40 (rNum 6 s).2).2).2).1⟩, (rRaw 3500 (rRaw 40 (rRaw 40 (rNum 6 s).2).2).2).2)
theorem oneOp_takes : Takes oneOp := fun s h => by
  unfold oneOp
  have h1 := rNum_less (most := 6) h
  generalize rNum 6 s = s1 at h1 ⊢
  have h2 := (rRaw_len 40 s1.2).1
  generalize rRaw 40 s1.2 = s2 at h2 ⊢
  have h3 := (rRaw_len 40 s2.2).1
  generalize rRaw 40 s2.2 = s3 at h3 ⊢
  have h4 := (rRaw_len 3500 s3.2).1
  generalize rRaw 3500 s3.2 = s4 at h4 ⊢
  show s4.2.1.length < s.1.length
  omega
theorem oneOp_good (s : RSt) (x : OpD) (l : By) (h : oneOp s = (x, (l, false))) : s.2 = false ∧ s.1 = opB x ++ l := by
  unfold oneOp at h
  simp only [Prod.mk.injEq] at h
  obtain ⟨rfl, h⟩ := h
  generalize hs1 : rNum 6 s = s1 at h
  generalize hs2 : rRaw 40 s1.2 = s2 at h
  generalize hs3 : rRaw 40 s2.2 = s3 at h
  have h4 : rRaw 3500 s3.2 = ((rRaw 3500 s3.2).1, (l, false)) := by rw [← h]
  obtain ⟨g1, g2, _⟩ := rRaw_good h4
  have h3 : rRaw 40 s2.2 = (s3.1, (s3.2.1, false)) := by rw [hs3, ← g1]
  obtain ⟨g3, g4, _⟩ := rRaw_good h3
  have h2 : rRaw 40 s1.2 = (s2.1, (s2.2.1, false)) := by rw [hs2, ← g3]
  obtain ⟨g5, g6, _⟩ := rRaw_good h2
  have h1 : rNum 6 s = (s1.1, (s1.2.1, false)) := by rw [hs1, ← g5]
  obtain ⟨g7, g8, g9, g10⟩ := rNum_good h1
  refine ⟨g7, ?_⟩
  simp only [opB, numI, u32_of g10, List.append_assoc]
  rw [← g2, ← g4, ← g6]
  exact g8
/-- What Unpack makes of bytes. -/
def unpackL (l : By) : List OpD × RSt := rEach oneOp (l, false)
theorem unpack_good {l : By} {L : List OpD} (h : unpackL l = (L, ([], false))) : packOps L = l := by
  have := rEach_good oneOp_takes (fun s x l h => oneOp_good s x l h) l.length (l, false) L [] (Nat.le_refl _) h
  have h2 : l = L.flatMap opB ++ [] := this.2.1
  rw [List.append_nil] at h2
  exact h2.symm
end Go.Proofs.YtldgpcmnmegioaaGreatDoor
