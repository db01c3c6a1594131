/- Plain words on upgrades: which may be, how they are packed and unpacked. -/
import Derived.Test.YtedfpoidggpkdaaDoorEachSpec
import Derived.Test.YtedfpoidggpkdaaDoorPathMore
namespace Go.Proofs.YtedfpoidggpkdaaDoor
structure TxnD where
  phase : Int
  done : Int
  moves : List (Int × List UInt8)
  come : List (List UInt8)
  gone : List (List UInt8)
def moveB (m : Int × List UInt8) : List UInt8 := numI m.1 ++ raw4 m.2
def packT (t : TxnD) : List UInt8 := [numI t.phase, numI t.done, raw4 (t.moves.flatMap moveB), raw4 (t.come.flatMap raw4), raw4 (t.gone.flatMap raw4)].flatten
def moveR (m : Int × List UInt8) : Bool := decide (0 ≤ m.1 ∧ m.1 ≤ 2) && rightL m.2
def headR (t : TxnD) : Bool := decide (0 ≤ t.phase ∧ t.phase ≤ 4 ∧ 0 ≤ t.done ∧ t.done ≤ t.moves.length ∧ t.moves.length ≤ 40 ∧ t.come.length + t.gone.length ≤ 24)
def rightT (t : TxnD) : Bool := headR t && (t.moves.all moveR && (t.come.all nameL && t.gone.all nameL))
def oneMove (s : RSt) : (Int × List UInt8) × RSt := (((rNum 2 s).1, (rRaw 40 (rNum 2 s).2).1), (rRaw 40 (rNum 2 s).2).2)
theorem oneMove_takes : Takes oneMove := fun s h => Nat.lt_of_le_of_lt (rRaw_len 40 (rNum 2 s).2).1 (rNum_less h)
theorem oneMove_good (s : RSt) (x : Int × List UInt8) (l : List UInt8) (h : oneMove s = (x, (l, false))) : s.2 = false ∧ s.1 = moveB x ++ l := by
  unfold oneMove at h
  simp only [Prod.mk.injEq] at h
  obtain ⟨rfl, h⟩ := h
  have h2 : rRaw 40 (rNum 2 s).2 = ((rRaw 40 (rNum 2 s).2).1, (l, false)) := by rw [← h]
  obtain ⟨g1, g2, _⟩ := rRaw_good h2
  have h3 : rNum 2 s = ((rNum 2 s).1, ((rNum 2 s).2.1, false)) := by rw [← g1]
  obtain ⟨g3, g4, g5, g6⟩ := rNum_good h3
  refine ⟨g3, ?_⟩
  simp only [moveB, numI, u32_of g6, List.append_assoc]
  rw [← g2]; exact g4
/-- The readers, one behind the other. -/
structure UnT where
  t : TxnD
  ok : Bool
def unT (b : List UInt8) : UnT :=
  let s1 := rNum 4 (b, false)
  let s2 := rNum 40 s1.2
  let m := rList s2.2
  let c := rList m.2
  let g := rList c.2
  let M := rEach oneMove m.1
  let C := rEach (oneText 12) c.1
  let G := rEach (oneText 12) g.1
  ⟨⟨s1.1, s2.1, M.1, C.1, G.1⟩, rDone g.2 && (rDone M.2 && (rDone C.2 && rDone G.2))⟩
def unpackT (b : List UInt8) : Option TxnD := if (unT b).ok && rightT (unT b).t then some (unT b).t else none
theorem unT_good {b : List UInt8} {s1 s2 : Nat × RSt} {m c g : RSt × RSt} {M : List (Int × List UInt8) × RSt} {C G : List (List UInt8) × RSt} (h1 : rNum 4 (b, false) = s1) (h2 : rNum 40 s1.2 = s2) (h3 : rList s2.2 = m) (h4 : rList m.2 = c) (h5 : rList c.2 = g)
    (h6 : rEach oneMove m.1 = M) (h7 : rEach (oneText 12) c.1 = C) (h8 : rEach (oneText 12) g.1 = G) (k1 : rDone g.2 = true) (k2 : rDone M.2 = true) (k3 : rDone C.2 = true) (k4 : rDone G.2 = true) : packT ⟨s1.1, s2.1, M.1, C.1, G.1⟩ = b := by
  have k1 := rDone_of k1
  have k2 := rDone_of k2
  have k3 := rDone_of k3
  have k4 := rDone_of k4
  have a6 := rEach_good oneMove_takes oneMove_good _ m.1 M.1 [] (Nat.le_refl _) (by rw [h6, ← k2])
  have a7 := rEach_good (oneText_takes 12) (fun _ _ _ => oneText_good) _ c.1 C.1 [] (Nat.le_refl _) (by rw [h7, ← k3])
  have a8 := rEach_good (oneText_takes 12) (fun _ _ _ => oneText_good) _ g.1 G.1 [] (Nat.le_refl _) (by rw [h8, ← k4])
  have b8 := rList_good (s := c.2) (a := g.1) (b := g.2) h5 a8.1
  have b7 := rList_good (s := m.2) (a := c.1) (b := c.2) h4 a7.1
  have b6 := rList_good (s := s2.2) (a := m.1) (b := m.2) h3 a6.1
  obtain ⟨n2, l2, e2⟩ := s2
  obtain ⟨n1, l1, e1⟩ := s1
  have hb6 := b6.1
  simp only at hb6
  subst hb6
  obtain ⟨q1, q2, q3, q4⟩ := rNum_good h2
  simp only at q1
  subst q1
  obtain ⟨p1, p2, p3, p4⟩ := rNum_good h1
  have w6 := b6.2.1
  have w7 := b7.2.1
  have w8 := b8.2.1
  have v6 := a6.2.1
  have v7 := a7.2.1
  have v8 := a8.2.1
  simp only [List.append_nil] at v6 v7 v8 w6
  simp only [packT, numI, List.flatten_cons, List.flatten_nil, List.append_nil]
  rw [u32_of p4, u32_of q4, ← v6]
  have e7 : List.flatMap raw4 C.1 = c.1.1 := v7.symm
  have e8 : List.flatMap raw4 G.1 = g.1.1 := v8.symm
  rw [e7, e8]
  have z : g.2.1 = [] := by rw [k1]
  rw [z, List.append_nil] at w8
  simp only at p2 q2
  rw [← w8, ← w7, ← w6, ← q2, ← p2]
theorem unpackT_good {b : List UInt8} {t : TxnD} (h : unpackT b = some t) : rightT t = true ∧ packT t = b := by
  unfold unpackT at h
  split at h
  · rename_i hok
    rw [Bool.and_eq_true] at hok
    have h := Option.some.inj h
    subst h
    refine ⟨hok.2, ?_⟩
    have hk := hok.1
    simp only [unT, Bool.and_eq_true] at hk
    exact unT_good rfl rfl rfl rfl rfl rfl rfl rfl hk.1 hk.2.1 hk.2.2.1 hk.2.2.2
  · cases h
theorem flatMap_len_ge {α : Type} {f : α → List UInt8} (h : ∀ x, 1 ≤ (f x).length) (L : List α) : L.length ≤ (L.flatMap f).length := by
  induction L with
  | nil => simp
  | cons x L ih => rw [List.flatMap_cons, List.length_append, List.length_cons]; have := h x; omega
theorem flatMap_mem_len {α : Type} {f : α → List UInt8} {L : List α} {x : α} (h : x ∈ L) : (f x).length ≤ (L.flatMap f).length := by
  induction L with
  | nil => simp at h
  | cons y L ih =>
    rw [List.flatMap_cons, List.length_append]
    rcases List.mem_cons.1 h with rfl | h
    · omega
    · have := ih h; omega
theorem flat_mv (ms : List (Int × List UInt8)) : (ms.flatMap fun m => [numI m.1, raw4 m.2]).flatten = ms.flatMap moveB := by
  induction ms with
  | nil => rfl
  | cons m ms ih => simp only [List.flatMap_cons, List.flatten_append, ih]; simp [moveB]
theorem flat_raw (cs : List (List UInt8)) : (cs.map raw4).flatten = cs.flatMap raw4 := (List.flatMap_def ..).symm
theorem mv_len (ms : List (Int × List UInt8)) : (ms.flatMap fun m => [numI m.1, raw4 m.2]).length = 2 * ms.length := by
  induction ms with
  | nil => rfl
  | cons m ms ih => simp only [List.flatMap_cons, List.length_append, ih, List.length_cons, List.length_nil]; omega
theorem moveB_len (m : Int × List UInt8) : (moveB m).length = 8 + m.2.length := by simp [moveB, numI_len, raw4_len]; omega
theorem getD_mem' {α : Type} {L : List α} {i : Nat} {d : α} (h : i < L.length) : L.getD i d ∈ L := by
  rw [List.getD_eq_getElem?_getD, List.getElem?_eq_getElem h]; simp
theorem packT_len (t : TxnD) : (packT t).length = 20 + (t.moves.flatMap moveB).length + (t.come.flatMap raw4).length + (t.gone.flatMap raw4).length := by
  simp [packT, numI_len, raw4_len]; omega
theorem packT_bounds {t : TxnD} {N : Nat} (h : (packT t).length ≤ N) : t.moves.length ≤ N ∧ t.come.length ≤ N ∧ t.gone.length ≤ N ∧ (t.moves.flatMap moveB).length + (t.come.flatMap raw4).length + (t.gone.flatMap raw4).length + 20 ≤ N ∧
    (∀ m ∈ t.moves, m.2.length ≤ N) ∧ (∀ p ∈ t.come, p.length ≤ N) ∧ (∀ p ∈ t.gone, p.length ≤ N) := by
  rw [packT_len] at h
  have h1 := flatMap_len_ge (f := moveB) (fun x => by rw [moveB_len]; omega) t.moves
  have h2 := flatMap_len_ge (f := raw4) (fun x => by rw [raw4_len]; omega) t.come
  have h3 := flatMap_len_ge (f := raw4) (fun x => by rw [raw4_len]; omega) t.gone
  refine ⟨by omega, by omega, by omega, by omega, fun m hm => ?_, fun p hp => ?_, fun p hp => ?_⟩
  · have := flatMap_mem_len (f := moveB) hm; rw [moveB_len] at this; omega
  · have := flatMap_mem_len (f := raw4) hp; rw [raw4_len] at this; omega
  · have := flatMap_mem_len (f := raw4) hp; rw [raw4_len] at this; omega
end Go.Proofs.YtedfpoidggpkdaaDoor
