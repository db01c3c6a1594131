/- What runs, and which files it has, in plain Lean. -/
import Derived.Test.YtachelbodpfckaaGreatDoorM11
namespace Go.Proofs.YtachelbodpfckaaGreatDoor
structure ProcD where
 pid : Int
 unit : By
 maps : List Int
 ending : Bool
structure TabD where
 list : List ProcD
 next : Int
def getP (P : TabD) (i : Int) : Option ProcD := P.list.find? fun p => decide (p.pid = i)
def setP (P : TabD) (i : Int) (p : ProcD) : TabD := { P with list := P.list.map fun q => if q.pid = i then p else q }
def delP (P : TabD) (i : Int) : TabD := { P with list := P.list.filter fun q => !decide (q.pid = i) }
def addP (P : TabD) (p : ProcD) : TabD := ⟨P.list ++ [p], P.next + 1⟩
def noneP : TabD := ⟨[], 1⟩
structure GoodP (P : TabD) : Prop where
 sorted : P.list.Pairwise fun a b => a.pid < b.pid
 low : ∀ p ∈ P.list, 1 ≤ p.pid ∧ p.pid < P.next
 next : 1 ≤ P.next
 few : P.list.length ≤ 32
 maps : ∀ p ∈ P.list, p.maps.length ≤ 8
section
variable {P : TabD}
theorem noneP_good : GoodP noneP := ⟨List.Pairwise.nil, fun _ h => absurd h List.not_mem_nil, Int.le_refl _, Nat.zero_le _, fun _ h => absurd h List.not_mem_nil⟩
theorem GoodP.inj (h : GoodP P) {p q : ProcD} (hp : p ∈ P.list) (hq : q ∈ P.list) (e : p.pid = q.pid) : p = q := by
 have hs := h.sorted
 obtain ⟨i, hi, rfl⟩ := List.getElem_of_mem hp
 obtain ⟨j, hj, rfl⟩ := List.getElem_of_mem hq
 rw [List.pairwise_iff_getElem] at hs
 rcases Nat.lt_trichotomy i j with h1 | h1 | h1
 · have := hs i j hi hj h1; omega
 · subst h1; rfl
 · have := hs j i hj hi h1; omega
theorem getP_some {i : Int} {p : ProcD} (h : getP P i = some p) : p ∈ P.list ∧ p.pid = i :=
 ⟨List.mem_of_find?_eq_some h, by have := List.find?_some h; exact of_decide_eq_true this⟩
theorem GoodP.get (h : GoodP P) {p : ProcD} (hp : p ∈ P.list) : getP P p.pid = some p := by
 cases hg : getP P p.pid with
 | none =>
   have := List.find?_eq_none.1 hg p hp
   simp at this
 | some q =>
   obtain ⟨h1, h2⟩ := getP_some hg
   rw [h.inj h1 hp h2]
theorem getP_none {i : Int} (h : getP P i = none) : ∀ p ∈ P.list, p.pid ≠ i := fun p hp e => by
 have := List.find?_eq_none.1 h p hp
 simp [e] at this
theorem GoodP.add (h : GoodP P) {p : ProcD} (hp : p.pid = P.next) (hm : p.maps.length ≤ 8) (hl : P.list.length < 32) : GoodP (addP P p) := by
 refine ⟨?_, fun q hq => ?_, ?_, ?_, fun q hq => ?_⟩
 · show (P.list ++ [p]).Pairwise _
   rw [List.pairwise_append]
   refine ⟨h.sorted, List.pairwise_singleton _ _, fun a ha b hb => ?_⟩
   rw [List.mem_singleton.1 hb, hp]
   exact (h.low a ha).2
 · show 1 ≤ q.pid ∧ q.pid < P.next + 1
   rcases List.mem_append.1 hq with hq | hq
   · have := h.low q hq; omega
   · rw [List.mem_singleton.1 hq, hp]; have := h.next; omega
 · show 1 ≤ P.next + 1
   have := h.next; omega
 · show (P.list ++ [p]).length ≤ 32
   rw [List.length_append, List.length_singleton]; omega
 · rcases List.mem_append.1 hq with hq | hq
   · exact h.maps q hq
   · rw [List.mem_singleton.1 hq]; exact hm
theorem GoodP.del (h : GoodP P) (i : Int) : GoodP (delP P i) :=
 ⟨h.sorted.filter _, fun p hp => h.low p (List.mem_filter.1 hp).1, h.next, Nat.le_trans (List.length_filter_le _ _) h.few, fun p hp => h.maps p (List.mem_filter.1 hp).1⟩
theorem mem_setP {i : Int} {p q : ProcD} (h : q ∈ (setP P i p).list) : q = p ∨ (q ∈ P.list ∧ q.pid ≠ i) := by
 obtain ⟨r, hr, rfl⟩ := List.mem_map.1 h
 by_cases e : r.pid = i
 · left; rw [if_pos e]
 · right; rw [if_neg e]; exact ⟨hr, e⟩
theorem GoodP.set (h : GoodP P) {i : Int} {p : ProcD} (hi : p.pid = i) (hm : p.maps.length ≤ 8) : GoodP (setP P i p) := by
 have hpid : ∀ q : ProcD, (if q.pid = i then p else q).pid = q.pid := fun q => by
  by_cases e : q.pid = i
  · rw [if_pos e, hi, e]
  · rw [if_neg e]
 refine ⟨?_, fun q hq => ?_, h.next, ?_, fun q hq => ?_⟩
 · show (P.list.map _).Pairwise _
   rw [List.pairwise_map]
   exact h.sorted.imp fun {a b} hab => by rw [hpid, hpid]; exact hab
 · obtain ⟨r, hr, rfl⟩ := List.mem_map.1 hq
   rw [hpid]; exact h.low r hr
 · show (P.list.map _).length ≤ 32
   rw [List.length_map]; exact h.few
 · rcases mem_setP hq with rfl | ⟨hq, _⟩
   · exact hm
   · exact h.maps q hq
theorem mem_delP {i : Int} {q : ProcD} : q ∈ (delP P i).list ↔ q ∈ P.list ∧ q.pid ≠ i := by
 unfold delP
 simp [List.mem_filter]
end
structure FileS where
 m : RefD
 hd : Int → Nat
def holdF (m : RefD) (p : By) : Int × Int := match entM m p with
 | none => (0, 8)
 | some e => if e.dir = true then (0, 10) else (e.id, 0)
def incF (F : FileS) (i : Int) : FileS := ⟨F.m, fun z => if z = i then F.hd i + 1 else F.hd z⟩
def decH (hd : Int → Nat) (i : Int) : Int → Nat := fun z => if z = i then hd i - 1 else hd z
def letF (F : FileS) (i : Int) : FileS := ⟨sweepM F.m (decH F.hd i), decH F.hd i⟩
def letsF (F : FileS) (X : List Int) : FileS := X.foldl letF F
theorem letsF_snoc (F : FileS) (X : List Int) (i : Int) : letsF F (X ++ [i]) = letF (letsF F X) i := by simp [letsF]
theorem sweepM_list (m : RefD) (hd : Int → Nat) : (sweepM m hd).list = m.list := by rw [sweepM_eq]
theorem letF_list (F : FileS) (i : Int) : (letF F i).m.list = F.m.list := sweepM_list _ _
theorem letsF_list : ∀ (X : List Int) (F : FileS), (letsF F X).m.list = F.m.list
 | [], _ => rfl
 | i :: X, F => (letsF_list X (letF F i)).trans (letF_list F i)
theorem holdF_list {m m' : RefD} (h : m'.list = m.list) (p : By) : holdF m' p = holdF m p := by
 unfold holdF; rw [entM_L, entM_L, h]
theorem letsF_hd : ∀ (X : List Int) (F : FileS) (i : Int), (letsF F X).hd i = F.hd i - X.countP fun x => decide (x = i)
 | [], F, i => by simp [letsF]
 | x :: X, F, i => by
   show (letsF (letF F x) X).hd i = _
   rw [letsF_hd X (letF F x) i, List.countP_cons]
   show decH F.hd x i - _ = _
   unfold decH
   by_cases h : i = x
   · subst h; simp; omega
   · have : ¬ x = i := fun e => h e.symm
     simp [h, this]
def holdsF : FileS → List Int → List By → (FileS × List Int) × Int
 | F, M, [] => ((F, M), 0)
 | F, M, s :: l => if (holdF F.m s).2 = 0 then holdsF (incF F (holdF F.m s).1) (M ++ [(holdF F.m s).1]) l else ((F, M), (holdF F.m s).2)
def spawnF (F : FileS) (P : TabD) (u : By) (paths : List By) : (FileS × TabD) × (Int × Int) :=
 if 8 < paths.length then ((F, P), (0, 22))
 else if 32 ≤ P.list.length then ((F, P), (0, 7))
 else if (holdsF F [] paths).2 = 0 then (((holdsF F [] paths).1.1, addP P ⟨P.next, u, (holdsF F [] paths).1.2, false⟩), (P.next, 0))
 else ((letsF (holdsF F [] paths).1.1 (holdsF F [] paths).1.2, P), (0, (holdsF F [] paths).2))
def exitF (F : FileS) (P : TabD) (i : Int) : (FileS × TabD) × Int := match getP P i with
 | none => ((F, P), 8)
 | some p => ((letsF F p.maps, delP P i), 0)
def cntM (X : List Int) (i : Int) : Nat := X.countP fun x => decide (x = i)
def cntP (P : TabD) (i : Int) : Nat := (P.list.map fun p => cntM p.maps i).sum
def HeldBy (F : FileS) (P : TabD) : Prop := ∀ i, F.hd i = cntP P i
theorem cntM_app (X Y : List Int) (i : Int) : cntM (X ++ Y) i = cntM X i + cntM Y i := List.countP_append ..
theorem cntM_le (X : List Int) (i : Int) : cntM X i ≤ X.length := List.countP_le_length
theorem sum_del {α : Type} (f : α → Nat) (a : α → Int) (i : Int) : ∀ (L : List α), (L.Pairwise fun x y => a x < a y) → ∀ p ∈ L, a p = i → ((L.filter fun q => !decide (a q = i)).map f).sum + f p = (L.map f).sum
 | [], _, p, hp, _ => absurd hp List.not_mem_nil
 | x :: L, hs, p, hp, e => by
   rw [List.pairwise_cons] at hs
   rcases List.mem_cons.1 hp with rfl | hp
   · have hn : ∀ q ∈ L, ¬ a q = i := fun q hq h => by have := hs.1 q hq; omega
     have h1 : (L.filter fun q => !decide (a q = i)) = L := List.filter_eq_self.2 fun q hq => by simp [hn q hq]
     rw [List.filter_cons]
     simp only [e, decide_true, Bool.not_true, Bool.false_eq_true, if_false, h1, List.map_cons, List.sum_cons]
     omega
   · have hne : ¬ a x = i := fun h => by have := hs.1 p hp; omega
     have ih := sum_del f a i L hs.2 p hp e
     rw [List.filter_cons]
     simp only [hne, decide_false, Bool.not_false, if_true, List.map_cons, List.sum_cons]
     omega
theorem cntP_del {P : TabD} (h : GoodP P) {p : ProcD} (hp : p ∈ P.list) (j : Int) : cntP (delP P p.pid) j + cntM p.maps j = cntP P j :=
 sum_del (fun x : ProcD => cntM x.maps j) ProcD.pid p.pid P.list h.sorted p hp rfl
theorem cntP_add (P : TabD) (p : ProcD) (j : Int) : cntP (addP P p) j = cntP P j + cntM p.maps j := by
 unfold cntP addP; simp
theorem HeldBy.exit {F : FileS} {P : TabD} (h : HeldBy F P) (hg : GoodP P) {p : ProcD} (hp : p ∈ P.list) : HeldBy (letsF F p.maps) (delP P p.pid) := fun i => by
 rw [letsF_hd, h i]
 have := cntP_del hg hp i
 have e : (p.maps.countP fun x => decide (x = i)) = cntM p.maps i := rfl
 omega
theorem holdsF_hd : ∀ (l : List By) (F : FileS) (M : List Int) (i : Int), (holdsF F M l).1.1.hd i + cntM M i = F.hd i + cntM (holdsF F M l).1.2 i
 | [], F, M, i => rfl
 | s :: l, F, M, i => by
   unfold holdsF
   by_cases h : (holdF F.m s).2 = 0
   · rw [if_pos h]
     have ih := holdsF_hd l (incF F (holdF F.m s).1) (M ++ [(holdF F.m s).1]) i
     rw [cntM_app] at ih
     have e : (incF F (holdF F.m s).1).hd i = F.hd i + cntM [(holdF F.m s).1] i := by
      unfold incF cntM
      by_cases hi : i = (holdF F.m s).1
      · simp [hi]
      · have : ¬ (holdF F.m s).1 = i := fun e => hi e.symm
        simp [hi, this]
     rw [e] at ih
     omega
   · rw [if_neg h]
theorem holdsF_m : ∀ (l : List By) (F : FileS) (M : List Int), (holdsF F M l).1.1.m = F.m
 | [], _, _ => rfl
 | s :: l, F, M => by
   unfold holdsF
   by_cases h : (holdF F.m s).2 = 0
   · rw [if_pos h]; exact holdsF_m l _ _
   · rw [if_neg h]
theorem holdsF_len : ∀ (l : List By) (F : FileS) (M : List Int), (holdsF F M l).1.2.length ≤ M.length + l.length
 | [], _, _ => Nat.le_refl _
 | s :: l, F, M => by
   unfold holdsF
   by_cases h : (holdF F.m s).2 = 0
   · rw [if_pos h]
     have := holdsF_len l (incF F (holdF F.m s).1) (M ++ [(holdF F.m s).1])
     rw [List.length_append, List.length_singleton] at this
     rw [List.length_cons]; omega
   · rw [if_neg h]
     have h2 : ((F, M), (holdF F.m s).2).1.2.length = M.length := rfl
     rw [h2, List.length_cons]; omega
theorem HeldBy.spawn {F : FileS} {P : TabD} (h : HeldBy F P) (u : By) (paths : List By) : HeldBy (spawnF F P u paths).1.1 (spawnF F P u paths).1.2 := by
 unfold spawnF
 split
 · exact h
 split
 · exact h
 have hh := holdsF_hd paths F []
 split
 · intro i
   have := hh i
   rw [show cntM [] i = 0 from rfl] at this
   show (holdsF F [] paths).1.1.hd i = cntP (addP P _) i
   rw [cntP_add, ← h i]
   show _ = F.hd i + cntM (holdsF F [] paths).1.2 i
   omega
 · intro i
   have := hh i
   rw [show cntM [] i = 0 from rfl] at this
   show (letsF _ _).hd i = cntP P i
   rw [letsF_hd, ← h i]
   have e : ((holdsF F [] paths).1.2.countP fun x => decide (x = i)) = cntM (holdsF F [] paths).1.2 i := rfl
   omega
end Go.Proofs.YtachelbodpfckaaGreatDoor
