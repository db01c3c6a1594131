/- Several texts of mine, one behind the other: TreeLoadL, TreeSound. -/
import Derived.Test.YtefpllpichhojaaGreatDoorM4
import Derived.Test.YtefpllpichhojaaGreatDoorM8
namespace Go.Proofs.YtefpllpichhojaaGreatDoor
def oneKid (s : RSt) : (By × Int) × RSt := (((rRaw 12 s).1, ((rNum 1073741824 (rRaw 12 s).2).1 : Nat)), (rNum 1073741824 (rRaw 12 s).2).2)
def kidsK (L : List (By × Int)) : By → Option Int := L.foldl (fun k x => withK k x.1 x.2) noK
def rowA (l : By) : Int × RSt := (((rNum 1073741824 (l, false)).1 : Nat), (rNum 1073741824 (l, false)).2)
def rowB (s : RSt) : (Int × By) × RSt := ((((rNum 1048576 s).1 : Nat), (rRaw 3500 (rNum 1048576 s).2).1), (rRaw 3500 (rNum 1048576 s).2).2)
def rowC (s : RSt) : (Bool × (By → Option Int)) × RSt :=
 if 0 < s.1.length then ((decide ((rNum 1 s).1 = 1), kidsK (rEach oneKid (rNum 1 s).2).1), (rEach oneKid (rNum 1 s).2).2) else ((false, noK), s)
def rowN (l : By) : (Int × NodeD) × RSt :=
 (((rowA l).1, ⟨(rowC (rowB (rowA l).2).2).1.1, (rowB (rowA l).2).1.1, (rowB (rowA l).2).1.2, (rowC (rowB (rowA l).2).2).1.2⟩), (rowC (rowB (rowA l).2).2).2)
def putT (T : TreeD) (i : Int) (n : NodeD) : TreeD := { T with ids := if i ∈ T.ids then T.ids else T.ids ++ [i], node := fun j => if j = i then n else T.node j }
def emptyT (q : Int) : TreeD := ⟨[], fun _ => newN, 0, max 0 q⟩
def rowsT : TreeD → List By → Option TreeD
 | T, [] => some T
 | T, l :: L => if (rowN l).2.2 = true then none else rowsT (putT T (rowN l).1.1 (rowN l).1.2) L
def loadsT (q : Int) : List By → Option TreeD
 | [] => some (emptyT q)
 | l :: L => if rDone (rowA l).2 = true then rowsT { emptyT q with next := (rowA l).1 } L else none
def OkN (T : TreeD) (i : Int) : Prop := i < T.next ∧ ∀ x k, (T.node i).kids x = some k → k ∈ T.ids ∧ k ≠ 1
def SoundT (T : TreeD) : Prop := ((1 : Int) ∈ T.ids ∧ (T.node 1).dir = true) ∧ ∀ i ∈ T.ids, OkN T i
structure SmallT (T : TreeD) : Prop where
 nodup : T.ids.Nodup
 next : 0 ≤ T.next ∧ T.next ≤ 1073741824
 ids : ∀ i ∈ T.ids, 0 ≤ i ∧ i ≤ 1073741824
 kids : ∀ i ∈ T.ids, ∀ x k, (T.node i).kids x = some k → x.length ≤ 12 ∧ 0 ≤ k ∧ k ≤ 1073741824
end Go.Proofs.YtefpllpichhojaaGreatDoor
namespace Go.Proofs.YtefpllpichhojaaGreatDoor
open Go.RowKit
section
variable {base tb mb N : Nat} {T : TreeD} {A : Int → NodeA}
end
end Go.Proofs.YtefpllpichhojaaGreatDoor
