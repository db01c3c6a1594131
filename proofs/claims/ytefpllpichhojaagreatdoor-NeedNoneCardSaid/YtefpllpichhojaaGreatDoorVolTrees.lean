/- The trees that come and go where a file is replaced, in plain Lean; operations that were packed are read as they were. -/
import Derived.Test.YtefpllpichhojaaGreatDoorM14
import Derived.Test.YtefpllpichhojaaGreatDoorM4
import Derived.Test.YtefpllpichhojaaGreatDoorM9
namespace Go.Proofs.YtefpllpichhojaaGreatDoor
def FitOp (o : OpD) : Prop := (0 ≤ o.kind ∧ o.kind ≤ 6) ∧ o.path.length ≤ 40 ∧ o.dest.length ≤ 40 ∧ o.data.length ≤ 3500
structure TwoT (T : TreeD) (q : Int) (k : By → Option Int) (n : Int) (d : By) : Prop where
 ids : T.ids = [1, 2]
 root : T.node 1 = ⟨true, 1, [], k⟩
 file : T.node 2 = ⟨false, n, d, noK⟩
 next : T.next = 3
 quota : T.quota = q
structure ThreeT (T : TreeD) (q : Int) (k : By → Option Int) (n m : Int) (a b : By) : Prop where
 ids : T.ids = [1, 2, 3]
 root : T.node 1 = ⟨true, 1, [], k⟩
 file : T.node 2 = ⟨false, n, a, noK⟩
 other : T.node 3 = ⟨false, m, b, noK⟩
 quota : T.quota = q
section
variable {T : TreeD} {q : Int} {k : By → Option Int} {n m : Int} {a b d : By}
end
end Go.Proofs.YtefpllpichhojaaGreatDoor
