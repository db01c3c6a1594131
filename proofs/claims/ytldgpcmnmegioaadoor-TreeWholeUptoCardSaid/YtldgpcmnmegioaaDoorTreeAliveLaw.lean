/- Trees, in plain Lean: the document's example. -/
import Derived.Test.YtldgpcmnmegioaaDoorTreeLaws
namespace Go.Proofs.YtldgpcmnmegioaaDoor
def aOps1 : List OpD := [⟨0, [47, 97], [], []⟩, ⟨2, [47, 97, 47, 102], [], [111, 110, 101]⟩, ⟨4, [47, 97, 47, 102], [47, 103], []⟩]
def aOps2 : List OpD := [⟨2, [47, 104], [], [116, 119, 111]⟩, ⟨5, [47, 104], [47, 97, 47, 102], []⟩]
def aOps3 : List OpD := [⟨6, [47, 103], [], []⟩]
noncomputable def aT1 : TreeD := (doT (newT 10) aOps1).1
noncomputable def aT2 : TreeD := (doT aT1 aOps2).1
noncomputable def aT3 : TreeD := (doT aT2 aOps3).1
set_option maxRecDepth 100000 in
theorem alive_e1 : (doT (newT 10) aOps1).2 = 0 := by decide +kernel
set_option maxRecDepth 100000 in
theorem alive_e2 : (doT aT1 aOps2).2 = 0 := by decide +kernel
set_option maxRecDepth 100000 in
theorem alive_e3 : (doT aT2 aOps3).2 = 0 := by decide +kernel
set_option maxRecDepth 100000 in
theorem alive_r1 : findT aT2 [47, 97, 47, 102] = 4 ∧ (aT2.node 4).dir = false ∧ (aT2.node 4).data = [116, 119, 111] := by decide +kernel
set_option maxRecDepth 100000 in
theorem alive_r2 : findT aT2 [47, 103] = 3 ∧ (aT2.node 3).dir = false ∧ (aT2.node 3).data = [111, 110, 101] := by decide +kernel
set_option maxRecDepth 100000 in
theorem alive_r3 : aT3.ids = [1, 2, 3, 4] ∧ usedT aT3 = 6 ∧ (aT3.node 1).dir = true ∧ findT aT3 [47, 97] = 2 ∧ (aT3.node 2).dir = true ∧ looseT aT3 = [3] := by decide +kernel
set_option maxRecDepth 100000 in
theorem alive_k : (aT3.node 1).kids = lessK (lessK (withK (withK (withK noK [97] 2) [103] 3) [104] 4) [104]) [103] := by rfl
end Go.Proofs.YtldgpcmnmegioaaDoor
