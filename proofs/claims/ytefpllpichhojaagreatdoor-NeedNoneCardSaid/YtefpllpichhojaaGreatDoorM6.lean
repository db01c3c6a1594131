/- Several texts of mine, one behind the other: MgrNew, SysDo. -/
import Derived.Test.YtefpllpichhojaaGreatDoorMgrStart
import Derived.Test.YtefpllpichhojaaGreatDoorGraphNew
import Derived.Test.YtefpllpichhojaaGreatDoorM16
namespace Go.Proofs.YtefpllpichhojaaGreatDoor
open Go.RowKit
variable [Low]
section
variable {X : Nat → Prop} {w w' : World} {mb tb gb lm N vb db kb n off top : Nat} {q : Int} {la : Option Addr} {lc : Nat} {A : Bs → StA} {S : SysD} {F : FileS} {P : TabD}
theorem SysP.bound (h : SysP X w tb vb db kb n N off top q F P) : ∀ g, X g → g < w.heap.size := by
 obtain ⟨pm, PA, hb, _, _⟩ := h
 exact hb.out.2.2
theorem MgrB.more {Y : Nat → Prop} {M : MgrD} (h : MgrB X w mb tb gb lm N la lc M A) (k : Ext w w') (hY : ∀ g, Y g → X g ∨ (w.heap.size ≤ g ∧ g < w'.heap.size)) : MgrB Y w' mb tb gb lm N la lc M A := by
 have h2 := h.ext k
 have hno : ∀ g, g < w.heap.size → ¬ X g → ¬ Y g := fun g hg hx hy => by
  rcases hY g hy with h | h
  · exact hx h
  · omega
 obtain ⟨es, cl, hm⟩ := h.map.block
 refine ⟨h2.top, h2.map, h2.st, h2.blk, h2.log, ⟨hno _ (Array.getElem?_eq_some_iff.1 hm).1 h.out.1, hno _ (Array.getElem?_eq_some_iff.1 h.top).1 h.out.2.1, fun z s hs => hno _ (Array.getElem?_eq_some_iff.1 (h.st z s hs).1).1 (h.out.2.2.1 z s hs), fun a ha => ?_, fun g hg => ?_⟩, h2.lows, h2.small⟩
 · obtain ⟨_, cs, hc⟩ := h.logBlk ha
   exact hno _ (Array.getElem?_eq_some_iff.1 hc).1 (h.out.2.2.2.1 a ha)
 · rcases hY g hg with h3 | h3
   · exact Nat.lt_of_lt_of_le (h.out.2.2.2.2 g h3) k.size
   · exact h3.2
theorem SysB.more {Y : Nat → Prop} (h : SysB X w mb tb vb gb db kb n N off top q lm la lc A S) (k : Ext w w') (hY : ∀ g, Y g → X g ∨ (w.heap.size ≤ g ∧ g < w'.heap.size)) : SysB Y w' mb tb vb gb db kb n N off top q lm la lc A S :=
 ⟨h.1.more k hY, h.2.more k fun g hg => by
  rcases hg with hg | hg
  · rcases hY g hg with h1 | h1
    · exact Or.inl (Or.inl h1)
    · exact Or.inr h1
  · exact Or.inl (Or.inr hg)⟩
set_option maxRecDepth 100000 in
theorem mgr_New (h : SysP X w tb vb db kb n N off top q F P) (hlw : Low.low ≤ w.heap.size) :
 Calls Tryz.prog 83 #[.pointer (some ⟨tb, 0, none⟩)] w fun e w' => ∃ mb gb lm, e = .returned (.pointer (some ⟨mb, 0, none⟩)) ∧ SysB X w' mb tb vb gb db kb n N off top q lm none 0 (fun _ => ⟨0, none, 0⟩) ⟨F, P, noneM⟩ ∧ Ext w w' := by
 obtain ⟨R, hR⟩ : ∃ R : Ending → World → Prop, R = fun e w' => ∃ mb gb lm, e = .returned (.pointer (some ⟨mb, 0, none⟩)) ∧ SysB X w' mb tb vb gb db kb n N off top q lm none 0 (fun _ => ⟨0, none, 0⟩) ⟨F, P, noneM⟩ ∧ Ext w w' := ⟨_, rfl⟩
 rw [← hR]
 have HR := Lib.hid hR; clear hR
 have HS := Lib.hid h; have HLW := Lib.hid hlw; clear h hlw
 have hmk := @run_makeMap Tryz.prog
 go_enter Tryz.func83, Tryz.ntmps83
 go_wp2_with (go_at_call 37; refine (graph_New (w := w) (a := none) (c := 0) (L := []) ⟨Or.inl rfl, fun x hx => absurd hx List.not_mem_nil⟩ fun x hx => absurd hx List.not_mem_nil).mono ?_; rintro E w1 ⟨⟨gb, rfl, _⟩, hx⟩; have HX := Lib.hid hx; clear hx)
 rw [HR.out]
 have hx1 := HX.out
 have hx : Ext w1 ((w1.alloc (.map #[] 0)).alloc (.cells (mgrV tb gb w1.heap.size none 0 0) 106)) := (Ext.alloc _ _).trans (Ext.alloc _ _)
 have hm := (MapF.made keyS w1 9).ext (Ext.alloc _ (.cells (mgrV tb gb w1.heap.size none 0 0) 106))
 have hb := heap_alloc_new (w1.alloc (.map #[] 0)) (.cells (mgrV tb gb w1.heap.size none 0 0) 106)
 have hs : (w1.alloc (.map #[] 0)).heap.size = w1.heap.size + 1 := by simp
 rw [hs] at hb
 have hs2 : ((w1.alloc (.map #[] 0)).alloc (.cells (mgrV tb gb w1.heap.size none 0 0) 106)).heap.size = w1.heap.size + 2 := by simp
 have hlw := HLW.out
 have hs1 := hx1.size
 have hbd := HS.out.bound
 refine ⟨w1.heap.size + 1, gb, w1.heap.size, rfl, ⟨⟨hb, (hm.mono (Nat.zero_le _)).same (by funext i; rfl), fun _ _ h => (by cases h), fun _ _ _ _ h => (by cases h), World.ownsRow_nil _ _ _ _, ⟨fun h => by have := hbd _ h; omega, fun h => by have := hbd _ h; omega, fun _ _ h => (by cases h), fun _ h => (by cases h), fun g h => Nat.lt_of_lt_of_le (hbd g h) (hx1.trans hx).size⟩, ⟨by omega, by omega, fun _ _ h => (by cases h)⟩, fun _ _ h => (by cases h)⟩, ?_⟩, hx1.trans hx⟩
 refine HS.out.more (hx1.trans hx) fun g hg => ?_
 rcases hg with hg | hg
 · exact Or.inl hg
 · exact Or.inr ⟨by omega, by rw [hg]; exact Nat.lt_of_lt_of_le (by omega : w1.heap.size < w1.heap.size + 2) (Nat.le_of_eq hs2.symm)⟩
end
end Go.Proofs.YtefpllpichhojaaGreatDoor
namespace Go.Proofs.YtefpllpichhojaaGreatDoor
open Go.RowKit
theorem ops_run {w : World} {a : Option Addr} {L : List (OpD × OpA)} (h : RunM w a (L.flatMap opV)) (hb : ∀ x ∈ L, Bytes w x.2.oa x.1.data) : OpsL w a L := by
 rcases of_runM (F := opV) (m := 4) (fun _ => rfl) (by omega) h with h | ⟨g, off, ha, hg, hc⟩
 · exact Or.inl h
 · refine Or.inr ⟨g, off, ha, hg, fun i hi => ?_⟩
   have eL : L.getD i oz = L[i] := by simp [List.getD_eq_getElem?_getD, List.getElem?_eq_getElem hi]
   rw [eL]
   exact ⟨⟨hc i hi 0 _ (by omega) rfl, hc i hi 1 _ (by omega) rfl, hc i hi 2 _ (by omega) rfl, hc i hi 3 _ (by omega) rfl⟩, hb _ (List.getElem_mem hi)⟩
variable [Low]
section
variable {X : Nat → Prop} {w w' : World} {mb tb gb lm N vb db kb n off top : Nat} {q : Int} {la : Option Addr} {lc : Nat} {A : Bs → StA} {S : SysD} {F : FileS} {P : TabD}
theorem sys_DoL (hE : EnvL w) (h : SysP X w tb vb db kb n N off top q F P) {a : Option Addr} {c : Nat} {L : List (OpD × OpA)} (hL : OpsL w a L) {ops : List OpD} (hm : L.map Prod.fst = ops) {k : Nat} (hk : L.length = k) {m' m2 : RefD} (hok : doM F.m ops = (m', 0)) (hsw : sweepM m' F.hd = m2) (hfo : ∀ o ∈ ops, FitOp o) (hpk : (packOps ops).length ≤ 4095) {off' : Nat} (hoff : off + secN ((packOps ops).length + 1) = off') (hroom : off' ≤ halfN n) (htop : top ≤ 2147483000) {N' : Nat} (hN' : N + 2 * k ≤ N') (hN : N' ≤ 1000000000) :
 Calls Tryz.prog 24 #[.pointer (some ⟨vb, 0, none⟩), .slice a k c] w fun e w' => e = .returned (.int .i64 0) ∧ SysP X w' tb vb db kb n N' off' top q ⟨m2, F.hd⟩ P ∧ KeepP X w w' := by
 obtain ⟨pm, A, hb, hv, hh⟩ := h
 refine (at_vDoL hE.env hv (c := c) hL hm hk hok hsw hfo hpk hoff hroom htop hN' hN).mono ?_
 rintro e w' ⟨he, hv', hk'⟩
 exact ⟨he, ⟨pm, A, (hb.keepY hk').mono (by omega), hv', hh⟩, KeepP.of_keepY hk' fun g hg => Or.inl hg⟩
theorem sys_DoB (hE : EnvL w) (h : SysB X w mb tb vb gb db kb n N off top q lm la lc A S) {a : Option Addr} {c : Nat} {L : List (OpD × OpA)} (hL : OpsL w a L) {ops : List OpD} (hm : L.map Prod.fst = ops) {k : Nat} (hk : L.length = k) {m' m2 : RefD} (hok : doM S.F.m ops = (m', 0)) (hsw : sweepM m' S.F.hd = m2) (hfo : ∀ o ∈ ops, FitOp o) (hpk : (packOps ops).length ≤ 4095) {off' : Nat} (hoff : off + secN ((packOps ops).length + 1) = off') (hroom : off' ≤ halfN n) (htop : top ≤ 2147483000) {N' : Nat} (hN' : N + 2 * k ≤ N') (hN : N' ≤ 1000000000) :
 Calls Tryz.prog 24 #[.pointer (some ⟨vb, 0, none⟩), .slice a k c] w fun e w' => e = .returned (.int .i64 0) ∧ SysB X w' mb tb vb gb db kb n N' off' top q lm la lc A ⟨⟨m2, S.F.hd⟩, S.P, S.M⟩ ∧ KeepM X w w' := by
 refine (sys_DoL hE h.2 (c := c) hL hm hk hok hsw hfo hpk hoff hroom htop hN' hN).mono ?_
 rintro e w' ⟨he, hp, hk'⟩
 obtain ⟨h1, h2⟩ := h.keepP hk' hp (by omega)
 exact ⟨he, h1, h2⟩
end
def names17 : List Bs := [[97], [98], [99], [100], [101]]
def opC (n : Bs) : OpD × OpA := (⟨2, 47 :: n, [], []⟩, ⟨none, 0⟩)
def tree17 : RefD := ⟨[rootE, ⟨[47, 97], 2, false⟩, ⟨[47, 98], 3, false⟩, ⟨[47, 99], 4, false⟩, ⟨[47, 100], 5, false⟩, ⟨[47, 101], 6, false⟩], [⟨2, []⟩, ⟨3, []⟩, ⟨4, []⟩, ⟨5, []⟩, ⟨6, []⟩], 7, 3000⟩
def file17 : FileS := ⟨tree17, fun _ => 0⟩
omit [Low] in
theorem do17 : doM (newM 3000) ((names17.map opC).map Prod.fst) = (tree17, 0) := by rfl
omit [Low] in
theorem sweep17 : sweepM tree17 (fun _ => 0) = tree17 := (sweepM_eq _ _).trans rfl
def uD (n : Bs) (f : List Bs) : UnitD := ⟨n, f, [], [], [], [], [], 0⟩
def units17 : List UnitD := [uD [117] [[47, 97]], uD [118] [[47, 98], [47, 99]], uD [119] [[47, 97], [47, 99], [47, 100]], uD [120] [[47, 100]]]
def graph17 : GraphD := ⟨units17, behindU units17, [[117], [118], [119], [120]]⟩
omit [Low] in
theorem new17 : newU units17 = .inl graph17 := by
 have h1 : dupU [] units17 = none := by decide +kernel
 have h2 : (namesU units17).find? (lackU units17) = none := by decide +kernel
 have h3 : sortU (behindU units17) units17.length (namesU units17) [] = ([[117], [118], [119], [120]], []) := by decide +kernel
 unfold newU
 rw [if_neg (by decide), h1]
 dsimp only
 rw [h2]
 dsimp only
 rw [h3]
 rfl
end Go.Proofs.YtefpllpichhojaaGreatDoor
