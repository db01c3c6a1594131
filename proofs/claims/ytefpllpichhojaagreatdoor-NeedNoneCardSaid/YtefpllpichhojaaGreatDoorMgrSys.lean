/- A manager over a table: what its steps make of both. -/
import Derived.Test.YtefpllpichhojaaGreatDoorM13
import Derived.Test.YtefpllpichhojaaGreatDoorProcSpawn
namespace Go.Proofs.YtefpllpichhojaaGreatDoor
open Go.RowKit
variable [Low]
section
def SysB (X : Nat → Prop) (w : World) (mb tb vb gb db kb n N off top : Nat) (q : Int) (lm : Nat) (la : Option Addr) (lc : Nat) (A : Bs → StA) (S : SysD) : Prop :=
 MgrB X w mb tb gb lm N la lc S.M A ∧ SysP (AndM X lm) w tb vb db kb n N off top q S.F S.P
variable {X : Nat → Prop} {w w' : World} {mb tb gb lm N vb db kb n off top : Nat} {q : Int} {la : Option Addr} {lc : Nat} {A : Bs → StA} {S : SysD}
theorem SysB.ext (h : SysB X w mb tb vb gb db kb n N off top q lm la lc A S) (k : Ext w w') : SysB X w' mb tb vb gb db kb n N off top q lm la lc A S := ⟨h.1.ext k, h.2.ext k⟩
theorem SysB.mono (h : SysB X w mb tb vb gb db kb n N off top q lm la lc A S) {K : Nat} (hK : N ≤ K) : SysB X w mb tb vb gb db kb n K off top q lm la lc A S := ⟨h.1.mono hK, h.2.mono hK⟩
theorem KeepM.of_lm (h : MgrB X w mb tb gb lm N la lc S.M A) (k : Keep (· ≠ lm) w w') : KeepM X w w' := by
 obtain ⟨es, cl, hm⟩ := h.map.block
 exact KeepM.of_map k h.lows.2.1 h.out.1 hm
theorem sys_happen (h : SysB X w mb tb vb gb db kb n N off top q lm la lc A S) (k : Nat) (m : Bs) (hl : S.M.log.length ≤ 1000000) (hlw : Low.low ≤ w.heap.size) :
 Calls Tryz.prog 87 #[.pointer (some ⟨mb, 0, none⟩), .int .i64 (k : Int), .string (bs m)] w fun e w' => e = .returned (.tuple #[]) ∧ ∃ la' lc', SysB X w' mb tb vb gb db kb n N off top q lm la' lc' A { S with M := logM S.M k m } ∧ KeepM X w w' := by
 refine (mgr_happen h.1 k m hl hlw).mono ?_
 rintro e w' ⟨he, la', lc', hM, hk⟩
 obtain ⟨h1, h2⟩ := h.1.keepN hk
 exact ⟨he, la', lc', ⟨hM, h.2.own h2⟩, h1⟩
theorem SysB.put {w2 w3 : World} (h : SysB X w mb tb vb gb db kb n N off top q lm la lc A S) (k2 : Ext w w2) (m : Bs) (s : StD) (B : StA) (hb : w2.heap[B.blk]? = some (.cells (stV s B) 156 (0, 0))) (hf : OwnS w2 Low.low B.fa B.fc s.files) (hnew : w.heap.size ≤ B.blk)
 (hm : MapF keyS w3 9 lm (N + 1) (fun z => if z = m then some (.pointer (some ⟨B.blk, 0, none⟩)) else stF S.M A z)) (k3 : Keep (· ≠ lm) w2 w3) (ht : 0 ≤ s.tries ∧ s.tries ≤ (N : Int) + 1 ∧ 0 ≤ s.pid ∧ s.pid ≤ (N : Int) + 1) (hn : m.length ≤ 100000) (hlw : Low.low ≤ w.heap.size) :
 SysB X w3 mb tb vb gb db kb n (N + 1) off top q lm la lc (fun z => if z = m then B else A z) { S with M := setM S.M m s } ∧ KeepM X w w3 := by
 obtain ⟨es, cl, hmb⟩ := (h.1.ext k2).map.block
 exact ⟨⟨h.1.put k2 m s B hb hf hnew hm k3 ht hn hlw, ((h.2.ext k2).turnM (Or.inr rfl) hmb k3).mono (by omega)⟩, (KeepM.of_ext k2).trans (KeepM.of_lm (S := S) (h.1.ext k2) k3)⟩
theorem SysB.keepP (h : SysB X w mb tb vb gb db kb n N off top q lm la lc A S) (k : KeepP (AndM X lm) w w') {F : FileS} {P : TabD} {M2 off2 : Nat} (hp : SysP (AndM X lm) w' tb vb db kb n M2 off2 top q F P) (hN : N ≤ M2) :
 SysB X w' mb tb vb gb db kb n M2 off2 top q lm la lc A ⟨F, P, S.M⟩ ∧ KeepM X w w' :=
 ⟨⟨(h.1.keepP k).mono hN, hp⟩, KeepM.of_keepP k fun _ hg => Or.inl hg⟩
theorem OwnS.keepVol {X : Nat → Prop} {w w' : World} {base c : Nat} {a : Option Addr} {L : List Bs} (h : OwnS w base a c L) (k : KeepY X w w') : OwnS w' base a c L := h.keep k fun g cs hg => Or.inr (Or.inr ⟨cs, _, _, hg, by decide⟩)
theorem OwnS.keepPr {X : Nat → Prop} {w w' : World} {base c : Nat} {a : Option Addr} {L : List Bs} (h : OwnS w base a c L) (k : KeepP X w w') : OwnS w' base a c L := h.keep k fun g cs hg => Or.inr (Or.inr ⟨cs, _, _, hg, by decide⟩)
end
end Go.Proofs.YtefpllpichhojaaGreatDoor
