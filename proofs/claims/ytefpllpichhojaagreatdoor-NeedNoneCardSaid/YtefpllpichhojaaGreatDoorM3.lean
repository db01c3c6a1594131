/- Several texts of mine, one behind the other: ProcTab, ProcSet, UnitD, GraphSpec, MgrSpec, UnitMem, RowApp, CloneS, GraphMem, CloneI, MapKeysI, ProcGet, MgrMem, FuncS, RunAt, GraphClone. -/
import Derived.Test.YtefpllpichhojaaGreatDoorProcHold
import Derived.Test.YtefpllpichhojaaGreatDoorM5
import Derived.Test.YtefpllpichhojaaGreatDoorM18
import Derived.Test.YtefpllpichhojaaGreatDoorM9
import Derived.Test.YtefpllpichhojaaGreatDoorM7
import Derived.Test.YtefpllpichhojaaGreatDoorM14
import Derived.Lib.SlKeysI
import Derived.Maps.RangeWalk
import Derived.Shelf.SlIterI.Nil
import Derived.Shelf.SlIterI.Sorted
import Derived.Shelf.AbstractIn
import Derived.Shelf.GgClosure.Gives
import Derived.Maps.AppendAt
namespace Go.Proofs.YtefpllpichhojaaGreatDoor
open Go.RowKit
variable [Low]
section
variable {X : Nat → Prop} {w w' : World} {tb pm vb db kb n N off top : Nat} {q : Int} {F : FileS} {P : TabD} {A : Int → ProcA}
theorem ProcB.mapblk (h : ProcB X w tb pm vb N P A) : ∃ es cl, w.heap[pm]? = some (.map es cl) := h.map.block
theorem ProcB.keep {S : Nat → Prop} (h : ProcB X w tb pm vb N P A) (k : Keep S w w') (h1 : S tb) (h2 : S pm) (h3 : ∀ p ∈ P.list, S (A p.pid).blk ∧ ∀ a, (A p.pid).ma = some a → S a.block) : ProcB X w' tb pm vb N P A :=
 ⟨k.heap h1 h.top, h.map.keep k h2, fun p hp => ⟨k.heap (h3 p hp).1 (h.proc p hp).1, (h.proc p hp).2.keep k fun x _ hx _ => (h3 p hp).2 x hx⟩, h.blk, h.row, h.good, ⟨h.out.1, h.out.2.1, fun g hg => Nat.lt_of_lt_of_le (h.out.2.2 g hg) k.size⟩, h.lows, h.ids, h.next, h.apart⟩
theorem ProcB.ext (h : ProcB X w tb pm vb N P A) (k : Ext w w') : ProcB X w' tb pm vb N P A :=
 h.keep (Keep.of_ext (S := fun _ => True) k) trivial trivial fun _ _ => ⟨trivial, fun _ _ => trivial⟩
theorem ProcB.mono (h : ProcB X w tb pm vb N P A) {M : Nat} (hM : N ≤ M) : ProcB X w tb pm vb M P A :=
 ⟨h.top, h.map.mono hM, h.proc, h.blk, h.row, h.good, h.out, h.lows, h.ids, by have := h.next; omega, h.apart⟩
theorem ProcB.keepY (h : ProcB X w tb pm vb N P A) (k : KeepY (AndM X pm) w w') : ProcB X w' tb pm vb N P A := by
 obtain ⟨es, cl, hm⟩ := h.mapblk
 refine h.keep k (Or.inr (Or.inr ⟨_, _, _, h.top, by decide⟩)) (Or.inr (Or.inl ⟨Or.inr rfl, es, cl, hm⟩)) fun p hp => ⟨Or.inr (Or.inr ⟨_, _, _, (h.proc p hp).1, by decide⟩), fun a ha => ?_⟩
 obtain ⟨_, _, cs, hc⟩ := (h.proc p hp).2.block ha
 exact Or.inr (Or.inr ⟨_, _, _, hc, by decide⟩)
theorem SysP.ext (h : SysP X w tb vb db kb n N off top q F P) (k : Ext w w') : SysP X w' tb vb db kb n N off top q F P := by
 obtain ⟨pm, A, h1, h2, h3⟩ := h
 exact ⟨pm, A, h1.ext k, h2.ext k, h3⟩
theorem SysP.mono (h : SysP X w tb vb db kb n N off top q F P) {M : Nat} (hM : N ≤ M) : SysP X w tb vb db kb n M off top q F P := by
 obtain ⟨pm, A, h1, h2, h3⟩ := h
 exact ⟨pm, A, h1.mono hM, h2.mono hM, h3⟩
omit [Low] in
theorem cntM_sum (i : Int) : ∀ (L : List ProcD), (∀ p ∈ L, p.maps.length ≤ 8) → (L.map fun p => cntM p.maps i).sum ≤ 8 * L.length
 | [], _ => Nat.le_refl _
 | p :: L, h => by
   have h1 := cntM_sum i L fun p hp => h p (List.mem_cons_of_mem _ hp)
   have h2 := cntM_le p.maps i
   have h3 := h p List.mem_cons_self
   rw [List.map_cons, List.sum_cons, List.length_cons]
   omega
omit [Low] in
theorem HeldBy.le (h : HeldBy F P) (hg : GoodP P) (i : Int) : F.hd i ≤ 256 := by
 rw [h i]
 have h1 := cntM_sum i P.list hg.maps
 have h2 := hg.few
 unfold cntP
 omega
theorem SysP.more {Y : Nat → Prop} (h : SysP X w tb vb db kb n N off top q F P) (k : Ext w w') (hY : ∀ g, Y g → X g ∨ (w.heap.size ≤ g ∧ g < w'.heap.size)) : SysP Y w' tb vb db kb n N off top q F P := by
 obtain ⟨pm, A, hb, hv, hh⟩ := h
 have h2 := hb.ext k
 obtain ⟨es, cl, hmb⟩ := hb.mapblk
 have hml := (Array.getElem?_eq_some_iff.1 hmb).1
 have htl := (Array.getElem?_eq_some_iff.1 hb.top).1
 have hno : ∀ g, g < w.heap.size → ¬ X g → ¬ Y g := fun g hg hx hy => by
  rcases hY g hy with h | h
  · exact hx h
  · omega
 refine ⟨pm, A, ⟨h2.top, h2.map, h2.proc, h2.blk, h2.row, h2.good, ⟨hno _ hml hb.out.1, fun p hp a ha => ?_, fun g hg => ?_⟩, h2.lows, h2.ids, h2.next, ⟨hno _ htl hb.apart.1, fun p hp => hno _ (Array.getElem?_eq_some_iff.1 (hb.proc p hp).1).1 (hb.apart.2 p hp)⟩⟩, hv.more k fun g hg => ?_, hh⟩
 · obtain ⟨_, _, cs, hc⟩ := (hb.proc p hp).2.block ha
   exact hno _ (Array.getElem?_eq_some_iff.1 hc).1 (hb.out.2.1 p hp a ha)
 · rcases hY g hg with h | h
   · exact h2.out.2.2 g h
   · exact h.2
 · rcases hg with hg | hg
   · rcases hY g hg with h | h
     · exact Or.inl (Or.inl h)
     · exact Or.inr h
   · exact Or.inl (Or.inr hg)
omit [Low] in
theorem procF_none {i : Int} (h : getP P i = none) : procF P A i = none := by unfold procF; rw [h]; rfl
omit [Low] in
theorem procF_some {i : Int} {p : ProcD} (h : getP P i = some p) : procF P A i = some (.pointer (some ⟨(A i).blk, 0, none⟩)) := by unfold procF; rw [h]; rfl
set_option maxRecDepth 100000 in
theorem proc_New (hv : VolK X w vb db kb n N off top q F.m F.hd) (h0 : ∀ i, F.hd i = 0) (hX : ∀ g, X g → g < w.heap.size) (hlw : Low.low ≤ w.heap.size) (hN1 : 1 ≤ N) :
 Calls Tryz.prog 12 #[.iface 24 (.pointer (some ⟨vb, 0, none⟩))] w fun e w' => ∃ tb, e = .returned (.pointer (some ⟨tb, 0, none⟩)) ∧ SysP X w' tb vb db kb n N off top q F noneP ∧ Ext w w' := by
 obtain ⟨R, hR⟩ : ∃ R : Ending → World → Prop, R = fun e w' => ∃ tb, e = .returned (.pointer (some ⟨tb, 0, none⟩)) ∧ SysP X w' tb vb db kb n N off top q F noneP ∧ Ext w w' := ⟨_, rfl⟩
 rw [← hR]
 have HR := Lib.hid hR; clear hR
 have HV := Lib.hid hv; have HX := Lib.hid hX; have HLW := Lib.hid hlw; have H0 := Lib.hid h0; have HN1 := Lib.hid hN1; clear hv hX hlw h0 hN1
 have hmk := @run_makeMap Tryz.prog
 go_enter Tryz.func12, Tryz.ntmps12
 go_wp2_with fail
 rw [HR.out]
 have hx : Ext w ((w.alloc (.map #[] 0)).alloc (.cells (tabV vb w.heap.size 1) 135)) := (Ext.alloc _ _).trans (Ext.alloc _ _)
 have hm := (MapF.made keyI w 3).ext (Ext.alloc _ (.cells (tabV vb w.heap.size 1) 135))
 have hb := heap_alloc_new (w.alloc (.map #[] 0)) (.cells (tabV vb w.heap.size 1) 135)
 have hs : (w.alloc (.map #[] 0)).heap.size = w.heap.size + 1 := by simp
 rw [hs] at hb
 have hs2 : ((w.alloc (.map #[] 0)).alloc (.cells (tabV vb w.heap.size 1) 135)).heap.size = w.heap.size + 2 := by simp
 have hlw := HLW.out
 have hn1 := HN1.out
 refine ⟨w.heap.size + 1, rfl, ⟨w.heap.size, fun _ => ⟨0, none, 0⟩, ⟨hb, (hm.mono (Nat.zero_le _)).same (by funext i; rfl), fun p h => absurd h List.not_mem_nil, fun p h => absurd h List.not_mem_nil, fun p h => absurd h List.not_mem_nil, noneP_good, ⟨fun h => by have := HX.out _ h; omega, fun p h => absurd h List.not_mem_nil, fun g h => Nat.lt_of_lt_of_le (HX.out _ h) hx.size⟩, ⟨by omega, by omega, fun p h => absurd h List.not_mem_nil⟩, fun p h => absurd h List.not_mem_nil, ?_, ⟨fun h => by have := HX.out _ h; omega, fun p h => absurd h List.not_mem_nil⟩⟩, ?_, fun i => H0.out i⟩, hx⟩
 · show (1 : Int) ≤ (N : Int)
   omega
 · refine HV.out.more hx fun g hg => ?_
   rcases hg with hg | hg
   · exact Or.inl hg
   · exact Or.inr ⟨by omega, by rw [hg]; exact Nat.lt_of_lt_of_le (by omega : w.heap.size < w.heap.size + 2) (Nat.le_of_eq hs2.symm)⟩
end
end Go.Proofs.YtefpllpichhojaaGreatDoor
namespace Go.Proofs.YtefpllpichhojaaGreatDoor
open Go.RowKit
variable [Low]
section
variable {P : TabD}
end
section
variable {X : Nat → Prop} {w w' : World} {tb pm vb db kb n N off top : Nat} {q : Int} {F : FileS} {P : TabD} {A : Int → ProcA}
end
end Go.Proofs.YtefpllpichhojaaGreatDoor
namespace Go.Proofs.YtefpllpichhojaaGreatDoor
abbrev Bs := List UInt8
structure UnitD where
 name : Bs
 files : List Bs
 after : List Bs
 before : List Bs
 reqs : List Bs
 wants : List Bs
 partof : List Bs
 retry : Int
def UnitD.row (u : UnitD) : Nat → List Bs
 | 1 => u.files
 | 2 => u.after
 | 3 => u.before
 | 4 => u.reqs
 | 5 => u.wants
 | _ => u.partof
end Go.Proofs.YtefpllpichhojaaGreatDoor
namespace Go.Proofs.YtefpllpichhojaaGreatDoor
structure GraphD where
 units : List UnitD
 behind : Bs → List Bs
 order : List Bs
def getU (U : List UnitD) (n : Bs) : Option UnitD := U.find? fun u => decide (u.name = n)
def hasU (U : List UnitD) (n : Bs) : Bool := (getU U n).isSome
def insB (x : Bs) : List Bs → List Bs
 | [] => [x]
 | y :: r => if x ≤ y then x :: y :: r else y :: insB x r
def namesU (U : List UnitD) : List Bs := (U.map UnitD.name).foldr insB []
def putU (U : List UnitD) (b : Bs → List Bs) (n : Bs) (os : List Bs) : Bs → List Bs := fun z => if z = n ∧ hasU U n = true then b n ++ os.filter (hasU U) else b z
def putsU (U : List UnitD) (b : Bs → List Bs) (n : Bs) : Bs → List Bs := match getU U n with
 | none => b
 | some u => u.before.foldl (fun b x => putU U b x [n]) (putU U b n (u.after ++ u.reqs))
def behindU (U : List UnitD) : Bs → List Bs := (namesU U).foldl (putsU U) fun _ => []
def freeB (b : Bs → List Bs) (order : List Bs) (n : Bs) : Bool := (b n).all fun x => decide (x ∈ order)
def sortU (b : Bs → List Bs) : Nat → List Bs → List Bs → List Bs × Bs
 | 0, _, order => (order, [])
 | k + 1, left, order => match left with
   | [] => (order, [])
   | m :: r => match (m :: r).findIdx? (freeB b order) with
     | none => (order, m)
     | some i => sortU b k ((m :: r).eraseIdx i) (order ++ [(m :: r).getD i []])
def dupU : List UnitD → List UnitD → Option Bs
 | _, [] => none
 | seen, u :: r => if hasU seen u.name = true then some u.name else dupU (seen ++ [u]) r
def lackU (U : List UnitD) (n : Bs) : Bool := match getU U n with
 | none => false
 | some u => (u.reqs ++ u.partof).any fun x => !hasU U x
def newU (L : List UnitD) : GraphD ⊕ (Int × Bs) :=
 if 16 < L.length then .inr (22, []) else match dupU [] L with
  | some n => .inr (9, n)
  | none => match (namesU L).find? (lackU L) with
    | some n => .inr (16, n)
    | none => if (sortU (behindU L) L.length (namesU L) []).2 = [] then .inl ⟨L, behindU L, (sortU (behindU L) L.length (namesU L) []).1⟩ else .inr (19, (sortU (behindU L) L.length (namesU L) []).2)
theorem getU_some {U : List UnitD} {n : Bs} {u : UnitD} (h : getU U n = some u) : u ∈ U ∧ u.name = n := by
 refine ⟨List.mem_of_find?_eq_some h, ?_⟩
 have := List.find?_some h
 simpa using this
theorem getU_none {U : List UnitD} {n : Bs} (h : getU U n = none) : ∀ u ∈ U, u.name ≠ n := by
 intro u hu e
 have := List.find?_eq_none.1 h u hu
 simp [e] at this
theorem hasU_iff {U : List UnitD} {n : Bs} : hasU U n = true ↔ n ∈ U.map UnitD.name := by
 unfold hasU
 cases h : getU U n with
 | none =>
   simp only [Option.isSome_none, Bool.false_eq_true, false_iff]
   intro hm
   obtain ⟨u, hu, e⟩ := List.mem_map.1 hm
   exact getU_none h u hu e
 | some u =>
   obtain ⟨h1, h2⟩ := getU_some h
   simp only [Option.isSome_some, true_iff]
   exact List.mem_map.2 ⟨u, h1, h2⟩
theorem getU_mem {U : List UnitD} (hn : (U.map UnitD.name).Nodup) {u : UnitD} (hu : u ∈ U) : getU U u.name = some u := by
 unfold getU
 induction U with
 | nil => exact absurd hu List.not_mem_nil
 | cons v U ih =>
   rw [List.map_cons, List.nodup_cons] at hn
   rw [List.find?_cons]
   rcases List.mem_cons.1 hu with rfl | hu
   · simp
   · have : decide (v.name = u.name) = false := decide_eq_false fun e => hn.1 (e ▸ List.mem_map_of_mem hu)
     rw [this]
     exact ih hn.2 hu
theorem getU_snoc (U : List UnitD) (u : UnitD) (n : Bs) : getU (U ++ [u]) n = match getU U n with | some x => some x | none => if n = u.name then some u else none := by
 unfold getU
 rw [List.find?_append]
 cases U.find? fun u => decide (u.name = n) with
 | some x => rfl
 | none =>
   rw [Option.none_or, List.find?_cons]
   by_cases e : n = u.name
   · simp [e]
   · have : decide (u.name = n) = false := decide_eq_false fun e2 => e e2.symm
     rw [this, if_neg e]; rfl
theorem insB_perm (x : Bs) : ∀ L : List Bs, (insB x L).Perm (x :: L)
 | [] => List.Perm.refl _
 | y :: r => by
   unfold insB
   split
   · exact List.Perm.refl _
   · exact ((insB_perm x r).cons y).trans (List.Perm.swap x y r)
theorem insB_sorted (x : Bs) : ∀ L : List Bs, L.Pairwise (fun a b => a ≤ b) → (insB x L).Pairwise (fun a b => a ≤ b)
 | [], _ => List.pairwise_singleton _ _
 | y :: r, h => by
   rw [List.pairwise_cons] at h
   unfold insB
   split
   · rename_i hxy
     refine List.pairwise_cons.2 ⟨fun z hz => ?_, List.pairwise_cons.2 h⟩
     rcases List.mem_cons.1 hz with rfl | hz
     · exact hxy
     · exact List.le_trans hxy (h.1 z hz)
   · rename_i hxy
     refine List.pairwise_cons.2 ⟨fun z hz => ?_, insB_sorted x r h.2⟩
     have := (insB_perm x r).mem_iff.1 hz
     rcases List.mem_cons.1 this with rfl | hz
     · rcases List.le_total y z with h1 | h1
       · exact h1
       · exact absurd h1 hxy
     · exact h.1 z hz
theorem namesU_perm (U : List UnitD) : (namesU U).Perm (U.map UnitD.name) := by
 unfold namesU
 induction U.map UnitD.name with
 | nil => exact List.Perm.refl _
 | cons x L ih => rw [List.foldr_cons]; exact (insB_perm x _).trans (ih.cons x)
theorem namesU_sorted (U : List UnitD) : (namesU U).Pairwise (fun a b => a ≤ b) := by
 unfold namesU
 induction U.map UnitD.name with
 | nil => exact List.Pairwise.nil
 | cons x L ih => rw [List.foldr_cons]; exact insB_sorted x _ ih
theorem namesU_len (U : List UnitD) : (namesU U).length = U.length := by rw [(namesU_perm U).length_eq, List.length_map]
theorem namesU_mem {U : List UnitD} {n : Bs} : n ∈ namesU U ↔ hasU U n = true := by rw [(namesU_perm U).mem_iff, hasU_iff]
theorem names_are {U : List UnitD} (hn : (U.map UnitD.name).Nodup) {ss : List Bs} (h1 : ss.Pairwise fun x y => x ≤ y) (h2 : ss.Nodup) (h3 : ∀ x, x ∈ ss ↔ hasU U x = true) : ss = namesU U := by
 refine List.Perm.eq_of_pairwise (le := fun a b : Bs => a ≤ b) (fun a b _ _ h1 h2 => List.le_antisymm h1 h2) h1 (namesU_sorted U) ?_
 refine (List.perm_ext_iff_of_nodup h2 ((namesU_perm U).nodup_iff.2 hn)).2 fun x => ?_
 rw [h3, namesU_mem]
end Go.Proofs.YtefpllpichhojaaGreatDoor
namespace Go.Proofs.YtefpllpichhojaaGreatDoor
structure StD where
 st : Nat
 pid : Int
 files : List Bs
 tries : Int
def offD : StD := ⟨0, 0, [], 0⟩
def failD : StD := ⟨4, 0, [], 0⟩
structure MgrD where
 list : Bs → Option StD
 log : List (Nat × Bs)
def noneM : MgrD := ⟨fun _ => none, []⟩
def stM (M : MgrD) (n : Bs) : StD := (M.list n).getD offD
def setM (M : MgrD) (n : Bs) (s : StD) : MgrD := { M with list := fun z => if z = n then some s else M.list z }
def logM (M : MgrD) (k : Nat) (n : Bs) : MgrD := { M with log := M.log ++ [(k, n)] }
structure SysD where
 F : FileS
 P : TabD
 M : MgrD
def metM (U : List UnitD) (M : MgrD) (n : Bs) : Bool := match getU U n with
 | none => true
 | some u => u.reqs.all fun x => decide ((stM M x).st = 2)
def startM (U : List UnitD) (S : SysD) (n : Bs) : SysD × Int := match getU U n with
 | none => (S, 8)
 | some u => if (stM S.M n).st ≠ 0 ∧ (stM S.M n).st ≠ 4 then (S, 20) else if metM U S.M n = false then (S, 16)
   else if (spawnF S.F S.P n u.files).2.2 = 0 then (⟨(spawnF S.F S.P n u.files).1.1, (spawnF S.F S.P n u.files).1.2, logM (setM S.M n ⟨1, (spawnF S.F S.P n u.files).2.1, u.files, 0⟩) 0 n⟩, 0)
   else (⟨(spawnF S.F S.P n u.files).1.1, (spawnF S.F S.P n u.files).1.2, logM (setM S.M n failD) 4 n⟩, (spawnF S.F S.P n u.files).2.2)
def runsS (s : StD) : Prop := s.st = 1 ∨ s.st = 2 ∨ s.st = 3
instance (s : StD) : Decidable (runsS s) := by unfold runsS; infer_instance
structure GoodM (P : TabD) (M : MgrD) : Prop where
 st : ∀ n s, M.list n = some s → 1 ≤ s.st ∧ s.st ≤ 4
 run : ∀ n s, M.list n = some s → runsS s → ∃ p ∈ P.list, p.pid = s.pid ∧ p.unit = n ∧ (p.ending = true ↔ s.st = 3) ∧ p.maps.length = s.files.length
 own : ∀ p ∈ P.list, ∃ s, M.list p.unit = some s ∧ runsS s ∧ s.pid = p.pid
 fail : ∀ n s, M.list n = some s → s.st = 4 → s = failD
 few : ∀ n s, M.list n = some s → s.files.length ≤ 8
def OnesM (M : MgrD) (ss : List Bs) : Prop := ss.Pairwise (fun x y => x ≤ y) ∧ ss.Nodup ∧ ∀ x, x ∈ ss ↔ (M.list x).isSome = true
theorem stM_some {M : MgrD} {n : Bs} {s : StD} (h : M.list n = some s) : stM M n = s := by unfold stM; rw [h]; rfl
theorem stM_none {M : MgrD} {n : Bs} (h : M.list n = none) : stM M n = offD := by unfold stM; rw [h]; rfl
end Go.Proofs.YtefpllpichhojaaGreatDoor
namespace Go.Proofs.YtefpllpichhojaaGreatDoor
open Go.RowKit
theorem OwnS.base2 {w : World} {base b2 : Nat} {a : Option Addr} {cap : Nat} {D : List Bs} (h : OwnS w base a cap D) (hb : b2 ≤ base) : OwnS w b2 a cap D :=
 ⟨h.1, h.2.imp id (fun ⟨g, c, cur, h1, h2, h3⟩ => ⟨g, c, cur, h1, Nat.le_trans hb h2, h3⟩)⟩
def unitV (u : UnitD) (A : Nat → Option Addr) (C : Nat → Nat) : Value := .agg #[.string (bs u.name), .slice (A 1) u.files.length (C 1), .slice (A 2) u.after.length (C 2), .slice (A 3) u.before.length (C 3), .slice (A 4) u.reqs.length (C 4), .slice (A 5) u.wants.length (C 5), .slice (A 6) u.partof.length (C 6), .int .i64 u.retry]
def UnitR (w : World) (u : UnitD) (A : Nat → Option Addr) : Prop := ∀ f, 1 ≤ f → f ≤ 6 → Strs w (A f) (u.row f)
theorem set8 {w : World} {R : Nat} {t : TypeId} {a0 a1 a2 a3 a4 a5 a6 a7 : Value} (hg : w.heap[R]? = some (.cells #[a0, a1, a2, a3, a4, a5, a6, a7] t (0, 0))) (v0 v1 v2 v3 v4 v5 v6 v7 : Value) :
 ((((((((w.setCell ⟨R, 0, none⟩ v0).setCell ⟨R, 1, none⟩ v1).setCell ⟨R, 2, none⟩ v2).setCell ⟨R, 3, none⟩ v3).setCell ⟨R, 4, none⟩ v4).setCell ⟨R, 5, none⟩ v5).setCell ⟨R, 6, none⟩ v6).setCell ⟨R, 7, none⟩ v7).heap[R]? = some (.cells #[v0, v1, v2, v3, v4, v5, v6, v7] t (0, 0)) ∧
 But R w ((((((((w.setCell ⟨R, 0, none⟩ v0).setCell ⟨R, 1, none⟩ v1).setCell ⟨R, 2, none⟩ v2).setCell ⟨R, 3, none⟩ v3).setCell ⟨R, 4, none⟩ v4).setCell ⟨R, 5, none⟩ v5).setCell ⟨R, 6, none⟩ v6).setCell ⟨R, 7, none⟩ v7) := by
 refine ⟨?_, ((((((((But.refl R w).setCell 0 _).setCell 1 _).setCell 2 _).setCell 3 _).setCell 4 _).setCell 5 _).setCell 6 _).setCell 7 _⟩
 have h0 : _ = some (Obj.cells #[v0, a1, a2, a3, a4, a5, a6, a7] t (0, 0)) := setCell_row (i := 0) hg v0
 have h1 : _ = some (Obj.cells #[v0, v1, a2, a3, a4, a5, a6, a7] t (0, 0)) := setCell_row (i := 1) h0 v1
 have h2 : _ = some (Obj.cells #[v0, v1, v2, a3, a4, a5, a6, a7] t (0, 0)) := setCell_row (i := 2) h1 v2
 have h3 : _ = some (Obj.cells #[v0, v1, v2, v3, a4, a5, a6, a7] t (0, 0)) := setCell_row (i := 3) h2 v3
 have h4 : _ = some (Obj.cells #[v0, v1, v2, v3, v4, a5, a6, a7] t (0, 0)) := setCell_row (i := 4) h3 v4
 have h5 : _ = some (Obj.cells #[v0, v1, v2, v3, v4, v5, a6, a7] t (0, 0)) := setCell_row (i := 5) h4 v5
 have h6 : _ = some (Obj.cells #[v0, v1, v2, v3, v4, v5, v6, a7] t (0, 0)) := setCell_row (i := 6) h5 v6
 have h7 : _ = some (Obj.cells #[v0, v1, v2, v3, v4, v5, v6, v7] t (0, 0)) := setCell_row (i := 7) h6 v7
 exact h7
end Go.Proofs.YtefpllpichhojaaGreatDoor
namespace Go.Proofs.YtefpllpichhojaaGreatDoor
open Go.RowKit
section
variable {ops : Array Oper} {o : Oper} {a : Act} {Q : Exit → Act → World → Prop} {W : World}
end
section
variable {ops : Array Oper} {o : Oper} {a : Act} {Q : Exit → Act → World → Prop} {W : World}
end
def textV (L : List (List UInt8)) : List Value := L.map fun p => .string (bs p)
theorem textV_len (L : List (List UInt8)) : (textV L).length = L.length := by simp [textV]
theorem textV_at {L : List (List UInt8)} {i : Nat} (hi : i < L.length) : (textV L)[i]? = some (.string (bs (L.getD i []))) := by
 simp [textV, hi]
theorem textV_one (L : List (List UInt8)) : ∀ u ∈ textV L, u.oneCell' = true := by
 intro u hu
 simp only [textV, List.mem_map] at hu
 obtain ⟨p, _, rfl⟩ := hu
 rfl
end Go.Proofs.YtefpllpichhojaaGreatDoor
namespace Go.Proofs.YtefpllpichhojaaGreatDoor
open Go.RowKit
theorem strs_runS {w : World} {a : Option Addr} {L : List Bs} : Strs w a L ↔ RunM w a (textV L) := by
 constructor
 · rintro (h | ⟨g, off, ha, hg, hc⟩)
   · left; rw [h]; rfl
   · refine Or.inr ⟨g, off, ha, hg, fun j u hj => ?_⟩
     have hjl := (List.getElem?_eq_some_iff.1 hj).1
     rw [textV_len] at hjl
     rw [textV_at hjl] at hj
     rw [hc j hjl]; exact hj
 · rintro (h | ⟨g, off, ha, hg, hc⟩)
   · left
     have := textV_len L
     rw [h] at this
     exact List.eq_nil_of_length_eq_zero (by simp at this; omega)
   · exact Or.inr ⟨g, off, ha, hg, fun i hi => hc i _ (textV_at hi)⟩
def CloneTS (l : List Bs) (w : World) (e : Ending) (w' : World) : Prop := ∃ a c, e = .returned (.slice a l.length c) ∧ OwnS w' w.heap.size a c l ∧ l.length ≤ c ∧ Ext w w'
set_option maxRecDepth 100000 in
set_option maxHeartbeats 1600000 in
theorem clone_ts (a : Option Addr) (c : Nat) (l : List Bs) (w : World) (hB : RunM w a (textV l)) (hl : l.length ≤ 100000) :
 Calls Tryz.prog 88 #[.slice a l.length c] w (CloneTS l w) := by
 have h : RunM w a (textV l) := hB
 have hn : (textV l).length = l.length * 1 := by rw [textV_len, Nat.mul_one]
 have h1 : ∀ u ∈ textV l, u.oneCell' = true := textV_one l
 obtain ⟨n, hnn⟩ : ∃ n, n = l.length := ⟨_, rfl⟩
 rw [← hnn] at hn hl ⊢
 have HNN := Lib.hid hnn; clear hnn
 obtain ⟨us, hus⟩ : ∃ us, us = textV l := ⟨_, rfl⟩
 rw [← hus] at h hn h1
 have HUS := Lib.hid hus; clear hus hB
 obtain ⟨R, hR⟩ : ∃ R, R = CloneTS l w := ⟨_, rfl⟩
 rw [← hR]
 have HR := Lib.hid hR; clear hR
 have q24 : ∀ (w : World) (a : Option Addr) (n c n' c' : Nat), (binOp .eql 29 (.slice a n c) (.slice none n' c')).run Tryz.prog w = .ok (.bool a.isNone) w := fun w a n c n' c' => Lib.run_eql_slice_nil w _ _ a n c n' c' Tryz.underlying29
 have HH := Lib.hid h; clear h
 have HN := Lib.hid hn; clear hn
 cases a with
 | none =>
   go_enter Tryz.func88, Tryz.ntmps88
   go_wp2
   rw [HR.out]
   have hn0 : us = [] := by
    rcases HH.out with h | ⟨_, _, ha, _⟩
    · exact h
    · cases ha
   have hz : n = 0 := by have := HN.out; rw [hn0] at this; simp at this; omega
   subst hz
   have hl0 : l = [] := by have := HUS.out; rw [hn0] at this; simpa [textV] using this.symm
   subst hl0
   exact ⟨none, 0, rfl, OwnS.nil _ _, Nat.le_refl _, Ext.refl _⟩
 | some ad =>
   obtain ⟨i0, hi, hz, hsz, hby⟩ := info_parts info_string
   have HI := Lib.hid hi; clear hi
   have HZ := Lib.hid hz; clear hz
   have HS := Lib.hid hsz; clear hsz
   have HB := Lib.hid hby; clear hby
   have hpl := (HH.out.ext (Ext.alloc w (.cells #[] 9))).plain
   have HP := Lib.hid hpl; clear hpl
   go_enter Tryz.func88, Tryz.ntmps88
   go_wp2_with (at_builtin; (refine wpList_append_own _ rfl _ _ 29 rfl w.heap.size 9 i0 (.string ⟨#[]⟩) 1 16 Tryz.underlying29 HI.out HZ.out HS.out HB.out rfl (by decide) (.slice (some ⟨w.heap.size, 0, none⟩) 0 0) 0 [] rfl (World.ownsRow_made w #[] 0 (Nat.le_refl _) (Nat.zero_le _) rfl) ad n c us rfl HN.out HP.out h1 (by unfold maxLen; omega) (by omega) (by simp) ?_); intro v' w1 hown hgrow hnil)
   simp only [Nat.zero_add, List.nil_append] at hown
   rw [HUS.out] at hown
   obtain ⟨a', c', rfl, hc', hrun, hfr⟩ := run_of_row hown
   have HX := Lib.hid (((Below.refl _ w).alloc (Nat.le_refl _) _).grown hgrow (by simp) (by intro k hk; simp [Value.ownBlock] at hk; omega))
   rw [HR.out]
   have hnn := HNN.out
   subst hnn
   exact ⟨a', c', rfl, hown, hc', HX.out⟩
end Go.Proofs.YtefpllpichhojaaGreatDoor
namespace Go.Proofs.YtefpllpichhojaaGreatDoor
open Go.RowKit
structure GraphA where
 ua : Bs → Nat → Option Addr
 uc : Bs → Nat → Nat
 ra : Bs → Option Addr
 rc : Bs → Nat
def unitF (U : List UnitD) (A : GraphA) : Bs → Option Value := fun n => (getU U n).map fun u => unitV u (A.ua n) (A.uc n)
def behF (b : Bs → List Bs) (A : GraphA) : Bs → Option Value := fun n => if b n = [] then none else some (.slice (A.ra n) (b n).length (A.rc n))
def SetR (S : Nat → Prop) (w : World) (a : Option Addr) : Prop := ∀ x, a = some x → S x.block ∧ ∃ cs fr, w.heap[x.block]? = some (.cells cs 9 fr)
theorem SetR.mono {S T : Nat → Prop} {w : World} {a : Option Addr} (h : SetR S w a) (hx : ∀ g, S g → T g) : SetR T w a := fun x ha => ⟨hx _ (h x ha).1, (h x ha).2⟩
theorem SetR.keep {S T : Nat → Prop} {w w' : World} {a : Option Addr} (h : SetR S w a) (k : Keep T w w') (hT : ∀ g cs fr, S g → w.heap[g]? = some (.cells cs 9 fr) → T g) : SetR S w' a := fun x hx => by
 obtain ⟨h1, cs, fr, h2⟩ := h x hx
 exact ⟨h1, cs, fr, k.heap (hT _ _ _ h1 h2) h2⟩
theorem SetR.strs {S T : Nat → Prop} {w w' : World} {a : Option Addr} {L : List Bs} (h : SetR S w a) (hs : Strs w a L) (k : Keep T w w') (hT : ∀ g cs fr, S g → w.heap[g]? = some (.cells cs 9 fr) → T g) : Strs w' a L :=
 strs_runS.2 (runM_keep (strs_runS.1 hs) k fun x hx => by obtain ⟨h1, cs, fr, h2⟩ := h x hx; exact hT _ _ _ h1 h2)
theorem SetR.own {S : Nat → Prop} {w : World} {base c : Nat} {a : Option Addr} {L : List Bs} (h : OwnS w base a c L) (hX : ∀ g, base ≤ g → g < w.heap.size → S g) : SetR S w a := fun x hx => by
 rcases h.2 with ⟨h1, _⟩ | ⟨g, c', cur, h1, hb, hg, _⟩
 · rw [(Value.slice.inj h1).1] at hx; cases hx
 · cases h1
   cases hx
   exact ⟨hX _ hb (Array.getElem?_eq_some_iff.1 hg).1, cur, _, hg⟩
def graphV (ub hb : Nat) (oa : Option Addr) (ol oc : Nat) : Array Value := #[.map (some ub), .map (some hb), .slice oa ol oc]
structure GraphB (S : Nat → Prop) (w : World) (gb ub hb : Nat) (oa : Option Addr) (oc N : Nat) (g : GraphD) (A : GraphA) : Prop where
 top : w.heap[gb]? = some (.cells (graphV ub hb oa g.order.length oc) 164 (0, 0))
 units : MapF keyS w 9 ub N (unitF g.units A)
 row : ∀ n u, getU g.units n = some u → UnitR w u (A.ua n) ∧ ∀ f, 1 ≤ f → f ≤ 6 → (u.row f).length ≤ A.uc n f ∧ SetR S w (A.ua n f)
 behind : MapF keyS w 9 hb N (behF g.behind A)
 rows : ∀ n, g.behind n ≠ [] → Strs w (A.ra n) (g.behind n) ∧ SetR S w (A.ra n) ∧ (g.behind n).length ≤ A.rc n
 order : Strs w oa g.order ∧ SetR S w oa ∧ g.order.length ≤ oc
 ins : S gb ∧ S ub ∧ S hb
def GraphM (S : Nat → Prop) (w : World) (gb N : Nat) (g : GraphD) : Prop := ∃ ub hb oa oc A, GraphB S w gb ub hb oa oc N g A
section
variable {S T : Nat → Prop} {w w' : World} {gb N : Nat} {g : GraphD}
theorem GraphM.keep (h : GraphM S w gb N g) (k : Keep T w w') (hT : ∀ b, S b → ((∃ es cl, w.heap[b]? = some (.map es cl)) ∨ ∃ cs t fr, w.heap[b]? = some (.cells cs t fr) ∧ (t = 9 ∨ t = 164)) → T b) : GraphM S w' gb N g := by
 obtain ⟨ub, hb, oa, oc, A, h⟩ := h
 have hs : ∀ b cs fr, S b → w.heap[b]? = some (.cells cs 9 fr) → T b := fun b cs fr h1 h2 => hT b h1 (Or.inr ⟨cs, _, fr, h2, Or.inl rfl⟩)
 refine ⟨ub, hb, oa, oc, A, k.heap (hT _ h.ins.1 (Or.inr ⟨_, _, _, h.top, Or.inr rfl⟩)) h.top, h.units.keep k (hT _ h.ins.2.1 (Or.inl h.units.block)), fun n u hu => ?_, h.behind.keep k (hT _ h.ins.2.2 (Or.inl h.behind.block)), fun n hn => ?_, ⟨h.order.2.1.strs h.order.1 k hs, h.order.2.1.keep k hs, h.order.2.2⟩, h.ins⟩
 · obtain ⟨h1, h2⟩ := h.row n u hu
   exact ⟨fun f f1 f6 => (h2 f f1 f6).2.strs (h1 f f1 f6) k hs, fun f f1 f6 => ⟨(h2 f f1 f6).1, (h2 f f1 f6).2.keep k hs⟩⟩
 · obtain ⟨h1, h2, h3⟩ := h.rows n hn
   exact ⟨h2.strs h1 k hs, h2.keep k hs, h3⟩
theorem GraphM.ext (h : GraphM S w gb N g) (k : Ext w w') : GraphM S w' gb N g := h.keep (Keep.of_ext (S := fun _ => True) k) fun _ _ _ => trivial
theorem GraphM.mono (h : GraphM S w gb N g) (hx : ∀ b, S b → T b) : GraphM T w gb N g := by
 obtain ⟨ub, hb, oa, oc, A, h⟩ := h
 exact ⟨ub, hb, oa, oc, A, h.top, h.units, fun n u hu => ⟨(h.row n u hu).1, fun f f1 f6 => ⟨((h.row n u hu).2 f f1 f6).1, ((h.row n u hu).2 f f1 f6).2.mono hx⟩⟩, h.behind, fun n hn => ⟨(h.rows n hn).1, (h.rows n hn).2.1.mono hx, (h.rows n hn).2.2⟩, ⟨h.order.1, h.order.2.1.mono hx, h.order.2.2⟩, ⟨hx _ h.ins.1, hx _ h.ins.2.1, hx _ h.ins.2.2⟩⟩
end
end Go.Proofs.YtefpllpichhojaaGreatDoor
namespace Go.Proofs.YtefpllpichhojaaGreatDoor
open Go.RowKit
theorem OwnIs.runI {w : World} {base : Nat} {a : Option Addr} {c : Nat} {X : List Int} (h : OwnIs w base a c X) : RunM w a (intV X) := by
 obtain ⟨a', c', hv, _, hr, _⟩ := run_of_row h
 cases hv
 exact hr
def CloneI (l : List Int) (w : World) (e : Ending) (w' : World) : Prop := ∃ a c, e = .returned (.slice a l.length c) ∧ OwnIs w' w.heap.size a c l ∧ Ext w w'
set_option maxRecDepth 100000 in
set_option maxHeartbeats 1600000 in
theorem clone_i (a : Option Addr) (c : Nat) (l : List Int) (w : World) (hB : RunM w a (intV l)) (hl : l.length ≤ 100000) :
 Calls Tryz.prog 115 #[.slice a l.length c] w (CloneI l w) := by
 have h : RunM w a (intV l) := hB
 have hn : (intV l).length = l.length * 1 := by simp [intV]
 have h1 : ∀ u ∈ intV l, u.oneCell' = true := intV_one l
 obtain ⟨n, hnn⟩ : ∃ n, n = l.length := ⟨_, rfl⟩
 rw [← hnn] at hn hl ⊢
 have HNN := Lib.hid hnn; clear hnn
 obtain ⟨us, hus⟩ : ∃ us, us = intV l := ⟨_, rfl⟩
 rw [← hus] at h hn h1
 have HUS := Lib.hid hus; clear hus hB
 obtain ⟨R, hR⟩ : ∃ R, R = CloneI l w := ⟨_, rfl⟩
 rw [← hR]
 have HR := Lib.hid hR; clear hR
 have q24 : ∀ (w : World) (a : Option Addr) (n c n' c' : Nat), (binOp .eql 34 (.slice a n c) (.slice none n' c')).run Tryz.prog w = .ok (.bool a.isNone) w := fun w a n c n' c' => Lib.run_eql_slice_nil w _ _ a n c n' c' Tryz.underlying34
 have HH := Lib.hid h; clear h
 have HN := Lib.hid hn; clear hn
 cases a with
 | none =>
   go_enter Tryz.func115, Tryz.ntmps115
   go_wp2
   rw [HR.out]
   have hn0 : us = [] := by
    rcases HH.out with h | ⟨_, _, ha, _⟩
    · exact h
    · cases ha
   have hz : n = 0 := by have := HN.out; rw [hn0] at this; simp at this; omega
   subst hz
   have hl0 : l = [] := by have := HUS.out; rw [hn0] at this; simpa [intV] using this.symm
   subst hl0
   exact ⟨none, 0, rfl, OwnIs.none _ _, Ext.refl _⟩
 | some ad =>
   obtain ⟨i0, hi, hz, hsz, hby⟩ := info_parts info_intL
   have HI := Lib.hid hi; clear hi
   have HZ := Lib.hid hz; clear hz
   have HS := Lib.hid hsz; clear hsz
   have HB := Lib.hid hby; clear hby
   have hpl := (HH.out.ext (Ext.alloc w (.cells #[] 3))).plain
   have HP := Lib.hid hpl; clear hpl
   go_enter Tryz.func115, Tryz.ntmps115
   go_wp2_with (at_builtin; (refine wpList_append_own _ rfl _ _ 34 rfl w.heap.size 3 i0 (.int .i64 0) 1 8 Tryz.underlying34 HI.out HZ.out HS.out HB.out rfl (by decide) (.slice (some ⟨w.heap.size, 0, none⟩) 0 0) 0 [] rfl (World.ownsRow_made w #[] 0 (Nat.le_refl _) (Nat.zero_le _) rfl) ad n c us rfl HN.out HP.out h1 (by unfold maxLen; omega) (by omega) (by simp) ?_); intro v' w1 hown hgrow hnil)
   simp only [Nat.zero_add, List.nil_append] at hown
   rw [HUS.out] at hown
   obtain ⟨a', c', rfl, hc', hrun, hfr⟩ := run_of_row hown
   have HX := Lib.hid (((Below.refl _ w).alloc (Nat.le_refl _) _).grown hgrow (by simp) (by intro k hk; simp [Value.ownBlock] at hk; omega))
   rw [HR.out]
   have hnn := HNN.out
   subst hnn
   exact ⟨a', c', rfl, hown, HX.out⟩
end Go.Proofs.YtefpllpichhojaaGreatDoor
namespace Go.Proofs.YtefpllpichhojaaGreatDoor
open Go.RowKit Go.Maps
theorem sorted_ints {D : DataW Value} {w : World} {b n : Nat} {f : Int → Option Value} (h1 : w.ownsMap Tryz.prog 3 selfR b n D) (h3 : ∀ x, Maps.has D (keyI x) = (f x).isSome) {ss : List Int} (hp : ss.Perm (intKeys D)) :
 (ss.mergeSort leI).Pairwise (fun x y => x ≤ y) ∧ (ss.mergeSort leI).Nodup ∧ ∀ x, x ∈ ss.mergeSort leI ↔ (f x).isSome = true := by
 obtain ⟨es, hD, hpw, _⟩ := h1.entries int_keyedA
 obtain ⟨es', hD', hko⟩ := h1.keysOf
 obtain rfl : es = es' := by rw [hD] at hD'; simpa using hD'
 subst hD
 have hk : ∀ p ∈ es, ∃ x, p.1 = .int .i64 x := fun p hp => by obtain ⟨v, hv⟩ := hko p hp; obtain ⟨x, _, hx, _⟩ := Maps.keyOf_int_inv Tryz.underlying3 hv; exact ⟨x, hx⟩
 have tr : ∀ a b c : Int, leI a b = true → leI b c = true → leI a c = true := fun a b c h1 h2 => by simp only [leI, decide_eq_true_eq] at *; omega
 have tot : ∀ a b : Int, (leI a b || leI b a) = true := fun a b => by simp only [leI, Bool.or_eq_true, decide_eq_true_eq]; omega
 have hs := List.pairwise_mergeSort tr tot ss
 have hm : (ss.mergeSort leI).Perm (intKeys (.map es)) := (List.mergeSort_perm ss _).trans hp
 have hnd : (intKeys (.map es)).Nodup := by
  show (es.map fun p => Go.intOf p.1).Nodup
  refine List.pairwise_map.2 (List.Pairwise.imp_of_mem (fun {p q} hp' hq' hne e => hne ?_) hpw)
  obtain ⟨a, ha⟩ := hk p hp'
  obtain ⟨b, hb⟩ := hk q hq'
  rw [ha, hb] at e ⊢
  exact congrArg _ e
 refine ⟨List.Pairwise.imp (fun {a b} h => by simpa [leI] using h) hs, hm.nodup_iff.2 hnd, fun x => ?_⟩
 rw [hm.mem_iff, ← h3 x]
 show x ∈ es.map (fun p => Go.intOf p.1) ↔ Maps.has (.map es) (.int .i64 x) = true
 rw [Maps.has_eq, List.any_eq_true, List.mem_map]
 constructor
 · rintro ⟨p, hp', rfl⟩
   obtain ⟨a, ha⟩ := hk p hp'
   exact ⟨p, hp', by rw [ha]; simp [Lit.sameKey, Go.intOf]⟩
 · rintro ⟨p, hp', hs⟩
   obtain ⟨a, ha⟩ := hk p hp'
   rw [ha] at hs
   exact ⟨p, hp', by rw [ha]; simpa [Lit.sameKey, Go.intOf] using hs⟩
end Go.Proofs.YtefpllpichhojaaGreatDoor
namespace Go.Proofs.YtefpllpichhojaaGreatDoor
open Go.RowKit Go.Maps Go.Sort Go.Shelf
variable [Low]
section
variable {X : Nat → Prop} {w w' : World} {tb pm vb db kb n N off top : Nat} {q : Int} {F : FileS} {P : TabD} {A : Int → ProcA}
def GotR (P : TabD) (i : Int) (w : World) (e : Ending) (w' : World) : Prop :=
 (match getP P i with
 | none => e = .returned (.tuple #[.agg #[.int .i64 0, .string ⟨#[]⟩, .slice none 0 0, .bool false], .bool false])
 | some p => ∃ a c, e = .returned (.tuple #[.agg #[.int .i64 p.pid, .string (bs p.unit), .slice a p.maps.length c, .bool p.ending], .bool true]) ∧ OwnIs w' w.heap.size a c p.maps) ∧ Ext w w'
set_option maxRecDepth 100000 in
set_option maxHeartbeats 6400000 in
theorem proc_Get (h : SysP X w tb vb db kb n N off top q F P) (i : Int) (h1 : -9223372036854775808 ≤ i) (h2 : i ≤ 9223372036854775807) :
 Calls Tryz.prog 68 #[.pointer (some ⟨tb, 0, none⟩), .int .i64 i] w (GotR P i w) := by
 obtain ⟨R, hR⟩ : ∃ R : Ending → World → Prop, R = GotR P i w := ⟨_, rfl⟩
 rw [← hR]
 have HR := Lib.hid hR; clear hR
 obtain ⟨pm, A, hb, hv, hh⟩ := h
 have hx := Ext.alloc w (.cells #[.int .i64 0, .string ⟨#[]⟩, .slice none 0 0, .bool false] 128)
 have c1 := blk_cell (hx.heap hb.top) 1 (.map (some pm)) rfl
 have hlk := (hb.map.ext hx).lookup int_keyedA Tryz.underlying133 (Tryz.zeroValue139 _) (key_int h1 h2)
 cases hg : getP P i with
 | none =>
   rw [procF_none hg] at hlk
   have HG := Lib.hid hg; have HX := Lib.hid hx
   clear hb hv hh hg hx
   dsimp only [Option.getD] at hlk
   go_enter Tryz.func68, Tryz.ntmps68
   go_wp2_with fail
   have hz := heap_alloc_new w (.cells #[.int .i64 0, .string ⟨#[]⟩, .slice none 0 0, .bool false] 128)
   have d0 := blk_cell hz 0 _ rfl
   have d1 := blk_cell hz 1 _ rfl
   have d2 := blk_cell hz 2 _ rfl
   have d3 := blk_cell hz 3 _ rfl
   refine bodyPost_ret (v := .tuple #[.agg #[.int .i64 0, .string ⟨#[]⟩, .slice none 0 0, .bool false], .bool false]) (by simp [results, Tryz.results68, go_sem, d0, d1, d2, d3]) rfl ?_
   rw [HR.out]
   unfold GotR
   rw [HG.out]
   exact ⟨rfl, HX.out⟩
 | some p =>
   rw [procF_some hg] at hlk
   obtain ⟨hp, rfl⟩ := getP_some hg
   have hpr := hb.proc p hp
   have hx2 : Ext w ((w.alloc (.cells #[.int .i64 0, .string ⟨#[]⟩, .slice none 0 0, .bool false] 128)).alloc (.cells (procV p (A p.pid)) 128)) := hx.trans (Ext.alloc _ _)
   have hm8 := hb.good.maps p hp
   generalize A p.pid = Ap at hlk hpr hx2
   obtain ⟨pb, ma, mc⟩ := Ap
   have hcl := fun W (k : Ext w W) => clone_i ma mc p.maps W (OwnIs.runI (hpr.2.keep (Keep.of_ext (S := fun _ => True) k) fun _ _ _ _ => trivial)) (by omega)
   have e0 := blk_cell (hx.heap hpr.1) 0 (.int .i64 p.pid) rfl
   have e1 := blk_cell (hx.heap hpr.1) 1 (.string (bs p.unit)) rfl
   have e2 := blk_cell (hx.heap hpr.1) 2 (.slice ma p.maps.length mc) rfl
   have e3 := blk_cell (hx.heap hpr.1) 3 (.bool p.ending) rfl
   have e4 := blk_cell (hx2.heap hpr.1) 2 (.slice ma p.maps.length mc) rfl
   have HG := Lib.hid hg; have HX2 := Lib.hid hx2; have HCL := Lib.hid hcl
   have hszw : pb < w.heap.size := (Array.getElem?_eq_some_iff.1 hpr.1).1
   clear hb hv hh hg hx hx2 hcl hpr hm8 hp
   dsimp only [Option.getD] at hlk
   go_enter Tryz.func68, Tryz.ntmps68
   go_wp2_with (go_at_call 115; refine Hid.out ?_)
   refine Lib.hid ?_
   refine (HCL.out _ HX2.out).mono ?_
   rintro e w3 ⟨a', c', rfl, hO, hx3⟩
   have hz := hx3.heap ((Ext.alloc (w.alloc (.cells #[.int .i64 0, .string ⟨#[]⟩, .slice none 0 0, .bool false] 128)) (.cells (procV p ⟨pb, ma, mc⟩) 128)).heap (heap_alloc_new w (.cells #[.int .i64 0, .string ⟨#[]⟩, .slice none 0 0, .bool false] 128)))
   have hn := hx3.heap (heap_alloc_new (w.alloc (.cells #[.int .i64 0, .string ⟨#[]⟩, .slice none 0 0, .bool false] 128)) (.cells (procV p ⟨pb, ma, mc⟩) 128))
   simp only [World.size_alloc] at hn
   have hz3 := hx3.size
   have g0 := blk_cell hn 0 (.int .i64 p.pid) rfl
   have g1 := blk_cell hn 1 (.string (bs p.unit)) rfl
   have g2 := blk_cell hn 2 (.slice ma p.maps.length mc) rfl
   have g3 := blk_cell hn 3 (.bool p.ending) rfl
   have k2 := blk_free hn 2
   have d0 := blk_cell hz 0 (.int .i64 0) rfl
   have d1 := blk_cell hz 1 (.string ⟨#[]⟩) rfl
   have d2 := blk_cell hz 2 (.slice none 0 0) rfl
   have d3 := blk_cell hz 3 (.bool false) rfl
   have q0 := blk_free hz 0
   have q1 := blk_free hz 1
   have q2 := blk_free hz 2
   have q3 := blk_free hz 3
   have HO := Lib.hid hO; have HZ := Lib.hid hz; have HN := Lib.hid hn
   have HX3 := Lib.hid (HX2.out.trans hx3)
   clear hO hx3 hz hn e0 e1 e2 e3 e4 hlk c1
   have HS2 : Hid (w.heap.size + 2 ≤ ((w.alloc (.cells #[.int .i64 0, .string ⟨#[]⟩, .slice none 0 0, .bool false] 128)).alloc (.cells (procV p ⟨pb, ma, mc⟩) 128)).heap.size) := Lib.hid (by simp)
   generalize ((w.alloc (.cells #[.int .i64 0, .string ⟨#[]⟩, .slice none 0 0, .bool false] 128)).alloc (.cells (procV p ⟨pb, ma, mc⟩) 128)).heap.size = s2 at HO HS2
   generalize hsz : w.heap.size = s at *
   have HSZ := Lib.hid hsz; clear hsz
   go_wp2_with fail
   have hk1 : Keep (· ≠ s + 1) w3 (w3.setCell ⟨s + 1, 2, none⟩ (.slice a' p.maps.length c')) := (Keep.refl _ _).setCell (fun _ h => h) _ _
   have hz1 := hk1.heap (show s ≠ s + 1 by omega) HZ.out
   generalize w3.setCell ⟨s + 1, 2, none⟩ (.slice a' p.maps.length c') = w4 at hk1 hz1 ⊢
   have hz2 := setCell_row (setCell_row (setCell_row (setCell_row hz1 (i := 0) (.int .i64 p.pid)) (i := 1) (.string (bs p.unit))) (i := 2) (.slice a' p.maps.length c')) (i := 3) (.bool p.ending)
   have hk2 : Keep (· ≠ s) w4 ((((w4.setCell ⟨s, 0, none⟩ (.int .i64 p.pid)).setCell ⟨s, 1, none⟩ (.string (bs p.unit))).setCell ⟨s, 2, none⟩ (.slice a' p.maps.length c')).setCell ⟨s, 3, none⟩ (.bool p.ending)) := ((((Keep.refl _ _).setCell (fun _ h => h) _ _).setCell (fun _ h => h) _ _).setCell (fun _ h => h) _ _).setCell (fun _ h => h) _ _
   generalize ((((w4.setCell ⟨s, 0, none⟩ (.int .i64 p.pid)).setCell ⟨s, 1, none⟩ (.string (bs p.unit))).setCell ⟨s, 2, none⟩ (.slice a' p.maps.length c')).setCell ⟨s, 3, none⟩ (.bool p.ending)) = wf at hz2 hk2 ⊢
   clear d0 d1 d2 d3 q0 q1 q2 q3 g0 g1 g2 g3 k2
   have d0 := blk_cell hz2 0 (.int .i64 p.pid) rfl
   have d1 := blk_cell hz2 1 (.string (bs p.unit)) rfl
   have d2 := blk_cell hz2 2 (.slice a' p.maps.length c') rfl
   have d3 := blk_cell hz2 3 (.bool p.ending) rfl
   refine bodyPost_ret (v := .tuple #[.agg #[.int .i64 p.pid, .string (bs p.unit), .slice a' p.maps.length c', .bool p.ending], .bool true]) (by simp [results, Tryz.results68, go_sem, d0, d1, d2, d3]) rfl ?_
   rw [HR.out]
   unfold GotR
   rw [HG.out]
   have hs2 := HS2.out
   have hsz := HSZ.out
   refine ⟨⟨a', c', rfl, ?_⟩, ?_⟩
   · refine OwnIs.low ?_ (by omega : w.heap.size ≤ s2)
     have h1 := HO.out.keep hk1 fun x cs hx _ => by have := (HO.out.block hx).1; show x.block ≠ s + 1; omega
     exact h1.keep hk2 fun x cs hx _ => by have := (HO.out.block hx).1; show x.block ≠ s; omega
   · exact (((Keep.of_ext (S := fun j => j < w.heap.size) HX3.out).andThen hk1 fun j _ hj => by have hj : j < w.heap.size := hj; show j ≠ s + 1; omega).andThen hk2 fun j _ hj => by have hj : j < w.heap.size := hj; show j ≠ s; omega).ext_lt
end
end Go.Proofs.YtefpllpichhojaaGreatDoor
namespace Go.Proofs.YtefpllpichhojaaGreatDoor
open Go.RowKit
variable [Low]
def mgrT : List TypeId := 106 :: 156 :: 108 :: procT
def CellM (X : Nat → Prop) (w : World) (g : Nat) : Prop := g < Low.low ∨ (X g ∧ ((∃ es cl, w.heap[g]? = some (.map es cl)) ∨ ∃ cs t fr, w.heap[g]? = some (.cells cs t fr) ∧ t ∉ volT)) ∨ ∃ cs t fr, w.heap[g]? = some (.cells cs t fr) ∧ t ∉ mgrT
def KeepM (X : Nat → Prop) (w w' : World) : Prop := Keep (CellM X w) w w'
theorem CellM.keep {X : Nat → Prop} {a b : World} {g : Nat} (h : CellM X a g) (k : KeepM X a b) : CellM X b g := by
 have hh := h
 rcases h with hl | ⟨hx, ⟨es, cl, hg⟩ | ⟨cs, t, fr, hg, ht⟩⟩ | ⟨cs, t, fr, hg, ht⟩
 · exact Or.inl hl
 · exact Or.inr (Or.inl ⟨hx, Or.inl ⟨es, cl, Keep.heap k hh hg⟩⟩)
 · exact Or.inr (Or.inl ⟨hx, Or.inr ⟨cs, t, fr, Keep.heap k hh hg, ht⟩⟩)
 · exact Or.inr (Or.inr ⟨cs, t, fr, Keep.heap k hh hg, ht⟩)
theorem KeepM.trans {X : Nat → Prop} {a b c : World} (h : KeepM X a b) (k : KeepM X b c) : KeepM X a c :=
 ⟨k.os.trans h.os, k.tape.trans h.tape, k.output.trans h.output, Nat.le_trans h.size k.size, fun i hi hn => (k.block i (Nat.lt_of_lt_of_le hi h.size) (hn.keep h)).trans (h.block i hi hn)⟩
theorem KeepM.of_ext {X : Nat → Prop} {a b : World} (h : Ext a b) : KeepM X a b := Keep.of_ext h
theorem KeepM.mono {X Y : Nat → Prop} {a b : World} (h : KeepM X a b) (hx : ∀ g, Y g → X g) : KeepM Y a b :=
 Keep.mono h fun g _ hg => hg.imp id fun hg => hg.imp (fun ⟨h1, h2⟩ => ⟨hx g h1, h2⟩) id
theorem KeepM.of_keepP {X Y : Nat → Prop} {a b : World} (h : KeepP Y a b) (hx : ∀ g, X g → Y g) : KeepM X a b :=
 Keep.mono h fun g _ hg => by
  rcases hg with hl | ⟨h1, h2⟩ | ⟨cs, t, fr, hg, ht⟩
  · exact Or.inl hl
  · exact Or.inr (Or.inl ⟨hx g h1, h2⟩)
  · exact Or.inr (Or.inr ⟨cs, t, fr, hg, fun e => ht (List.mem_cons_of_mem _ (List.mem_cons_of_mem _ (List.mem_cons_of_mem _ e)))⟩)
theorem KeepM.of_map {X : Nat → Prop} {a b : World} {m : Nat} {es : Array MapEntry} {cl : Nat} (h : Keep (· ≠ m) a b) (hl : Low.low ≤ m) (hx : ¬ X m) (hm : a.heap[m]? = some (.map es cl)) : KeepM X a b :=
 Keep.mono h fun g _ hg e => by
  have e : g = m := e
  subst e
  rcases hg with hg | ⟨hg, _⟩ | ⟨cs, t, fr, hg, _⟩
  · omega
  · exact hx hg
  · rw [hm] at hg; cases hg
theorem KeepM.of_cells {X : Nat → Prop} {a b : World} {m : Nat} {cs : Array Value} {t : TypeId} {fr : Nat × Nat} (h : Keep (· ≠ m) a b) (hm : a.heap[m]? = some (.cells cs t fr)) (ht : t ∈ mgrT) (hx : ¬ X m) (hl : Low.low ≤ m) : KeepM X a b :=
 Keep.mono h fun g _ hg e => by
  have e : g = m := e
  subst e
  rcases hg with hg | ⟨hg, _⟩ | ⟨cs', t', fr', hg, ht'⟩
  · omega
  · exact hx hg
  · rw [hm] at hg
    injection (Option.some.inj hg) with _ h3
    exact ht' (h3 ▸ ht)
theorem KeepM.low {X : Nat → Prop} {a b : World} (h : KeepM X a b) (hl : Low.low = a.heap.size) : Ext a b := (Keep.mono h (T := fun j => j < a.heap.size) fun g _ hg => Or.inl (by have hg : g < a.heap.size := hg; omega)).ext_lt
theorem EnvL.keepM {X : Nat → Prop} {w w' : World} (h : EnvL w) (k : KeepM X w w') : EnvL w' := h.keep k fun _ hg => Or.inl hg
theorem GraphM.keepM {S X : Nat → Prop} {w w' : World} {gb N : Nat} {g : GraphD} (h : GraphM S w gb N g) (k : KeepM X w w') (hS : ∀ b, S b → X b) : GraphM S w' gb N g :=
 h.keep k fun b hb hk => by
  rcases hk with hk | ⟨cs, t, fr, hk, ht⟩
  · exact Or.inr (Or.inl ⟨hS b hb, Or.inl hk⟩)
  · refine Or.inr (Or.inr ⟨cs, t, fr, hk, ?_⟩)
    rcases ht with rfl | rfl <;> decide
structure StA where
 blk : Nat
 fa : Option Addr
 fc : Nat
def mgrV (tb gb lm : Nat) (la : Option Addr) (ll lc : Nat) : Array Value := #[.pointer (some ⟨tb, 0, none⟩), .pointer (some ⟨gb, 0, none⟩), .map (some lm), .slice la ll lc]
def stV (s : StD) (A : StA) : Array Value := #[.int .i64 (s.st : Nat), .int .i64 s.pid, .slice A.fa s.files.length A.fc, .int .i64 s.tries]
def stF (M : MgrD) (A : Bs → StA) : Bs → Option Value := fun n => (M.list n).map fun _ => .pointer (some ⟨(A n).blk, 0, none⟩)
def evV (x : Nat × Bs) : List Value := [.int .i64 (x.1 : Nat), .string (bs x.2)]
structure MgrB (X : Nat → Prop) (w : World) (mb tb gb lm N : Nat) (la : Option Addr) (lc : Nat) (M : MgrD) (A : Bs → StA) : Prop where
 top : w.heap[mb]? = some (.cells (mgrV tb gb lm la M.log.length lc) 106 (0, 0))
 map : MapF keyS w 9 lm N (stF M A)
 st : ∀ n s, M.list n = some s → w.heap[(A n).blk]? = some (.cells (stV s (A n)) 156 (0, 0)) ∧ OwnS w Low.low (A n).fa (A n).fc s.files ∧ 0 ≤ s.tries ∧ s.tries ≤ (N : Int) ∧ 0 ≤ s.pid ∧ s.pid ≤ (N : Int)
 blk : ∀ n m s t, M.list n = some s → M.list m = some t → (A n).blk = (A m).blk → n = m
 log : w.ownsRow Low.low 108 2 (.slice la M.log.length lc) M.log.length (M.log.flatMap evV)
 out : ¬ X lm ∧ ¬ X mb ∧ (∀ n s, M.list n = some s → ¬ X (A n).blk) ∧ (∀ a, la = some a → ¬ X a.block) ∧ ∀ g, X g → g < w.heap.size
 lows : Low.low ≤ mb ∧ Low.low ≤ lm ∧ ∀ n s, M.list n = some s → Low.low ≤ (A n).blk
 small : ∀ n s, M.list n = some s → n.length ≤ 100000
end Go.Proofs.YtefpllpichhojaaGreatDoor
namespace Go.Proofs.YtefpllpichhojaaGreatDoor
open Go.RowKit
def idxS (p : List UInt8 → Bool) (L : List (List UInt8)) : Int := match L.findIdx? p with
 | none => -1
 | some i => (i : Int)
theorem any_stepS {α : Type} {L : List α} {d : α} {p : α → Bool} {k : Nat} (hk : k < L.length) (h0 : (L.take k).any p = false) (h : p (L.getD k d) = false) : (L.take (k + 1)).any p = false := by
 rw [List.take_succ_eq_append_getElem hk, List.any_append, h0]
 rw [List.getD_eq_getElem?_getD, List.getElem?_eq_getElem hk] at h
 simpa using h
theorem findIdx_none {p : List UInt8 → Bool} {L : List (List UInt8)} (h : L.any p = false) : L.findIdx? p = none := by
 rw [List.findIdx?_eq_none_iff]
 intro x hx
 rw [List.any_eq_false] at h
 simpa using h x hx
theorem findIdx_some {p : List UInt8 → Bool} {L : List (List UInt8)} {k : Nat} (hk : k < L.length) (h : (L.take k).any p = false) (hp : p (L.getD k []) = true) : L.findIdx? p = some k := by
 have e : L.getD k [] = L[k] := by simp [List.getD_eq_getElem?_getD, List.getElem?_eq_getElem hk]
 rw [List.findIdx?_eq_some_iff_getElem]
 refine ⟨hk, by rw [← e]; exact hp, fun j hj => ?_⟩
 rw [List.any_eq_false] at h
 have := h L[j] (List.mem_take_iff_getElem.2 ⟨j, by omega, rfl⟩)
 simpa using this
set_option maxHeartbeats 1600000 in
theorem index_funcS (p : List UInt8 → Bool) (f : Nat) (lb : Array Value) (eg : ∀ args w, (callFunc f args).run Tryz.prog w = .ok (.enter f args) w) (a : Option Addr) (L : List (List UInt8)) (c : Nat) (w : World)
 (hp : ∀ W x, x ∈ L → Ext w W → Calls Tryz.prog f (#[.string (bs x)] ++ lb) W fun e w' => e = .returned (.bool (p x)) ∧ Ext W w') (hM : Strs w a L) (hL : L.length ≤ 1099511627776) :
 Calls Tryz.prog 136 #[.slice a L.length c, .func (.func f) #[] lb] w fun e w' => e = .returned (.int .i64 (idxS p L)) ∧ Ext w w' := by
 obtain ⟨R, hR⟩ : ∃ R : Ending → World → Prop, R = fun e w' => e = .returned (.int .i64 (idxS p L)) ∧ Ext w w' := ⟨_, rfl⟩
 rw [← hR]
 have HR := Lib.hid hR; clear hR
 have HM := Lib.hid hM; clear hM
 have HP := Lib.hid hp; clear hp
 go_enter Tryz.func136, Tryz.ntmps136
 go_wp2_with fail
 go_loopw [8] (fun i wr => ∃ k : Nat, i = .int .i64 k ∧ k ≤ L.length ∧ Hid ((L.take k).any p = false) ∧ Hid (Ext w wr)) (fun i _ => L.length - (intOf i).toNat)
 case atStart => exact ⟨0, rfl, Nat.zero_le _, Lib.hid (by simp), Lib.hid (Ext.refl _)⟩
 case round =>
  obtain ⟨k, rfl, hk, hno, hx⟩ := hrel
  by_cases hlt : k < L.length
  · obtain ⟨g, off, rfl, _, hcs⟩ := (HM.out.ext hx.out).at (by intro e; rw [e] at hlt; simp at hlt)
    have h1 := hcs k hlt
    clear hcs
    obtain ⟨m, hm⟩ : ∃ m, m = L.getD k [] := ⟨_, rfl⟩
    rw [← hm] at h1
    have hmem : m ∈ L := by
     rw [hm, List.getD_eq_getElem?_getD, List.getElem?_eq_getElem hlt]; exact List.getElem_mem hlt
    cases ht : p (L.getD k []) with
    | true =>
      have HH := Lib.hid (findIdx_some hlt hno.out ht)
      have hcl := HP.out wr m hmem hx.out
      have ht2 : p m = true := by rw [hm]; exact ht
      rw [ht2] at hcl
      clear ht ht2 hm hmem
      go_wp2_with (go_at_fn f; refine hcl.mono ?_; rintro e w2 ⟨rfl, hx2⟩; have hx2 := Lib.hid hx2)
      rw [HR.out]
      refine ⟨?_, hx.out.trans hx2.out⟩
      unfold idxS
      rw [HH.out]
      rfl
    | false =>
      have HN := Lib.hid (any_stepS (d := []) (p := p) hlt hno.out ht)
      have hcl := HP.out wr m hmem hx.out
      have ht2 : p m = false := by rw [hm]; exact ht
      rw [ht2] at hcl
      clear ht ht2 hm hmem
      go_wp2_with (go_at_fn f; refine hcl.mono ?_; rintro e w2 ⟨rfl, hx2⟩; have hx2 := Lib.hid hx2)
      go_roundw
      case rel => exact ⟨k + 1, by go_num, by omega, HN, Lib.hid (hx.out.trans hx2.out)⟩
      case measure => simp [intOf]; omega
  · have hkk : k = L.length := by omega
    have hn := hno.out
    rw [hkk, List.take_length] at hn
    have HF := Lib.hid (findIdx_none hn)
    clear hno hn
    go_wp2_with fail
    rw [HR.out]
    refine ⟨?_, hx.out⟩
    unfold idxS
    rw [HF.out]
    rfl
set_option maxHeartbeats 1600000 in
theorem contains_funcS (p : List UInt8 → Bool) (f : Nat) (lb : Array Value) (eg : ∀ args w, (callFunc f args).run Tryz.prog w = .ok (.enter f args) w) (a : Option Addr) (L : List (List UInt8)) (c : Nat) (w : World)
 (hp : ∀ W x, x ∈ L → Ext w W → Calls Tryz.prog f (#[.string (bs x)] ++ lb) W fun e w' => e = .returned (.bool (p x)) ∧ Ext W w') (hM : Strs w a L) (hL : L.length ≤ 1099511627776) :
 Calls Tryz.prog 133 #[.slice a L.length c, .func (.func f) #[] lb] w fun e w' => e = .returned (.bool (L.any p)) ∧ Ext w w' := by
 obtain ⟨R, hR⟩ : ∃ R : Ending → World → Prop, R = fun e w' => e = .returned (.bool (L.any p)) ∧ Ext w w' := ⟨_, rfl⟩
 rw [← hR]
 have HR := Lib.hid hR; clear hR
 have hI := index_funcS p f lb eg a L c w hp hM hL
 obtain ⟨r, hr⟩ : ∃ r, r = idxS p L := ⟨_, rfl⟩
 obtain ⟨b, hb⟩ : ∃ b, b = L.any p := ⟨_, rfl⟩
 rw [← hr] at hI
 rw [← hb] at HR
 have hrb : decide (r ≥ 0) = b ∧ -1 ≤ r := by
  rw [hr, hb]
  unfold idxS
  cases hh : L.findIdx? p with
  | none =>
    rw [List.findIdx?_eq_none_iff] at hh
    refine ⟨?_, Int.le_refl _⟩
    have : L.any p = false := List.any_eq_false.2 fun x hx => by simp [hh x hx]
    rw [this]; rfl
  | some k =>
    obtain ⟨hk, h1, _⟩ := List.findIdx?_eq_some_iff_getElem.1 hh
    have : L.any p = true := List.any_eq_true.2 ⟨L[k], List.getElem_mem hk, h1⟩
    refine ⟨?_, by show (-1 : Int) ≤ (k : Int); omega⟩
    rw [this]
    exact decide_eq_true (by show (0 : Int) ≤ (k : Int); omega)
 obtain ⟨h1, h2⟩ := hrb
 have HI := Lib.hid hI
 clear hI hr hb hp hM
 go_enter Tryz.func133, Tryz.ntmps133
 go_wp2_with (go_at_call 136; refine HI.out.mono ?_; rintro e w1 ⟨rfl, hx1⟩; have hx1 := Lib.hid hx1)
 rw [HR.out]
 exact ⟨rfl, hx1.out⟩
end Go.Proofs.YtefpllpichhojaaGreatDoor
namespace Go.Proofs.YtefpllpichhojaaGreatDoor
open Go.RowKit
theorem ownBlock_some {a : Option Addr} {n c g : Nat} (h : (Value.slice a n c).ownBlock = some g) : ∃ y, a = some y ∧ g = y.block := by
 cases a with
 | none => cases h
 | some y => exact ⟨y, rfl, (Option.some.inj h).symm⟩
section
variable {ops : Array Oper} {o : Oper} {a : Act} {Q : Exit → Act → World → Prop} {W : World}
theorem wp_append_at {P : Program} {K : Act → World → Prop} (s x : Operand) (T E : TypeId) (z : Value) (size bytes : Nat)
 (ho : o.op = .call { callee := .builtin .append, args := #[s, x], argTypes := #[T, T] }) (hT : P.underlying T = some (.slice E)) (hi : (P.info? E).map (fun i => (i.zero, i.size, i.bytes)) = some (some z, size, bytes)) (hz1 : z.cells.size = size) (hsz : 0 < size)
 (base : Nat) (ad : Option Addr) (n cap : Nat) (xs : List Value) (hs : a.eval s = .slice ad n cap) (hown : W.ownsRow base E size (.slice ad n cap) n xs)
 (b : Addr) (m c : Nat) (ys : List Value) (hx : a.eval x = .slice (some b) m c) (hm : ys.length = m * size) (hb : RunM W (some b) ys) (h1 : ∀ u ∈ ys, u.oneCell' = true)
 (h63 : (n + m) * bytes ≤ 140737488355328) (hby : 0 < bytes) (hbase : base ≤ W.heap.size) (t : Nat) (ht : n + m = t)
 (h : ∀ ad' cap' w', w'.ownsRow base E size (.slice ad' t cap') t (xs ++ ys) → Keep (fun k => some k ≠ (Value.slice ad n cap).ownBlock) W w' → (∀ y, ad' = some y → (∃ z, ad = some z ∧ y.block = z.block) ∨ y.block = W.heap.size) → K (a.put o.dst (.slice ad' t cap')) w') : o.wp P a W K Q := by
 obtain ⟨i, hi0, hz, hs1, hb1⟩ := info_parts hi
 subst ht
 have hmax : n + m ≤ maxLen := by
  have : n + m ≤ (n + m) * bytes := Nat.le_mul_of_pos_right _ hby
  unfold maxLen; omega
 have hcells : ∀ j u, ys[j]? = some u → W.cell? (b.add j) = some u := by
  intro j u hj
  rcases hb with hb | ⟨g, off, ha, _, hc⟩
  · subst hb; simp at hj
  · have ha := Option.some.inj ha
    subst ha
    rw [addr_plus]
    exact hc j u hj
 obtain ⟨v', w', hr, h2, h3, h4, h5⟩ := run_append_own_at (P := P) W base T o.type E i z size bytes hT hi0 hz hs1 hb1 hz1 hsz _ n _ hown b m c ys hm hcells h1 hmax h63 hbase
 unfold Oper.wp execOp
 simp only [ho, resolve, invoke, builtin, Sem.run_bind, Sem.run_pure, Result.andThen_ok, List.map_toArray, List.map_cons, List.map_nil, hs, hx, hr]
 obtain ⟨a', c', rfl, _, _, _⟩ := run_of_row h2
 refine h a' c' w' h2 (Keep.of_grown h3) fun y hy => ?_
 subst hy
 rcases h5 with h5 | h5
 · obtain ⟨z, hz, e⟩ := ownBlock_some (h5.symm.trans rfl)
   exact Or.inl ⟨z, hz, e⟩
 · exact Or.inr (Option.some.inj h5)
theorem step_append_at {P : Program} {K : Act → World → Prop} {E' : Prop} (hgd : o.guard = none) (s x : Operand) (T E : TypeId) (z : Value) (size bytes : Nat)
 (ho : o.op = .call { callee := .builtin .append, args := #[s, x], argTypes := #[T, T] }) (hT : P.underlying T = some (.slice E)) (hi : (P.info? E).map (fun i => (i.zero, i.size, i.bytes)) = some (some z, size, bytes)) (hz1 : z.cells.size = size) (hsz : 0 < size)
 (base : Nat) (ad : Option Addr) (n cap : Nat) (xs : List Value) (hs : a.eval s = .slice ad n cap) (hown : W.ownsRow base E size (.slice ad n cap) n xs)
 (b : Addr) (m c : Nat) (ys : List Value) (hx : a.eval x = .slice (some b) m c) (hm : ys.length = m * size) (hb : RunM W (some b) ys) (h1 : ∀ u ∈ ys, u.oneCell' = true)
 (h63 : (n + m) * bytes ≤ 140737488355328) (hby : 0 < bytes) (hbase : base ≤ W.heap.size) (t : Nat) (ht : n + m = t)
 (h : ∀ ad' cap' w', w'.ownsRow base E size (.slice ad' t cap') t (xs ++ ys) → Keep (fun k => some k ≠ (Value.slice ad n cap).ownBlock) W w' → (∀ y, ad' = some y → (∃ z, ad = some z ∧ y.block = z.block) ∨ y.block = W.heap.size) → K (a.put o.dst (.slice ad' t cap')) w') :
 if Region.wanted o (yielded ops a.tmps) = true then Oper.wp P o a W K Q else E' := by
 have hw : Region.wanted o (yielded ops a.tmps) = true := by simp [Region.wanted, hgd]
 rw [if_pos hw]
 exact wp_append_at s x T E z size bytes ho hT hi hz1 hsz base ad n cap xs hs hown b m c ys hx hm hb h1 h63 hby hbase t ht h
theorem wpList_append_at {P : Program} {rest : List Oper} (hgd : o.guard = none) (s x : Operand) (T E : TypeId) (z : Value) (size bytes : Nat)
 (ho : o.op = .call { callee := .builtin .append, args := #[s, x], argTypes := #[T, T] }) (hT : P.underlying T = some (.slice E)) (hi : (P.info? E).map (fun i => (i.zero, i.size, i.bytes)) = some (some z, size, bytes)) (hz1 : z.cells.size = size) (hsz : 0 < size)
 (base : Nat) (ad : Option Addr) (n cap : Nat) (xs : List Value) (hs : a.eval s = .slice ad n cap) (hown : W.ownsRow base E size (.slice ad n cap) n xs)
 (b : Addr) (m c : Nat) (ys : List Value) (hx : a.eval x = .slice (some b) m c) (hm : ys.length = m * size) (hb : RunM W (some b) ys) (h1 : ∀ u ∈ ys, u.oneCell' = true)
 (h63 : (n + m) * bytes ≤ 140737488355328) (hby : 0 < bytes) (hbase : base ≤ W.heap.size) (t : Nat) (ht : n + m = t)
 (h : ∀ ad' cap' w', w'.ownsRow base E size (.slice ad' t cap') t (xs ++ ys) → Keep (fun k => some k ≠ (Value.slice ad n cap).ownBlock) W w' → (∀ y, ad' = some y → (∃ z, ad = some z ∧ y.block = z.block) ∨ y.block = W.heap.size) → wpList P ops Q rest (a.put o.dst (.slice ad' t cap')) w') : wpList P ops Q (o :: rest) a W := by
 refine wpList_plain hgd fun K hK => ?_
 exact wp_append_at s x T E z size bytes ho hT hi hz1 hsz base ad n cap xs hs hown b m c ys hx hm hb h1 h63 hby hbase t ht (fun ad' cap' w' k1 k2 k3 => hK _ _ (h ad' cap' w' k1 k2 k3))
end
end Go.Proofs.YtefpllpichhojaaGreatDoor
namespace Go.Proofs.YtefpllpichhojaaGreatDoor
open Go.RowKit
def uzD : UnitD := ⟨[], [], [], [], [], [], [], 0⟩
def unitC (u : UnitD) (A : Nat → Option Addr) (C : Nat → Nat) : Array Value := #[.string (bs u.name), .slice (A 1) u.files.length (C 1), .slice (A 2) u.after.length (C 2), .slice (A 3) u.before.length (C 3), .slice (A 4) u.reqs.length (C 4), .slice (A 5) u.wants.length (C 5), .slice (A 6) u.partof.length (C 6), .int .i64 u.retry]
def ptr6 (B : Nat) : Array Value := #[.pointer (some ⟨B, 1, none⟩), .pointer (some ⟨B, 2, none⟩), .pointer (some ⟨B, 3, none⟩), .pointer (some ⟨B, 4, none⟩), .pointer (some ⟨B, 5, none⟩), .pointer (some ⟨B, 6, none⟩)]
theorem six_cases {k : Nat} (hk : k < 6) : k = 0 ∨ k = 1 ∨ k = 2 ∨ k = 3 ∨ k = 4 ∨ k = 5 := by omega
theorem ptr6_at (B : Nat) {k : Nat} (hk : k < 6) : (ptr6 B)[k]? = some (.pointer (some ⟨B, k + 1, none⟩)) := by
 rcases six_cases hk with rfl | rfl | rfl | rfl | rfl | rfl <;> rfl
theorem unitC_at (u : UnitD) (A : Nat → Option Addr) (C : Nat → Nat) {k : Nat} (hk : k < 6) : (unitC u A C)[k + 1]? = some (.slice (A (k + 1)) (u.row (k + 1)).length (C (k + 1))) := by
 rcases six_cases hk with rfl | rfl | rfl | rfl | rfl | rfl <;> rfl
theorem unitC_set (u : UnitD) (A : Nat → Option Addr) (C : Nat → Nat) {k : Nat} (hk : k < 6) (a : Option Addr) (c : Nat) : (unitC u A C).setIfInBounds (k + 1) (.slice a (u.row (k + 1)).length c) = unitC u (fun f => if f = k + 1 then a else A f) (fun f => if f = k + 1 then c else C f) := by
 rcases six_cases hk with rfl | rfl | rfl | rfl | rfl | rfl <;> rfl
def CloneU (u : UnitD) (w : World) (e : Ending) (w' : World) : Prop :=
 ∃ A C, e = .returned (unitV u A C) ∧ (∀ f, 1 ≤ f → f ≤ 6 → OwnS w' w.heap.size (A f) (C f) (u.row f) ∧ (u.row f).length ≤ C f) ∧ Ext w w'
theorem OwnS.keep {S : Nat → Prop} {w w' : World} {base c : Nat} {a : Option Addr} {L : List Bs} (h : OwnS w base a c L) (k : Keep S w w') (hS : ∀ g cs, w.heap[g]? = some (.cells cs 9 (0, 0)) → S g) : OwnS w' base a c L :=
 ownsRow_keep h k (fun g cur _ _ hg => hS g cur hg)
set_option maxRecDepth 100000 in
set_option maxHeartbeats 3200000 in
theorem graph_clone (u : UnitD) (A : Nat → Option Addr) (C : Nat → Nat) (w : World) (hU : UnitR w u A) (hl : ∀ f, 1 ≤ f → f ≤ 6 → (u.row f).length ≤ 100000) :
 Calls Tryz.prog 90 #[unitV u A C] w (CloneU u w) := by
 obtain ⟨R, hR⟩ : ∃ R, R = CloneU u w := ⟨_, rfl⟩
 rw [← hR]
 have HR := Lib.hid hR; clear hR
 have HU := Lib.hid hU; have HL := Lib.hid hl; clear hU hl
 unfold unitV
 go_enter Tryz.func90, Tryz.ntmps90
 go_wp2_with fail
 have hb0 := (Ext.alloc _ (.cells (ptr6 w.heap.size) 225)).heap ((Ext.alloc _ (.cells (unitC uzD (fun _ => none) (fun _ => 0)) 84)).heap (heap_alloc_new w (.cells (unitC u A C) 84)))
 have hb1 := (Ext.alloc _ (.cells (ptr6 w.heap.size) 225)).heap (heap_alloc_new (w.alloc (.cells (unitC u A C) 84)) (.cells (unitC uzD (fun _ => none) (fun _ => 0)) 84))
 have hb2 := heap_alloc_new ((w.alloc (.cells (unitC u A C) 84)).alloc (.cells (unitC uzD (fun _ => none) (fun _ => 0)) 84)) (.cells (ptr6 w.heap.size) 225)
 have hx : Ext w (((w.alloc (.cells (unitC u A C) 84)).alloc (.cells (unitC uzD (fun _ => none) (fun _ => 0)) 84)).alloc (.cells (ptr6 w.heap.size) 225)) := ((Ext.alloc _ _).trans (Ext.alloc _ _)).trans (Ext.alloc _ _)
 simp only [World.size_alloc] at hb1 hb2
 obtain ⟨w2, hw2⟩ : ∃ w2, w2 = ((w.alloc (.cells (unitC u A C) 84)).alloc (.cells (unitC uzD (fun _ => none) (fun _ => 0)) 84)).alloc (.cells (ptr6 w.heap.size) 225) := ⟨_, rfl⟩
 rw [← hw2] at hb0 hb1 hb2 hx
 have hsz : w2.heap.size = w.heap.size + 3 := by rw [hw2]; simp
 have HB0 := Lib.hid hb0; have HB1 := Lib.hid hb1; have HB2 := Lib.hid hb2; have HX := Lib.hid hx; have HW2 := Lib.hid hw2; have HSZ := Lib.hid hsz
 clear hb0 hb1 hb2 hx hw2 hsz
 obtain ⟨B, hB⟩ : ∃ B, B = w.heap.size := ⟨_, rfl⟩
 have HBB := Lib.hid hB
 rw [← hB] at HB0 HB1 HB2 HSZ HW2 ⊢
 clear hB
 go_loopw [13] (fun i wr => ∃ (k : Nat) (A1 : Nat → Option Addr) (C1 : Nat → Nat), i = .int .i64 k ∧ k ≤ 6 ∧ Hid (wr.heap[B]? = some (.cells (unitC u A1 C1) 84 (0, 0))) ∧ Hid (∀ f, k < f → f ≤ 6 → A1 f = A f ∧ C1 f = C f) ∧ Hid (∀ f, 1 ≤ f → f ≤ k → OwnS wr B (A1 f) (C1 f) (u.row f) ∧ (u.row f).length ≤ C1 f) ∧ Hid (Keep (· ≠ B) w2 wr)) (fun i _ => 6 - (intOf i).toNat)
 case atStart => exact ⟨0, A, C, rfl, by omega, Lib.hid (by have h := HB0.out; rw [HW2.out] at h; exact h), Lib.hid fun f _ _ => ⟨rfl, rfl⟩, Lib.hid fun f h1 h2 => by omega, Lib.hid (show Keep (· ≠ B) w2 (((w.alloc (.cells (unitC u A C) 84)).alloc (.cells (unitC uzD (fun _ => none) (fun _ => 0)) 84)).alloc (.cells (ptr6 B) 225)) from HW2.out ▸ Keep.refl _ _)⟩
 case round =>
  obtain ⟨k, A1, C1, rfl, hk, hb, ho, hn, hkp⟩ := hrel
  by_cases hlt : k < 6
  · have h2 := hkp.out.heap (show B + 2 ≠ B by omega) HB2.out
    have c2 := blk_cell h2 k _ (ptr6_at B hlt)
    have c0 := blk_cell hb.out (k + 1) _ (unitC_at u A1 C1 hlt)
    obtain ⟨e1, e2⟩ := ho.out (k + 1) (by omega) (by omega)
    rw [e1, e2] at c0
    have hs := HU.out (k + 1) (by omega) (by omega)
    have hl := HL.out (k + 1) (by omega) (by omega)
    have hBB := HBB.out
    have hrun := strs_runS.1 (hs.ext (((Keep.of_ext (S := (· < w.heap.size)) HX.out).trans (hkp.out.mono fun g _ hg => by have hg : g < w.heap.size := hg; show g ≠ B; omega)).ext_lt))
    clear hBB
    obtain ⟨L, hL⟩ : ∃ L, L = u.row (k + 1) := ⟨_, rfl⟩
    rw [← hL] at c0 hrun hl
    have HLL := Lib.hid hL
    clear hL hs e1 e2 h2
    generalize A (k + 1) = ak at c0 hrun
    generalize C (k + 1) = ck at c0
    have hcl := clone_ts ak ck L wr hrun hl
    have HCL := Lib.hid hcl; clear hcl hrun
    go_wp2_with (go_at_call 88; refine HCL.out.mono ?_; rintro e w3 ⟨a', c', rfl, hO, hc', hx3⟩; have hb3 := hx3.heap hb.out; have f3 := blk_free hb3 (k + 1); have c3 := blk_cell hb3 (k + 1) _ (unitC_at u A1 C1 hlt); have HB3 := Lib.hid hb3; have HO := Lib.hid hO; have HC := Lib.hid hc'; have HX3 := Lib.hid hx3; clear hb3 hO hc' hx3)
    go_roundw
    case rel =>
     have hk1 : Keep (· ≠ B) w3 (w3.setCell ⟨B, k + 1, none⟩ (.slice a' L.length c')) := (Keep.refl _ _).setCell (fun _ h => h) _ _
     have hrow := setCell_row (i := k + 1) HB3.out (.slice a' L.length c')
     have hne : ∀ g cs, w3.heap[g]? = some (.cells cs 9 (0, 0)) → g ≠ B := fun g cs hg e => by
      rw [e, HB3.out] at hg
      injection (Option.some.inj hg) with _ h3
      exact absurd h3 (by decide)
     refine ⟨k + 1, fun f => if f = k + 1 then a' else A1 f, fun f => if f = k + 1 then c' else C1 f, by go_num, by omega, Lib.hid ?_, Lib.hid fun f h1 h6 => ?_, Lib.hid fun f h1 h6 => ?_, Lib.hid ((hkp.out.trans (Keep.of_ext HX3.out)).trans hk1)⟩
     · rw [hrow, HLL.out, unitC_set u A1 C1 hlt]
     · dsimp only
       rw [if_neg (by omega), if_neg (by omega)]
       exact ho.out f (by omega) h6
     · dsimp only
       by_cases hf : f = k + 1
       · subst hf
         rw [if_pos rfl, if_pos rfl, ← HLL.out]
         exact ⟨(HO.out.keep hk1 hne).base2 (by have := hkp.out.size; have := HSZ.out; omega), HC.out⟩
       · rw [if_neg hf, if_neg hf]
         have := hn.out f h1 (by omega)
         exact ⟨(this.1.ext HX3.out).keep hk1 hne, this.2⟩
    case measure => simp [intOf]; omega
  · have hk6 : k = 6 := by omega
    subst hk6
    have h1 := hkp.out.heap (show B + 1 ≠ B by omega) HB1.out
    have hb0 := hb.out
    unfold unitC at h1 hb0
    have d0 := blk_cell hb0 0 _ rfl
    have d1 := blk_cell hb0 1 _ rfl
    have d2 := blk_cell hb0 2 _ rfl
    have d3 := blk_cell hb0 3 _ rfl
    have d4 := blk_cell hb0 4 _ rfl
    have d5 := blk_cell hb0 5 _ rfl
    have d6 := blk_cell hb0 6 _ rfl
    have d7 := blk_cell hb0 7 _ rfl
    have b0 := blk_cell h1 0 _ rfl
    have b1 := blk_cell h1 1 _ rfl
    have b2 := blk_cell h1 2 _ rfl
    have b3 := blk_cell h1 3 _ rfl
    have b4 := blk_cell h1 4 _ rfl
    have b5 := blk_cell h1 5 _ rfl
    have b6 := blk_cell h1 6 _ rfl
    have b7 := blk_cell h1 7 _ rfl
    have f0 := blk_free h1 0
    have f1 := blk_free h1 1
    have f2 := blk_free h1 2
    have f3 := blk_free h1 3
    have f4 := blk_free h1 4
    have f5 := blk_free h1 5
    have f6 := blk_free h1 6
    have f7 := blk_free h1 7
    have H1 := Lib.hid h1
    clear h1 hb0
    go_wp2_with fail
    have hs8 := set8 H1.out (.string (bs u.name)) (.slice (A1 1) u.files.length (C1 1)) (.slice (A1 2) u.after.length (C1 2)) (.slice (A1 3) u.before.length (C1 3)) (.slice (A1 4) u.reqs.length (C1 4)) (.slice (A1 5) u.wants.length (C1 5)) (.slice (A1 6) u.partof.length (C1 6)) (.int .i64 u.retry)
    obtain ⟨hs8, hbut⟩ := hs8
    generalize ((((((((wr.setCell ⟨B + 1, 0, none⟩ (.string (bs u.name))).setCell ⟨B + 1, 1, none⟩ (.slice (A1 1) u.files.length (C1 1))).setCell ⟨B + 1, 2, none⟩ (.slice (A1 2) u.after.length (C1 2))).setCell ⟨B + 1, 3, none⟩ (.slice (A1 3) u.before.length (C1 3))).setCell ⟨B + 1, 4, none⟩ (.slice (A1 4) u.reqs.length (C1 4))).setCell ⟨B + 1, 5, none⟩ (.slice (A1 5) u.wants.length (C1 5))).setCell ⟨B + 1, 6, none⟩ (.slice (A1 6) u.partof.length (C1 6))).setCell ⟨B + 1, 7, none⟩ (.int .i64 u.retry)) = wf at hs8 hbut ⊢
    have z0 := blk_cell hs8 0 _ rfl
    have z1 := blk_cell hs8 1 _ rfl
    have z2 := blk_cell hs8 2 _ rfl
    have z3 := blk_cell hs8 3 _ rfl
    have z4 := blk_cell hs8 4 _ rfl
    have z5 := blk_cell hs8 5 _ rfl
    have z6 := blk_cell hs8 6 _ rfl
    have z7 := blk_cell hs8 7 _ rfl
    refine bodyPost_ret (v := unitV u A1 C1) (by simp [results, Tryz.results90, go_sem, z0, z1, z2, z3, z4, z5, z6, z7, unitV]) rfl ?_
    rw [HR.out]
    have hBB := HBB.out
    have hsz := HSZ.out
    have hkb := Keep.of_but hbut
    refine ⟨A1, C1, rfl, fun f h1 h6 => ?_, ?_⟩
    · have := hn.out f h1 h6
      rw [← hBB]
      refine ⟨this.1.keep hkb fun g cs hg e => ?_, this.2⟩
      have e : g = B + 1 := e
      rw [e, H1.out] at hg
      injection (Option.some.inj hg) with _ h3
      exact absurd h3 (by decide)
    · exact (((Keep.of_ext (S := (· < w.heap.size)) HX.out).trans (hkp.out.mono fun g _ hg => by have hg : g < w.heap.size := hg; show g ≠ B; omega)).trans (hkb.mono fun g _ hg => by have hg : g < w.heap.size := hg; show g ≠ B + 1; omega)).ext_lt
end Go.Proofs.YtefpllpichhojaaGreatDoor
