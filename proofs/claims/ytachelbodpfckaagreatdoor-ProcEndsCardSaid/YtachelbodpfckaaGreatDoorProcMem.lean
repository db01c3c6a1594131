/- What runs, in memory. -/
import Derived.Test.YtachelbodpfckaaGreatDoorM11
import Derived.Test.YtachelbodpfckaaGreatDoorProcSpec
import Derived.Test.YtachelbodpfckaaGreatDoorM8
namespace Go.Proofs.YtachelbodpfckaaGreatDoor
open Go.RowKit
variable [Low]
structure EnvL (w : World) : Prop where
 env : Env w
 low : 0 < Low.low
theorem EnvL.keep {S : Nat → Prop} {w w' : World} (h : EnvL w) (k : Keep S w w') (hS : ∀ g, g < Low.low → S g) : EnvL w' := by
 obtain ⟨m, cs, hh, hc⟩ := h.env.word
 exact ⟨⟨m, cs, k.heap (hS _ h.low) hh, hc⟩, h.low⟩
theorem EnvL.ext {w w' : World} (h : EnvL w) (k : Ext w w') : EnvL w' := ⟨h.env.ext k, h.low⟩
theorem EnvL.keepX {ts : List TypeId} {X : Nat → Prop} {w w' : World} (h : EnvL w) (k : KeepX ts X w w') : EnvL w' := h.keep k fun _ hg => Or.inl hg
theorem EnvL.keepY {X : Nat → Prop} {w w' : World} (h : EnvL w) (k : KeepY X w w') : EnvL w' := h.keepX k
def procT : List TypeId := 79 :: 68 :: 3 :: volT
def CellP (X : Nat → Prop) (w : World) (g : Nat) : Prop := g < Low.low ∨ (X g ∧ ((∃ es cl, w.heap[g]? = some (.map es cl)) ∨ ∃ cs t fr, w.heap[g]? = some (.cells cs t fr) ∧ t ∉ volT)) ∨ ∃ cs t fr, w.heap[g]? = some (.cells cs t fr) ∧ t ∉ procT
def KeepP (X : Nat → Prop) (w w' : World) : Prop := Keep (CellP X w) w w'
theorem CellP.keep {X : Nat → Prop} {a b : World} {g : Nat} (h : CellP X a g) (k : KeepP X a b) : CellP X b g := by
 have hh := h
 rcases h with hl | ⟨hx, ⟨es, cl, hg⟩ | ⟨cs, t, fr, hg, ht⟩⟩ | ⟨cs, t, fr, hg, ht⟩
 · exact Or.inl hl
 · exact Or.inr (Or.inl ⟨hx, Or.inl ⟨es, cl, Keep.heap k hh hg⟩⟩)
 · exact Or.inr (Or.inl ⟨hx, Or.inr ⟨cs, t, fr, Keep.heap k hh hg, ht⟩⟩)
 · exact Or.inr (Or.inr ⟨cs, t, fr, Keep.heap k hh hg, ht⟩)
theorem KeepP.refl (X : Nat → Prop) (w : World) : KeepP X w w := Keep.refl _ _
theorem KeepP.trans {X : Nat → Prop} {a b c : World} (h : KeepP X a b) (k : KeepP X b c) : KeepP X a c :=
 ⟨k.os.trans h.os, k.tape.trans h.tape, k.output.trans h.output, Nat.le_trans h.size k.size, fun i hi hn => (k.block i (Nat.lt_of_lt_of_le hi h.size) (hn.keep h)).trans (h.block i hi hn)⟩
theorem KeepP.of_ext {X : Nat → Prop} {a b : World} (h : Ext a b) : KeepP X a b := Keep.of_ext h
theorem KeepP.mono {X Y : Nat → Prop} {a b : World} (h : KeepP X a b) (hx : ∀ g, Y g → X g) : KeepP Y a b :=
 Keep.mono h fun g _ hg => hg.imp id fun hg => hg.imp (fun ⟨h1, h2⟩ => ⟨hx g h1, h2⟩) id
theorem KeepP.of_keepY {X Y : Nat → Prop} {a b : World} (h : KeepY Y a b) (hx : ∀ g, X g → Y g) : KeepP X a b :=
 Keep.mono h fun g _ hg => by
  rcases hg with hl | ⟨h1, ⟨es, cl, hg⟩ | ⟨cs, t, fr, hg, ht⟩⟩ | ⟨cs, t, fr, hg, ht⟩
  · exact Or.inl hl
  · exact Or.inr (Or.inl ⟨hx g h1, es, cl, hg⟩)
  · exact Or.inr (Or.inr ⟨cs, t, fr, hg, ht⟩)
  · exact Or.inr (Or.inr ⟨cs, t, fr, hg, fun e => ht (List.mem_cons_of_mem _ (List.mem_cons_of_mem _ (List.mem_cons_of_mem _ e)))⟩)
theorem KeepP.of_map {X : Nat → Prop} {a b : World} {m : Nat} {es : Array MapEntry} {cl : Nat} (h : Keep (· ≠ m) a b) (hl : Low.low ≤ m) (hx : ¬ X m) (hm : a.heap[m]? = some (.map es cl)) : KeepP X a b :=
 Keep.mono h fun g _ hg e => by
  have e : g = m := e
  subst e
  rcases hg with hg | ⟨hg, _⟩ | ⟨cs, t, fr, hg, _⟩
  · omega
  · exact hx hg
  · rw [hm] at hg; cases hg
theorem KeepP.of_cells {X : Nat → Prop} {a b : World} {m : Nat} {cs : Array Value} {t : TypeId} {fr : Nat × Nat} (h : Keep (· ≠ m) a b) (hm : a.heap[m]? = some (.cells cs t fr)) (ht : t ∈ procT) (hx : ¬ X m) (hl : Low.low ≤ m) : KeepP X a b :=
 Keep.mono h fun g _ hg e => by
  have e : g = m := e
  subst e
  rcases hg with hg | ⟨hg, _⟩ | ⟨cs', t', fr', hg, ht'⟩
  · omega
  · exact hx hg
  · rw [hm] at hg
    injection (Option.some.inj hg) with _ h3
    exact ht' (h3 ▸ ht)
theorem KeepP.cells {X : Nat → Prop} {a b : World} (h : KeepP X a b) {g : Nat} {cs : Array Value} {t : TypeId} {fr : Nat × Nat} (hg : a.heap[g]? = some (.cells cs t fr)) (hx : X g) (ht : t ∉ volT) : b.heap[g]? = some (.cells cs t fr) :=
 Keep.heap h (Or.inr (Or.inl ⟨hx, Or.inr ⟨cs, t, fr, hg, ht⟩⟩)) hg
theorem EnvL.keepP {X : Nat → Prop} {w w' : World} (h : EnvL w) (k : KeepP X w w') : EnvL w' := h.keep k fun _ hg => Or.inl hg
def AndM (X : Nat → Prop) (pm : Nat) : Nat → Prop := fun g => X g ∨ g = pm
structure ProcA where
 blk : Nat
 ma : Option Addr
 mc : Nat
def tabV (vb pm : Nat) (next : Int) : Array Value := #[.iface 24 (.pointer (some ⟨vb, 0, none⟩)), .map (some pm), .int .i64 next]
def procV (p : ProcD) (A : ProcA) : Array Value := #[.int .i64 p.pid, .string (bs p.unit), .slice A.ma p.maps.length A.mc, .bool p.ending]
def procF (P : TabD) (A : Int → ProcA) : Int → Option Value := fun i => (getP P i).map fun _ => .pointer (some ⟨(A i).blk, 0, none⟩)
structure ProcB (X : Nat → Prop) (w : World) (tb pm vb N : Nat) (P : TabD) (A : Int → ProcA) : Prop where
 top : w.heap[tb]? = some (.cells (tabV vb pm P.next) 79 (0, 0))
 map : MapF keyI w 3 pm N (procF P A)
 proc : ∀ p ∈ P.list, w.heap[(A p.pid).blk]? = some (.cells (procV p (A p.pid)) 68 (0, 0)) ∧ OwnIs w Low.low (A p.pid).ma (A p.pid).mc p.maps
 blk : ∀ p ∈ P.list, ∀ q ∈ P.list, (A p.pid).blk = (A q.pid).blk → p.pid = q.pid
 row : ∀ p ∈ P.list, ∀ q ∈ P.list, ∀ a b, (A p.pid).ma = some a → (A q.pid).ma = some b → a.block = b.block → p.pid = q.pid
 good : GoodP P
 out : ¬ X pm ∧ (∀ p ∈ P.list, ∀ a, (A p.pid).ma = some a → ¬ X a.block) ∧ ∀ g, X g → g < w.heap.size
 lows : Low.low ≤ tb ∧ Low.low ≤ pm ∧ ∀ p ∈ P.list, Low.low ≤ (A p.pid).blk
 ids : ∀ p ∈ P.list, ∀ i ∈ p.maps, 0 ≤ i ∧ i ≤ 1000000000
 next : P.next ≤ (N : Int)
 apart : ¬ X tb ∧ ∀ p ∈ P.list, ¬ X (A p.pid).blk
def SysP (X : Nat → Prop) (w : World) (tb vb db kb n N off top : Nat) (q : Int) (F : FileS) (P : TabD) : Prop :=
 ∃ pm A, ProcB X w tb pm vb N P A ∧ VolK (AndM X pm) w vb db kb n N off top q F.m F.hd ∧ HeldBy F P
end Go.Proofs.YtachelbodpfckaaGreatDoor
