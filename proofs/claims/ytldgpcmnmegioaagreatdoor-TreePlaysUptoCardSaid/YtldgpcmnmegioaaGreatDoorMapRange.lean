/- A range over a map of one's own: what is still to come. -/
import Derived.Test.YtldgpcmnmegioaaGreatDoorMaps
import Derived.Maps.RangeWalk
import Derived.Maps.OwnOps
namespace Go.Proofs.YtldgpcmnmegioaaGreatDoor
open Go.RowKit
theorem Keep.andThen {S T : Nat → Prop} {a b c : World} (h : Keep S a b) (k : Keep T b c) (hT : ∀ j, j < a.heap.size → S j → T j) : Keep S a c :=
  ⟨k.os.trans h.os, k.tape.trans h.tape, k.output.trans h.output, Nat.le_trans h.size k.size, fun j hj hS => (k.block j (Nat.lt_of_lt_of_le hj h.size) (hT j hj hS)).trans (h.block j hj hS)⟩
/-- A range over a map is under way. -/
def MapG {α : Type} (c : α → Lit) (w : World) (k : TypeId) (b r n : Nat) (f : α → Option Value) (left : α → Bool) (cnt : Nat) : Prop :=
  ∃ (D : DataW Value) (lf : Lit → Bool), w.ranges Tryz.prog k selfR b r n D lf cnt ∧ Maps.IsMap D ∧ (∀ x, (∀ z : Value, D.atKey (c x) (.held z) = .held ((f x).getD z)) ∧ Maps.has D (c x) = (f x).isSome) ∧ ∀ x, lf (c x) = left x ∧ (left x = true → (f x).isSome = true)
section
variable {α : Type} {c : α → Lit} {w : World} {k : TypeId} {b r n cnt : Nat} {f : α → Option Value} {left : α → Bool}
theorem MapG.map (h : MapG c w k b r n f left cnt) : MapF c w k b n f := by
  obtain ⟨D, lf, h1, h2, h3, h4⟩ := h
  exact ⟨D, h1.owns, h2, h3⟩
theorem MapG.count (h : MapG c w k b r n f left cnt) : w.rangeLeft b r = cnt := by
  obtain ⟨D, lf, h1, _⟩ := h
  exact h1.left_eq
theorem MapG.ne (h : MapG c w k b r n f left cnt) : r ≠ b := by
  obtain ⟨D, lf, h1, _⟩ := h
  exact h1.ne
theorem MapG.lt (h : MapG c w k b r n f left cnt) : r < w.heap.size := by
  obtain ⟨D, lf, h1, _⟩ := h
  exact h1.lt
theorem MapG.keep {S : Nat → Prop} {w' : World} (h : MapG c w k b r n f left cnt) (kp : Keep S w w') (hb : S b) (hr : S r) : MapG c w' k b r n f left cnt := by
  have hrl := h.lt
  have hbl := h.map.lt
  obtain ⟨D, lf, h1, h2, h3, h4⟩ := h
  refine ⟨D, lf, ?_, h2, h3, h4⟩
  obtain ⟨es, clock, since, seen, c0, g1, g2, g3, g4, g5, g6⟩ := h1
  exact ⟨es, clock, since, seen, c0, (kp.block b hbl hb).trans g1, g2, g3, g4, (kp.block r hrl hr).trans g5, g6⟩
theorem MapG.ext {w' : World} (h : MapG c w k b r n f left cnt) (kp : Ext w w') : MapG c w' k b r n f left cnt := h.keep (Keep.of_ext (S := fun _ => True) kp) trivial trivial
theorem MapG.cnt_le (h : MapG c w k b r n f left cnt) : cnt ≤ n := by
  obtain ⟨D, lf, h1, _⟩ := h
  obtain ⟨es, clock, since, seen, c0, g1, g2, g3, g4, g5, g6, g7, _⟩ := h1
  have : (leftOf es seen).size ≤ es.size := Array.size_filter_le
  omega
variable {ops : Array Oper} {rest : List Oper} {o : Oper} {a : Act} {Q : Exit → Act → World → Prop}
/-- 'range m'. -/
theorem wpList_range_F (hg : o.guard = none) (m : Operand) (t : TypeId) (hop : o.op = Op.range t m) (e : TypeId) (K : Maps.Keyed Tryz.prog k) (ht : Tryz.prog.underlying t = some (.map k e))
    (b n : Nat) (f : α → Option Value) (hm : a.eval m = .map (some b)) (h : MapF c w k b n f)
    (hK : ∀ w' cnt, MapG c w' k b w.heap.size n f (fun x => (f x).isSome) cnt → Ext w w' → w'.heap.size = w.heap.size + 1 → wpList Tryz.prog ops Q rest (a.put o.dst (.pointer (some ⟨w.heap.size, 0, none⟩))) w') :
    wpList Tryz.prog ops Q (o :: rest) a w := by
  obtain ⟨D, h1, h2, h3⟩ := h
  refine wpList_range_own _ hg m t hop k e K ht selfR b n D hm h1 ?_
  intro w' r1 r2 r3
  exact hK w' _ ⟨D, Maps.has D, r1, h2, h3, fun x => ⟨(h3 x).2, fun h => h⟩⟩ ⟨r2.os, r2.tape, r2.output, r2.size, fun j hj => r2.block j hj (by simp)⟩ r3
/-- The step. -/
theorem wpList_next_F [DecidableEq α] (hg : o.guard = none) (it : Operand) (hop : o.op = Op.next it false) (K : Maps.Keyed Tryz.prog k) (mk : α → Value) (hc : ∀ x y, c x = c y → x = y)
    (inv : ∀ key kl, keyOf Tryz.prog k key = some kl → ∃ x, key = mk x ∧ kl = c x) (b r n : Nat) (f : α → Option Value) (left : α → Bool) (cnt : Nat)
    (hit : a.eval it = .pointer (some ⟨r, 0, none⟩)) (h : MapG c w k b r n f left cnt)
    (hDone : (∀ x, left x = false) → wpList Tryz.prog ops Q rest (a.put o.dst (.tuple #[.bool false])) w)
    (hMore : ∀ (x : α) (v : Value) (w' : World) (cnt' : Nat), keyOf Tryz.prog k (mk x) = some (c x) → left x = true → f x = some v → MapG c w' k b r n f (fun z => left z && !decide (z = x)) cnt' → cnt' < cnt → Keep (· ≠ r) w w' → w'.heap.size = w.heap.size →
      (Instr.entry (.pointer (some ⟨r, 0, none⟩))).run Tryz.prog w' = .ok (.tuple #[mk x, v]) w' → wpList Tryz.prog ops Q rest (a.put o.dst (.tuple #[.bool true, mk x, v])) w') :
    wpList Tryz.prog ops Q (o :: rest) a w := by
  obtain ⟨D, lf, h1, h2, h3, h4⟩ := h
  refine wpList_next_ranges _ hg it hop k K selfR (id : Value → Value) (id : Value → Value) (fun key _ _ => ⟨key, rfl⟩) (fun v _ _ => ⟨v, rfl⟩) b r n D lf cnt hit h1 ?_ ?_
  · intro _ hl
    exact hDone fun x => by rw [← (h4 x).1]; exact hl _
  · intro key v kl y w' cnt' hkey hlk hv hat hrg hlt hgr hsz hen
    obtain ⟨x, rfl, rfl⟩ := inv key kl hkey
    have hlx : left x = true := by rw [← (h4 x).1]; exact hlk
    have hy : y = (.held v, []) := (Option.some.inj hv).symm
    have hfx : f x = some v := by
      obtain ⟨u, hu⟩ := Option.isSome_iff_exists.1 ((h4 x).2 hlx)
      have e1 := (h3 x).1 v
      rw [hat (.held v), hy, hu] at e1
      rw [hu]
      exact congrArg some (DataW.held.inj e1).symm
    have hself : (c x).sameKey (c x) = true := WideAt.sameKey_self (K.key hkey)
    refine hMore x v w' cnt' hkey hlx hfx ⟨D, _, hrg, h2, h3, fun z => ?_⟩ hlt ((Keep.of_grown hgr).mono (fun j _ hj => by intro e; exact hj (by injection e))) hsz hen
    by_cases hz : z = x
    · subst hz
      rw [hself]
      simp
    · have hne : (c z).sameKey (c x) = false := Maps.sameKey_ne (fun e => hz (hc _ _ e))
      rw [hne]
      simp only [decide_eq_false hz, Bool.not_false, Bool.and_true]
      exact h4 z
end
section
variable {α : Type} {c : α → Lit} {w : World} {k : TypeId} {b n : Nat} {f : α → Option Value} {ops : Array Oper} {rest : List Oper} {o : Oper} {a : Act} {Q : Exit → Act → World → Prop}
/-- 'm[k] = v'. -/
theorem wpList_store_F [DecidableEq α] (hg : o.guard = none) (m x v : Operand) (t : TypeId) (hop : o.op = Op.mapUpdate t m x v) (e : TypeId) (K : Maps.Keyed Tryz.prog k) (ht : Tryz.prog.underlying t = some (.map k e))
    (b n : Nat) (f : α → Option Value) (hm : a.eval m = .map (some b)) (h : MapF c w k b n f) (hn : n < maxLen) (hc : ∀ x y, c x = c y → x = y) (key val : Value) (kl : α) (hx : a.eval x = key) (hv : a.eval v = val) (hkey : keyOf Tryz.prog k key = some (c kl))
    (hK : ∀ w', MapF c w' k b (n + 1) (fun z => if z = kl then some val else f z) → Keep (· ≠ b) w w' → wpList Tryz.prog ops Q rest (a.put o.dst undef) w') :
    wpList Tryz.prog ops Q (o :: rest) a w := by
  refine wpList_plain hg fun K' hK' => ?_
  obtain ⟨w', hrun, r1, r2⟩ := h.store K ht hn hc val hkey
  unfold Oper.wp
  simp [execOp, hop, hm, hx, hv, hrun, Result.andThen]
  exact hK' _ _ (hK w' r1 r2)
/-- 'm[k]'. -/
theorem wpList_look_F (hg : o.guard = none) (m x : Operand) (t : TypeId) (hop : o.op = Op.lookup t m x false) (e : TypeId) (K : Maps.Keyed Tryz.prog k) (ht : Tryz.prog.underlying t = some (.map k e)) (z : Value) (hz : (zeroValue e).run Tryz.prog w = .ok z w)
    (b n : Nat) (f : α → Option Value) (hm : a.eval m = .map (some b)) (h : MapF c w k b n f) (key : Value) (kl : α) (hx : a.eval x = key) (hkey : keyOf Tryz.prog k key = some (c kl))
    (hK : wpList Tryz.prog ops Q rest (a.put o.dst ((f kl).getD z)) w) :
    wpList Tryz.prog ops Q (o :: rest) a w := by
  refine wpList_plain hg fun K' hK' => ?_
  have hrun := h.lookup K ht hz hkey
  unfold Oper.wp
  simp [execOp, hop, hm, hx, hrun, Result.andThen]
  exact hK' _ _ hK
/-- 'v, ok := m[k]'. -/
theorem wpList_lookOk_F (hg : o.guard = none) (m x : Operand) (t : TypeId) (hop : o.op = Op.lookup t m x true) (e : TypeId) (K : Maps.Keyed Tryz.prog k) (ht : Tryz.prog.underlying t = some (.map k e)) (z : Value) (hz : (zeroValue e).run Tryz.prog w = .ok z w)
    (b n : Nat) (f : α → Option Value) (hm : a.eval m = .map (some b)) (h : MapF c w k b n f) (key : Value) (kl : α) (hx : a.eval x = key) (hkey : keyOf Tryz.prog k key = some (c kl))
    (hK : wpList Tryz.prog ops Q rest (a.put o.dst (.tuple #[(f kl).getD z, .bool (f kl).isSome])) w) :
    wpList Tryz.prog ops Q (o :: rest) a w := by
  refine wpList_plain hg fun K' hK' => ?_
  have hrun := h.look_ok K ht hz hkey
  unfold Oper.wp
  simp [execOp, hop, hm, hx, hrun, Result.andThen]
  exact hK' _ _ hK
end
theorem inv_strP {P : Program} {k : TypeId} (hk : P.underlying k = some .string) : ∀ key kl, keyOf P k key = some kl → ∃ x : List UInt8, key = .string (bs x) ∧ kl = .string x := by
  intro key kl h
  have h' : mapKey P k key = some kl := by
    unfold keyOf at h
    rw [hk] at h
    exact h
  unfold mapKey at h'
  rw [hk] at h'
  cases key with
  | string s =>
    simp only at h'
    split at h'
    · exact ⟨s.data.toList, by rw [bs_of], (Option.some.inj h').symm⟩
    · cases h'
  | _ => simp at h'
theorem inv_str : ∀ key kl, keyOf Tryz.prog 9 key = some kl → ∃ x : List UInt8, key = .string (bs x) ∧ kl = .string x := inv_strP Tryz.underlying9
/-- How names are written as keys. -/
def keyS (x : List UInt8) : Lit := .string x
theorem keyS_inj (x y : List UInt8) (h : keyS x = keyS y) : x = y := by unfold keyS at h; exact Lit.string.inj h
theorem MapF.block {α : Type} {c : α → Lit} {w : World} {k : TypeId} {b n : Nat} {f : α → Option Value} (h : MapF c w k b n f) : ∃ es cl, w.heap[b]? = some (.map es cl) := by
  obtain ⟨D, ⟨es, cl, hb, _⟩, _⟩ := h
  exact ⟨es, cl, hb⟩
theorem key_by {x : List UInt8} (hx : x.length ≤ 100000) : keyOf Tryz.prog 9 (.string (bs x)) = some (keyS x) := by
  have := key_str (bs x) (by rw [bs_size]; unfold maxLen; omega)
  rw [bs_data] at this
  exact this
theorem wpList_look_run {w : World} {ops : Array Oper} {rest : List Oper} {o : Oper} {a : Act} {Q : Exit → Act → World → Prop} (hg : o.guard = none) (m x : Operand) (t : TypeId) (b : Bool) (hop : o.op = Op.lookup t m x b) (mv key r : Value) (hm : a.eval m = mv) (hx : a.eval x = key)
    (hrun : (Instr.lookup t mv key b).run Tryz.prog w = .ok r w) (hK : wpList Tryz.prog ops Q rest (a.put o.dst r) w) : wpList Tryz.prog ops Q (o :: rest) a w := by
  refine wpList_plain hg fun K' hK' => ?_
  unfold Oper.wp
  simp [execOp, hop, hm, hx, hrun, Result.andThen]
  exact hK' _ _ hK
theorem wpList_delete_F {α : Type} {c : α → Lit} {w : World} {k : TypeId} {ops : Array Oper} {rest : List Oper} {o : Oper} {a : Act} {Q : Exit → Act → World → Prop} [DecidableEq α] (hg : o.guard = none) (m x : Operand) (t : TypeId) (hop : o.op = Op.call { callee := Callee.builtin Builtin.delete, args := #[m, x], argTypes := #[t, k] }) (e : TypeId) (K : Maps.Keyed Tryz.prog k) (ht : Tryz.prog.underlying t = some (.map k e))
    (b n : Nat) (f : α → Option Value) (hm : a.eval m = .map (some b)) (h : MapF c w k b n f) (hc : ∀ x y, c x = c y → x = y) (key : Value) (kl : α) (hx : a.eval x = key) (hkey : keyOf Tryz.prog k key = some (c kl))
    (hK : ∀ w', MapF c w' k b n (fun z => if z = kl then none else f z) → Keep (· ≠ b) w w' → wpList Tryz.prog ops Q rest (a.put o.dst (.tuple #[])) w') :
    wpList Tryz.prog ops Q (o :: rest) a w := by
  refine wpList_plain hg fun K' hK' => ?_
  obtain ⟨w', hrun, r1, r2⟩ := h.drop K ht hc hkey o.type
  unfold Oper.wp
  simp [execOp, hop, resolve, invoke, builtin, hm, hx, hrun, Result.andThen]
  exact hK' _ _ (hK w' r1 r2)
end Go.Proofs.YtldgpcmnmegioaaGreatDoor
