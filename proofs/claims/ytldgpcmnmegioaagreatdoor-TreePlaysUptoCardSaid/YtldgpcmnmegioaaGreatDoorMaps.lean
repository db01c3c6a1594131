/- Maps that a call makes: what they have at a key. -/
import Derived.Test.YtldgpcmnmegioaaGreatDoorM3
import Derived.Maps.OwnSet
import Derived.Maps.Keyed
namespace Go.Proofs.YtldgpcmnmegioaaGreatDoor
open Go.RowKit
/-- An element reads as itself. -/
def selfR : Value → Option (DataW Value × List MemPlace) := fun v => some (.held v, [])
/-- A block is a map: what it has at each key (c: how keys are written); n: how many entries at most. -/
def MapF {α : Type} (c : α → Lit) (w : World) (k : TypeId) (b n : Nat) (f : α → Option Value) : Prop :=
  ∃ D : DataW Value, w.ownsMap Tryz.prog k selfR b n D ∧ Maps.IsMap D ∧ ∀ x, (∀ z : Value, D.atKey (c x) (.held z) = .held ((f x).getD z)) ∧ Maps.has D (c x) = (f x).isSome
section
variable {α : Type} {c : α → Lit} {w : World} {k : TypeId} {b n : Nat} {f : α → Option Value}
theorem MapF.lt (h : MapF c w k b n f) : b < w.heap.size := by obtain ⟨D, h1, _⟩ := h; exact h1.lt
theorem MapF.made (c : α → Lit) (w : World) (k : TypeId) : MapF c (w.alloc (.map #[] 0)) k w.heap.size 0 (fun _ => none) :=
  ⟨_, World.ownsMap_made w _ k selfR, Maps.isMap_empty, fun _ => ⟨fun _ => rfl, rfl⟩⟩
theorem MapF.keep {S : Nat → Prop} {w' : World} (h : MapF c w k b n f) (kp : Keep S w w') (hS : S b) : MapF c w' k b n f := by
  obtain ⟨D, h1, h2, h3⟩ := h
  have hb := h1.lt
  obtain ⟨es, clock, g1, g2, g3, g4⟩ := h1
  exact ⟨D, ⟨es, clock, (kp.block b hb hS).trans g1, g2, g3, g4⟩, h2, h3⟩
theorem MapF.ext {w' : World} (h : MapF c w k b n f) (kp : Ext w w') : MapF c w' k b n f := h.keep (Keep.of_ext (S := fun _ => True) kp) trivial
theorem MapF.same {g : α → Option Value} (h : MapF c w k b n f) (e : f = g) : MapF c w k b n g := e ▸ h
theorem MapF.mono {m : Nat} (h : MapF c w k b n f) (hm : n ≤ m) : MapF c w k b m f := by
  obtain ⟨D, h1, h2⟩ := h; exact ⟨D, h1.mono hm, h2⟩
/-- 'm[k]'. -/
theorem MapF.lookup {t e : TypeId} {z : Value} (h : MapF c w k b n f) (K : Maps.Keyed Tryz.prog k) (ht : Tryz.prog.underlying t = some (.map k e)) (hz : (zeroValue e).run Tryz.prog w = .ok z w) {key : Value} {kl : α} (hkey : keyOf Tryz.prog k key = some (c kl)) :
    (Instr.lookup t (.map (some b)) key false).run Tryz.prog w = .ok ((f kl).getD z) w := by
  obtain ⟨D, h1, h2, h3⟩ := h
  obtain ⟨v, ps, hr, hv⟩ := h1.lookup K ht hz (zd := .held z) (zp := []) rfl hkey
  rw [hr]
  have : DataW.held v = D.atKey (c kl) (.held z) := (Prod.mk.inj (Option.some.inj hv)).1
  rw [(h3 kl).1 z] at this
  rw [DataW.held.inj this]
/-- 'v, ok := m[k]'. -/
theorem MapF.look_ok {t e : TypeId} {z : Value} (h : MapF c w k b n f) (K : Maps.Keyed Tryz.prog k) (ht : Tryz.prog.underlying t = some (.map k e)) (hz : (zeroValue e).run Tryz.prog w = .ok z w) {key : Value} {kl : α} (hkey : keyOf Tryz.prog k key = some (c kl)) :
    (Instr.lookup t (.map (some b)) key true).run Tryz.prog w = .ok (.tuple #[(f kl).getD z, .bool (f kl).isSome]) w := by
  obtain ⟨D, h1, h2, h3⟩ := h
  obtain ⟨v, ps, hr, hv⟩ := h1.look_ok K ht hz (zd := .held z) (zp := []) rfl hkey
  rw [hr, (h3 kl).2]
  have : DataW.held v = D.atKey (c kl) (.held z) := (Prod.mk.inj (Option.some.inj hv)).1
  rw [(h3 kl).1 z] at this
  rw [DataW.held.inj this]
/-- 'm[k] = v'. -/
theorem MapF.store {t e : TypeId} (h : MapF c w k b n f) (K : Maps.Keyed Tryz.prog k) (ht : Tryz.prog.underlying t = some (.map k e)) (hn : n < maxLen) (hc : ∀ x y, c x = c y → x = y) [DecidableEq α] {key : Value} (v : Value) {kl : α} (hkey : keyOf Tryz.prog k key = some (c kl)) :
    ∃ w', (Instr.mapUpdate t (.map (some b)) key v).run Tryz.prog w = .ok () w' ∧ MapF c w' k b (n + 1) (fun x => if x = kl then some v else f x) ∧ Keep (· ≠ b) w w' := by
  obtain ⟨D, h1, h2, h3⟩ := h
  obtain ⟨w', hr, ho, hg⟩ := h1.update K ht hn hkey (val := v) (d := .held v) (ps := []) rfl
  refine ⟨w', hr, ⟨_, ho, h2.put _ _, fun x => ?_⟩, (Keep.of_grown hg).mono (fun k _ hk => by intro e; exact hk (by injection e))⟩
  by_cases hx : x = kl
  · subst hx
    simp only [if_true]
    exact ⟨fun z => Maps.atKey_put_same h2 (K.key hkey) _ _, Maps.has_put_same h2 (K.key hkey) _⟩
  · simp only [if_neg hx]
    exact ⟨fun z => by rw [Maps.atKey_put_other (fun e => hx (hc _ _ e))]; exact (h3 x).1 z, by rw [Maps.has_put_other (fun e => hx (hc _ _ e))]; exact (h3 x).2⟩
/-- 'delete(m, k)'. -/
theorem MapF.drop {t e : TypeId} (h : MapF c w k b n f) (K : Maps.Keyed Tryz.prog k) (ht : Tryz.prog.underlying t = some (.map k e)) (hc : ∀ x y, c x = c y → x = y) [DecidableEq α] {key : Value} {kl : α} (hkey : keyOf Tryz.prog k key = some (c kl)) (ty : TypeId) :
    ∃ w', (Builtin.delete_ #[t, k] ty #[.map (some b), key]).run Tryz.prog w = .ok (.tuple #[]) w' ∧ MapF c w' k b n (fun x => if x = kl then none else f x) ∧ Keep (· ≠ b) w w' := by
  obtain ⟨D, h1, h2, h3⟩ := h
  obtain ⟨w', hr, ho, hg⟩ := h1.drop K ht hkey ty
  refine ⟨w', hr, ⟨_, ho, h2.del _, fun x => ?_⟩, (Keep.of_grown hg.grown).mono (fun k _ hk => by intro e; exact hk (by injection e))⟩
  by_cases hx : x = kl
  · subst hx
    simp only [if_true]
    exact ⟨fun z => Maps.atKey_del_same _, Maps.has_del_same⟩
  · simp only [if_neg hx]
    exact ⟨fun z => by rw [Maps.atKey_del_other (fun e => hx (hc _ _ e))]; exact (h3 x).1 z, by rw [Maps.has_del_other (fun e => hx (hc _ _ e))]; exact (h3 x).2⟩
end
theorem str_keyed : Maps.Keyed Tryz.prog 9 := Maps.string_keyed Tryz.underlying9
theorem key_str (s : ByteArray) (hs : s.size ≤ maxLen) : keyOf Tryz.prog 9 (.string s) = some (.string s.data.toList) := by
  unfold keyOf
  rw [Tryz.underlying9]
  simp [mapKey, Tryz.underlying9, hs]
end Go.Proofs.YtldgpcmnmegioaaGreatDoor
