/- Cells one behind the other, of elements of whatever size; append of such elements, the source nil, empty or not. -/
import Derived.Test.YtlpjmkkinlcbnaaGreatDoorM1
import Derived.Test.YtlpjmkkinlcbnaaGreatDoorMapKeys
import Derived.Test.YtlpjmkkinlcbnaaGreatDoorBytes
import Derived.Maps.AppendAt
namespace Go.Proofs.YtlpjmkkinlcbnaaGreatDoor
open Go.RowKit
theorem runM_of {α : Type} {F : α → List Value} {m : Nat} (hm : ∀ x, (F x).length = m) (hp : 0 < m) {w : World} {g off : Nat} (hg : g < w.heap.size) {L : List α}
    (h : ∀ i (hi : i < L.length) r u, (F L[i])[r]? = some u → w.cell? ⟨g, off + i * m + r, none⟩ = some u) : RunM w (some ⟨g, off, none⟩) (L.flatMap F) := by
  refine Or.inr ⟨g, off, rfl, hg, fun j u hj => ?_⟩
  have hjl := (List.getElem?_eq_some_iff.1 hj).1
  rw [flat_lenm hm] at hjl
  have hi : j / m < L.length := Nat.div_lt_of_lt_mul (by rw [Nat.mul_comm]; exact hjl)
  have e := flat_at hm L (j / m) (j % m) hi (Nat.mod_lt _ hp)
  have ej : j / m * m + j % m = j := Nat.div_add_mod' j m
  rw [ej, hj] at e
  have := h (j / m) hi (j % m) u e.symm
  rwa [show off + j / m * m + j % m = off + j by omega] at this
theorem of_runM {α : Type} {F : α → List Value} {m : Nat} (hm : ∀ x, (F x).length = m) (hp : 0 < m) {w : World} {a : Option Addr} {L : List α} (h : RunM w a (L.flatMap F)) :
    L = [] ∨ ∃ g off, a = some ⟨g, off, none⟩ ∧ g < w.heap.size ∧ ∀ i (hi : i < L.length) r u, r < m → (F L[i])[r]? = some u → w.cell? ⟨g, off + i * m + r, none⟩ = some u := by
  rcases h with h | ⟨g, off, ha, hg, hc⟩
  · left
    have := flat_lenm hm L
    rw [h] at this
    have h0 : L.length * m = 0 := this.symm
    rcases Nat.mul_eq_zero.1 h0 with h1 | h1
    · exact List.eq_nil_of_length_eq_zero h1
    · omega
  · refine Or.inr ⟨g, off, ha, hg, fun i hi r u hr hu => ?_⟩
    have := hc (i * m + r) u (by rw [flat_at hm L i r hi hr]; exact hu)
    rwa [← Nat.add_assoc] at this
theorem row_apart {w : World} {base E size n : Nat} {v : Value} {xs : List Value} (h : w.ownsRow base E size v n xs) {k : Nat} {cur : Array Value} {E' : TypeId} {fr : Nat × Nat} (hk : w.heap[k]? = some (.cells cur E' fr)) (hE : E ≠ E') : some k ≠ v.ownBlock := by
  intro e
  rcases h.2 with ⟨h1, _⟩ | ⟨g, c, cur', h1, _, hg, _⟩
  · rw [h1] at e; cases e
  · rw [h1] at e
    have e' : k = g := Option.some.inj e
    subst e'
    rw [hg] at hk
    injection (Option.some.inj hk) with _ h2
    exact hE h2
/-- A row that was made with nothing in it. -/
theorem row_zero {w : World} {base E size g : Nat} (hg : w.heap[g]? = some (.cells #[] E (0, 0))) (hb : base ≤ g) : w.ownsRow base E size (.slice (some ⟨g, 0, none⟩) 0 0) 0 [] :=
  ⟨by simp, Or.inr ⟨g, 0, #[], rfl, hb, hg, Nat.le_refl _, Nat.zero_le _, by simp, by simp⟩⟩
theorem run_blk {w : World} {g : Nat} {us : List Value} {t : TypeId} (h : w.heap[g]? = some (.cells us.toArray t (0, 0))) : RunM w (some ⟨g, 0, none⟩) us :=
  Or.inr ⟨g, 0, rfl, (Array.getElem?_eq_some_iff.1 h).1, fun j u hj => by rw [Nat.zero_add]; exact blk_cell h j u (by simpa using hj)⟩
theorem addr_plus (g off n : Nat) : (⟨g, off, none⟩ : Addr).add n = ⟨g, off + n, none⟩ := by
  unfold Addr.add; split
  · rename_i h; rw [h, Nat.add_zero]
  · rfl
section
variable {ops : Array Oper} {o : Oper} {a : Act} {Q : Exit → Act → World → Prop} {W : World}
theorem wp_append_any {P : Program} {K : Act → World → Prop} (s x : Operand) (T E : TypeId) (z : Value) (size bytes : Nat)
    (ho : o.op = .call { callee := .builtin .append, args := #[s, x], argTypes := #[T, T] }) (hT : P.underlying T = some (.slice E)) (hi : (P.info? E).map (fun i => (i.zero, i.size, i.bytes)) = some (some z, size, bytes)) (hz1 : z.cells.size = size) (hsz : 0 < size)
    (base : Nat) (ad : Option Addr) (n cap : Nat) (xs : List Value) (hs : a.eval s = .slice ad n cap) (hown : W.ownsRow base E size (.slice ad n cap) n xs)
    (b : Option Addr) (m c : Nat) (ys : List Value) (hx : a.eval x = .slice b m c) (hm : ys.length = m * size) (hb : RunM W b ys) (h1 : ∀ u ∈ ys, u.oneCell' = true)
    (h63 : (n + m) * bytes ≤ 140737488355328) (hby : 0 < bytes) (hbase : base ≤ W.heap.size) (t : Nat) (ht : n + m = t)
    (h : ∀ ad' cap' w', w'.ownsRow base E size (.slice ad' t cap') t (xs ++ ys) → Keep (fun k => some k ≠ (Value.slice ad n cap).ownBlock) W w' → Below base W w' → K (a.put o.dst (.slice ad' t cap')) w') : o.wp P a W K Q := by
  obtain ⟨i, hi0, hz, hs1, hb1⟩ := info_parts hi
  subst ht
  have hmax : n + m ≤ maxLen := by
    have : n + m ≤ (n + m) * bytes := Nat.le_mul_of_pos_right _ hby
    unfold maxLen; omega
  cases b with
  | none =>
    have hp : ys = [] := by
      rcases hb with hb | ⟨g, off, ha, _⟩
      · exact hb
      · cases ha
    subst hp
    have hm0 : m = 0 := by
      rcases Nat.mul_eq_zero.1 hm.symm with h | h
      · exact h
      · omega
    subst hm0
    have hr := run_append_of_nil (P := P) W base T o.type E i size hT hi0 _ n _ hown c
    unfold Oper.wp execOp
    simp only [ho, resolve, invoke, builtin, Sem.run_bind, Sem.run_pure, Result.andThen_ok, List.map_toArray, List.map_cons, List.map_nil, hs, hx, hr]
    have := h ad cap W (by simpa using hown) (Keep.refl _ _) (Below.refl _ _)
    rw [Nat.add_zero] at this
    exact this
  | some bd =>
    have hcells : ∀ j u, ys[j]? = some u → W.cell? (bd.add j) = some u := by
      intro j u hj
      rcases hb with hb | ⟨g, off, ha, _, hc⟩
      · subst hb; simp at hj
      · have ha := Option.some.inj ha
        subst ha
        rw [addr_plus]
        exact hc j u hj
    obtain ⟨v', w', hr, h2, h3, h4⟩ := run_append_own (P := P) W base T o.type E i z size bytes hT hi0 hz hs1 hb1 hz1 hsz _ n _ hown bd m c ys hm hcells h1 hmax h63 hbase
    have hbel : Below base W w' := (Below.refl _ _).grown h3 hbase (fun k hk => (World.ownsRow.lt hown k hk).1)
    unfold Oper.wp execOp
    simp only [ho, resolve, invoke, builtin, Sem.run_bind, Sem.run_pure, Result.andThen_ok, List.map_toArray, List.map_cons, List.map_nil, hs, hx, hr]
    obtain ⟨a', c', rfl, _, _, _⟩ := run_of_row h2
    exact h a' c' w' h2 (Keep.of_grown h3) hbel
theorem wpList_append_any {P : Program} {rest : List Oper} (hgd : o.guard = none) (s x : Operand) (T E : TypeId) (z : Value) (size bytes : Nat)
    (ho : o.op = .call { callee := .builtin .append, args := #[s, x], argTypes := #[T, T] }) (hT : P.underlying T = some (.slice E)) (hi : (P.info? E).map (fun i => (i.zero, i.size, i.bytes)) = some (some z, size, bytes)) (hz1 : z.cells.size = size) (hsz : 0 < size)
    (base : Nat) (ad : Option Addr) (n cap : Nat) (xs : List Value) (hs : a.eval s = .slice ad n cap) (hown : W.ownsRow base E size (.slice ad n cap) n xs)
    (b : Option Addr) (m c : Nat) (ys : List Value) (hx : a.eval x = .slice b m c) (hm : ys.length = m * size) (hb : RunM W b ys) (h1 : ∀ u ∈ ys, u.oneCell' = true)
    (h63 : (n + m) * bytes ≤ 140737488355328) (hby : 0 < bytes) (hbase : base ≤ W.heap.size) (t : Nat) (ht : n + m = t)
    (h : ∀ ad' cap' w', w'.ownsRow base E size (.slice ad' t cap') t (xs ++ ys) → Keep (fun k => some k ≠ (Value.slice ad n cap).ownBlock) W w' → Below base W w' → wpList P ops Q rest (a.put o.dst (.slice ad' t cap')) w') : wpList P ops Q (o :: rest) a W := by
  refine wpList_plain hgd fun K hK => ?_
  exact wp_append_any s x T E z size bytes ho hT hi hz1 hsz base ad n cap xs hs hown b m c ys hx hm hb h1 h63 hby hbase t ht (fun ad' cap' w' k1 k2 k3 => hK _ _ (h ad' cap' w' k1 k2 k3))
theorem step_append_any {P : Program} {K : Act → World → Prop} {E' : Prop} (hgd : o.guard = none) (s x : Operand) (T E : TypeId) (z : Value) (size bytes : Nat)
    (ho : o.op = .call { callee := .builtin .append, args := #[s, x], argTypes := #[T, T] }) (hT : P.underlying T = some (.slice E)) (hi : (P.info? E).map (fun i => (i.zero, i.size, i.bytes)) = some (some z, size, bytes)) (hz1 : z.cells.size = size) (hsz : 0 < size)
    (base : Nat) (ad : Option Addr) (n cap : Nat) (xs : List Value) (hs : a.eval s = .slice ad n cap) (hown : W.ownsRow base E size (.slice ad n cap) n xs)
    (b : Option Addr) (m c : Nat) (ys : List Value) (hx : a.eval x = .slice b m c) (hm : ys.length = m * size) (hb : RunM W b ys) (h1 : ∀ u ∈ ys, u.oneCell' = true)
    (h63 : (n + m) * bytes ≤ 140737488355328) (hby : 0 < bytes) (hbase : base ≤ W.heap.size) (t : Nat) (ht : n + m = t)
    (h : ∀ ad' cap' w', w'.ownsRow base E size (.slice ad' t cap') t (xs ++ ys) → Keep (fun k => some k ≠ (Value.slice ad n cap).ownBlock) W w' → Below base W w' → K (a.put o.dst (.slice ad' t cap')) w') :
    if Region.wanted o (yielded ops a.tmps) = true then Oper.wp P o a W K Q else E' := by
  have hw : Region.wanted o (yielded ops a.tmps) = true := by simp [Region.wanted, hgd]
  rw [if_pos hw]
  exact wp_append_any s x T E z size bytes ho hT hi hz1 hsz base ad n cap xs hs hown b m c ys hx hm hb h1 h63 hby hbase t ht h
end
theorem runM_keep {S : Nat → Prop} {w w' : World} {a : Option Addr} {us : List Value} (h : RunM w a us) (k : Keep S w w') (hS : ∀ ad, a = some ad → S ad.block) : RunM w' a us := by
  rcases h with h | ⟨g, off, ha, hg, hc⟩
  · exact Or.inl h
  · exact Or.inr ⟨g, off, ha, Nat.lt_of_lt_of_le hg k.size, fun j u hj => k.cell (hS _ ha) (hc j u hj)⟩
theorem set2f {w : World} {R : Nat} {t : TypeId} {a0 a1 : Value} (hg : w.heap[R]? = some (.cells #[a0, a1] t (0, 0))) (v0 v1 : Value) :
    ((w.setCell ⟨R, 0, none⟩ v0).setCell ⟨R, 1, none⟩ v1).heap[R]? = some (.cells #[v0, v1] t (0, 0)) ∧ But R w ((w.setCell ⟨R, 0, none⟩ v0).setCell ⟨R, 1, none⟩ v1) :=
  ⟨setCell_row (setCell_row hg v0) v1, ((But.refl R w).setCell 0 _).setCell 1 _⟩
theorem apart_types {w : World} {k l : Nat} {cur cur' : Array Value} {E E' : TypeId} {fr fr' : Nat × Nat} (h : w.heap[k]? = some (.cells cur E fr)) (h' : w.heap[l]? = some (.cells cur' E' fr')) (hE : E ≠ E') : k ≠ l := by
  intro e
  subst e
  rw [h'] at h
  injection (Option.some.inj h) with _ h2
  exact hE h2.symm
end Go.Proofs.YtlpjmkkinlcbnaaGreatDoor
