/- 'append(out, xs...)' onto a row of the call's own, one cell an element: the source nil, empty or not. -/
import Derived.Test.YtnclibfhbngkjaaGreatDoorParts
namespace Go.Proofs.YtnclibfhbngkjaaGreatDoor
open Go.RowKit
section
variable {ops : Array Oper} {o : Oper} {a : Act} {Q : Exit → Act → World → Prop} {W : World}
theorem wp_append_row {P : Program} {K : Act → World → Prop} (s x : Operand) (T E : TypeId) (z : Value) (bytes : Nat)
    (ho : o.op = .call { callee := .builtin .append, args := #[s, x], argTypes := #[T, T] }) (hT : P.underlying T = some (.slice E)) (hi : (P.info? E).map (fun i => (i.zero, i.size, i.bytes)) = some (some z, 1, bytes)) (hz1 : z.cells.size = 1)
    (base : Nat) (ad : Option Addr) (n cap : Nat) (xs : List Value) (hs : a.eval s = .slice ad n cap) (hown : W.ownsRow base E 1 (.slice ad n cap) n xs)
    (b : Option Addr) (m c : Nat) (ys : List Value) (hx : a.eval x = .slice b m c) (hm : ys.length = m) (hb : Row (fun _ => True) W b ys) (h1 : ∀ u ∈ ys, u.oneCell' = true)
    (h63 : n + m ≤ 1099511627776) (hbytes : bytes ≤ 128) (hbase : base ≤ W.heap.size)
    (t : Nat) (ht : n + m = t) (h : ∀ ad' cap' w', w'.ownsRow base E 1 (.slice ad' t cap') t (xs ++ ys) → Keep (fun k => some k ≠ (Value.slice ad n cap).ownBlock) W w' → Below base W w' → K (a.put o.dst (.slice ad' t cap')) w') : o.wp P a W K Q := by
  obtain ⟨i, hi0, hz, hsz, hby⟩ := info_parts hi
  subst hm ht
  cases b with
  | none =>
    have hp : ys = [] := by
      rcases hb with hb | ⟨g, off, ha, _⟩
      · exact hb
      · cases ha
    subst hp
    have hr := run_append_of_nil (P := P) W base T o.type E i 1 hT hi0 _ n _ hown c
    unfold Oper.wp execOp
    simp only [ho, resolve, invoke, builtin, Sem.run_bind, Sem.run_pure, Result.andThen_ok, List.map_toArray, List.map_cons, List.map_nil, hs, hx, List.length_nil, hr]
    have := h ad cap W (by simpa using hown) (Keep.refl _ _) (Below.refl _ _)
    rw [List.length_nil, Nat.add_zero] at this
    exact this
  | some bd =>
    have hcells : ∀ j u, ys[j]? = some u → W.cell? (bd.add j) = some u := by
      intro j u hj
      rcases hb with hb | ⟨g, off, ha, _, _, hc⟩
      · subst hb; simp at hj
      · have ha := Option.some.inj ha
        subst ha
        have hj' : j < ys.length := (List.getElem?_eq_some_iff.1 hj).1
        rw [addr_add, hc j hj', hj]
    obtain ⟨v', w', hr, h2, h3, h4⟩ := run_append_own (P := P) W base T o.type E i z 1 bytes hT hi0 hz hsz hby hz1 (by decide) _ n _ hown bd ys.length c ys (by simp) hcells h1
      (by unfold maxLen; omega) (by have : (n + ys.length) * bytes ≤ 1099511627776 * 128 := Nat.mul_le_mul h63 hbytes
                                    omega) hbase
    have hbel : Below base W w' := (Below.refl _ _).grown h3 hbase (fun k hk => (World.ownsRow.lt hown k hk).1)
    unfold Oper.wp execOp
    simp only [ho, resolve, invoke, builtin, Sem.run_bind, Sem.run_pure, Result.andThen_ok, List.map_toArray, List.map_cons, List.map_nil, hs, hx, hr]
    rcases h2.2 with ⟨h5, h6⟩ | ⟨g, cap', cur, rfl, hg1, hg2, hg3, hg4⟩
    · subst h5
      have e := h none 0 w' (by
        have hn : n + ys.length = 0 := h6
        rw [hn] at h2 ⊢; exact h2) (Keep.of_grown h3) hbel
      rwa [h6] at e
    · exact h (some ⟨g, 0, none⟩) cap' w' h2 (Keep.of_grown h3) hbel
theorem step_append_row {P : Program} {K : Act → World → Prop} {E' : Prop} (hgd : o.guard = none) (s x : Operand) (T E : TypeId) (z : Value) (bytes : Nat)
    (ho : o.op = .call { callee := .builtin .append, args := #[s, x], argTypes := #[T, T] }) (hT : P.underlying T = some (.slice E)) (hi : (P.info? E).map (fun i => (i.zero, i.size, i.bytes)) = some (some z, 1, bytes)) (hz1 : z.cells.size = 1)
    (base : Nat) (ad : Option Addr) (n cap : Nat) (xs : List Value) (hs : a.eval s = .slice ad n cap) (hown : W.ownsRow base E 1 (.slice ad n cap) n xs)
    (b : Option Addr) (m c : Nat) (ys : List Value) (hx : a.eval x = .slice b m c) (hm : ys.length = m) (hb : Row (fun _ => True) W b ys) (h1 : ∀ u ∈ ys, u.oneCell' = true)
    (h63 : n + m ≤ 1099511627776) (hbytes : bytes ≤ 128) (hbase : base ≤ W.heap.size)
    (t : Nat) (ht : n + m = t) (h : ∀ ad' cap' w', w'.ownsRow base E 1 (.slice ad' t cap') t (xs ++ ys) → Keep (fun k => some k ≠ (Value.slice ad n cap).ownBlock) W w' → Below base W w' → K (a.put o.dst (.slice ad' t cap')) w') :
    if Region.wanted o (yielded ops a.tmps) = true then Oper.wp P o a W K Q else E' := by
  have hw : Region.wanted o (yielded ops a.tmps) = true := by simp [Region.wanted, hgd]
  rw [if_pos hw]
  exact wp_append_row s x T E z bytes ho hT hi hz1 base ad n cap xs hs hown b m c ys hx hm hb h1 h63 hbytes hbase t ht h
theorem append_row {P : Program} {rest : List Oper} (hgd : o.guard = none) (s x : Operand) (T E : TypeId) (z : Value) (bytes : Nat)
    (ho : o.op = .call { callee := .builtin .append, args := #[s, x], argTypes := #[T, T] }) (hT : P.underlying T = some (.slice E)) (hi : (P.info? E).map (fun i => (i.zero, i.size, i.bytes)) = some (some z, 1, bytes)) (hz1 : z.cells.size = 1)
    (base : Nat) (ad : Option Addr) (n cap : Nat) (xs : List Value) (hs : a.eval s = .slice ad n cap) (hown : W.ownsRow base E 1 (.slice ad n cap) n xs)
    (b : Option Addr) (m c : Nat) (ys : List Value) (hx : a.eval x = .slice b m c) (hm : ys.length = m) (hb : Row (fun _ => True) W b ys) (h1 : ∀ u ∈ ys, u.oneCell' = true)
    (h63 : n + m ≤ 1099511627776) (hbytes : bytes ≤ 128) (hbase : base ≤ W.heap.size)
    (t : Nat) (ht : n + m = t) (h : ∀ ad' cap' w', w'.ownsRow base E 1 (.slice ad' t cap') t (xs ++ ys) → Keep (fun k => some k ≠ (Value.slice ad n cap).ownBlock) W w' → Below base W w' → wpList P ops Q rest (a.put o.dst (.slice ad' t cap')) w') : wpList P ops Q (o :: rest) a W :=
  wpList_plain hgd fun _ hK => wp_append_row s x T E z bytes ho hT hi hz1 base ad n cap xs hs hown b m c ys hx hm hb h1 h63 hbytes hbase t ht fun ad' cap' w' h1 h2 h3 => hK _ _ (h ad' cap' w' h1 h2 h3)
end
section
variable {ops : Array Oper} {o : Oper} {a : Act} {Q : Exit → Act → World → Prop} {W : World}
/-- Elements of whatever size, made by the call just now. -/
theorem wp_append_big {P : Program} {K : Act → World → Prop} (s x : Operand) (T E : TypeId) (z : Value) (size bytes : Nat)
    (ho : o.op = .call { callee := .builtin .append, args := #[s, x], argTypes := #[T, T] }) (hT : P.underlying T = some (.slice E)) (hi : (P.info? E).map (fun i => (i.zero, i.size, i.bytes)) = some (some z, size, bytes)) (hz1 : z.cells.size = size) (hsz : 0 < size)
    (base : Nat) (ad : Option Addr) (n cap : Nat) (xs : List Value) (hs : a.eval s = .slice ad n cap) (hown : W.ownsRow base E size (.slice ad n cap) n xs)
    (b m c : Nat) (us : List Value) (E2 : TypeId) (fr : Nat × Nat) (hx : a.eval x = .slice (some ⟨b, 0, none⟩) m c) (hm : us.length = m * size) (hblk : W.heap[b]? = some (.cells us.toArray E2 fr)) (h1 : ∀ u ∈ us, u.oneCell' = true)
    (hpos : 0 < m) (h63 : n + m ≤ 1099511627776) (hbytes : bytes ≤ 128) (hbase : base ≤ W.heap.size) (t : Nat) (ht : n + m = t)
    (h : ∀ g cap' w', w'.ownsRow base E size (.slice (some ⟨g, 0, none⟩) t cap') t (xs ++ us) → Keep (fun k => some k ≠ (Value.slice ad n cap).ownBlock) W w' → Below base W w' → ((Value.slice ad n cap).ownBlock = some g ∨ g = W.heap.size) → K (a.put o.dst (.slice (some ⟨g, 0, none⟩) t cap')) w') : o.wp P a W K Q := by
  obtain ⟨i, hi0, hz, hi2, hi3⟩ := info_parts hi
  subst ht
  exact wp_append_lies _ s x _ ho base E i _ size bytes hT hi0 hz hi2 hi3 hz1 hsz (.slice ad n cap) n xs hs hown ⟨b, 0, none⟩ m c us hx hm
    (World.news_of_block (cs := us.toArray) hblk) h1 hpos (by unfold maxLen; omega) (by
      have : (n + m) * bytes ≤ 1099511627776 * 128 := Nat.mul_le_mul h63 hbytes
      omega) hbase _ rfl
    (fun g cap' w' hown' hg hat _ => h g cap' w' hown' (Keep.of_grown hg) ((Below.refl _ _).grown hg hbase (fun k hk => (World.ownsRow.lt hown k hk).1)) hat)
theorem step_append_big {P : Program} {K : Act → World → Prop} {E' : Prop} (hgd : o.guard = none) (s x : Operand) (T E : TypeId) (z : Value) (size bytes : Nat)
    (ho : o.op = .call { callee := .builtin .append, args := #[s, x], argTypes := #[T, T] }) (hT : P.underlying T = some (.slice E)) (hi : (P.info? E).map (fun i => (i.zero, i.size, i.bytes)) = some (some z, size, bytes)) (hz1 : z.cells.size = size) (hsz : 0 < size)
    (base : Nat) (ad : Option Addr) (n cap : Nat) (xs : List Value) (hs : a.eval s = .slice ad n cap) (hown : W.ownsRow base E size (.slice ad n cap) n xs)
    (b m c : Nat) (us : List Value) (E2 : TypeId) (fr : Nat × Nat) (hx : a.eval x = .slice (some ⟨b, 0, none⟩) m c) (hm : us.length = m * size) (hblk : W.heap[b]? = some (.cells us.toArray E2 fr)) (h1 : ∀ u ∈ us, u.oneCell' = true)
    (hpos : 0 < m) (h63 : n + m ≤ 1099511627776) (hbytes : bytes ≤ 128) (hbase : base ≤ W.heap.size) (t : Nat) (ht : n + m = t)
    (h : ∀ g cap' w', w'.ownsRow base E size (.slice (some ⟨g, 0, none⟩) t cap') t (xs ++ us) → Keep (fun k => some k ≠ (Value.slice ad n cap).ownBlock) W w' → Below base W w' → ((Value.slice ad n cap).ownBlock = some g ∨ g = W.heap.size) → K (a.put o.dst (.slice (some ⟨g, 0, none⟩) t cap')) w') :
    if Region.wanted o (yielded ops a.tmps) = true then Oper.wp P o a W K Q else E' := by
  have hw : Region.wanted o (yielded ops a.tmps) = true := by simp [Region.wanted, hgd]
  rw [if_pos hw]
  exact wp_append_big s x T E z size bytes ho hT hi hz1 hsz base ad n cap xs hs hown b m c us E2 fr hx hm hblk h1 hpos h63 hbytes hbase t ht h
theorem append_big {P : Program} {rest : List Oper} (hgd : o.guard = none) (s x : Operand) (T E : TypeId) (z : Value) (size bytes : Nat)
    (ho : o.op = .call { callee := .builtin .append, args := #[s, x], argTypes := #[T, T] }) (hT : P.underlying T = some (.slice E)) (hi : (P.info? E).map (fun i => (i.zero, i.size, i.bytes)) = some (some z, size, bytes)) (hz1 : z.cells.size = size) (hsz : 0 < size)
    (base : Nat) (ad : Option Addr) (n cap : Nat) (xs : List Value) (hs : a.eval s = .slice ad n cap) (hown : W.ownsRow base E size (.slice ad n cap) n xs)
    (b m c : Nat) (us : List Value) (E2 : TypeId) (fr : Nat × Nat) (hx : a.eval x = .slice (some ⟨b, 0, none⟩) m c) (hm : us.length = m * size) (hblk : W.heap[b]? = some (.cells us.toArray E2 fr)) (h1 : ∀ u ∈ us, u.oneCell' = true)
    (hpos : 0 < m) (h63 : n + m ≤ 1099511627776) (hbytes : bytes ≤ 128) (hbase : base ≤ W.heap.size) (t : Nat) (ht : n + m = t)
    (h : ∀ g cap' w', w'.ownsRow base E size (.slice (some ⟨g, 0, none⟩) t cap') t (xs ++ us) → Keep (fun k => some k ≠ (Value.slice ad n cap).ownBlock) W w' → Below base W w' → ((Value.slice ad n cap).ownBlock = some g ∨ g = W.heap.size) → wpList P ops Q rest (a.put o.dst (.slice (some ⟨g, 0, none⟩) t cap')) w') : wpList P ops Q (o :: rest) a W :=
  wpList_plain hgd fun _ hK => wp_append_big s x T E z size bytes ho hT hi hz1 hsz base ad n cap xs hs hown b m c us E2 fr hx hm hblk h1 hpos h63 hbytes hbase t ht fun g cap' w' h1 h2 h3 h4 => hK _ _ (h g cap' w' h1 h2 h3 h4)
end
/-- Texts as cells. -/
def textV (L : List (List UInt8)) : List Value := L.map fun p => .string (bs p)
theorem textV_len (L : List (List UInt8)) : (textV L).length = L.length := by simp [textV]
theorem textV_at {L : List (List UInt8)} {i : Nat} (hi : i < L.length) : (textV L)[i]? = some (.string (bs (L.getD i []))) := by
  simp [textV, hi]
theorem textV_one (L : List (List UInt8)) : ∀ u ∈ textV L, u.oneCell' = true := by
  intro u hu
  simp only [textV, List.mem_map] at hu
  obtain ⟨p, _, rfl⟩ := hu
  rfl
theorem Strs.row {w : World} {a : Option Addr} {L : List (List UInt8)} (h : Strs w a L) : Row (fun _ => True) w a (textV L) := by
  rcases h with h | ⟨g, off, ha, hg, hc⟩
  · left; simp [textV, h]
  · refine Or.inr ⟨g, off, ha, hg, trivial, fun i hi => ?_⟩
    rw [textV_len] at hi
    rw [hc i hi, textV_at hi]
theorem Row.strs {S : Nat → Prop} {w : World} {a : Option Addr} {L : List (List UInt8)} (h : Row S w a (textV L)) : Strs w a L := by
  rcases h with h | ⟨g, off, ha, hg, _, hc⟩
  · left; simpa [textV] using h
  · refine Or.inr ⟨g, off, ha, hg, fun i hi => ?_⟩
    rw [hc i (by rw [textV_len]; exact hi), textV_at hi]
theorem ownsRow_empty (w : World) (E : TypeId) : (w.alloc (.cells #[] E)).ownsRow w.heap.size E 1 (.slice (some ⟨w.heap.size, 0, none⟩) 0 0) 0 [] :=
  World.ownsRow_made w #[] 0 (Nat.le_refl _) (Nat.zero_le _) rfl
end Go.Proofs.YtnclibfhbngkjaaGreatDoor
