/- Slices that a call makes itself, and appends to: laws in the form in which my walks want them. -/
import Derived.Test.YtldgpcmnmegioaaDoorM1
namespace Go.Proofs.YtldgpcmnmegioaaDoor
open Go.RowKit
/-- 'out = append(out, u)', out nil or the call's own. -/
theorem append_one {P : Program} {w : World} {ops : Array Oper} {rest : List Oper} {o : Oper} {a : Act} {Q : Exit → Act → World → Prop} (hgd : o.guard = none) (s x : Operand) (T : TypeId)
    (ho : o.op = .call { callee := .builtin .append, args := #[s, x], argTypes := #[T, T] })
    (E : TypeId) (z : Value) (bytes : Nat) (hT : P.underlying T = some (.slice E)) (hi : (P.info? E).map (fun i => (i.zero, i.size, i.bytes)) = some (some z, 1, bytes)) (hz1 : z.cells.size = 1)
    (base : Nat) (ad : Option Addr) (n cap : Nat) (xs : List Value) (hs : a.eval s = .slice ad n cap) (hown : w.ownsRow base E 1 (.slice ad n cap) n xs)
    (u : Value) (hu : u.oneCell' = true) (hx : a.eval x = .slice (some ⟨w.heap.size, 0, none⟩) 1 1)
    (h63 : n + 1 ≤ 1099511627776) (hbytes : bytes ≤ 128) (hbase : base ≤ w.heap.size)
    (h : ∀ g cap' w', w'.ownsRow base E 1 (.slice (some ⟨g, 0, none⟩) (n + 1) cap') (n + 1) (xs ++ [u]) → n + 1 ≤ cap' → Below base w w' → (w.alloc (.cells #[u] E)).grownBy w' (Value.slice ad n cap).ownBlock →
      wpList P ops Q rest (a.put o.dst (.slice (some ⟨g, 0, none⟩) (n + 1) cap')) w') :
    wpList P ops Q (o :: rest) a (w.alloc (.cells #[u] E)) := by
  obtain ⟨i, hi0, hz, hsz, hby⟩ := info_parts hi
  refine wpList_append_own _ hgd s x T ho base E i z 1 bytes hT hi0 hz hsz hby hz1 (by decide) _ n xs hs (hown.alloc _) ⟨w.heap.size, 0, none⟩ 1 1 [u] hx rfl ?_ ?_ ?_ ?_ ?_ ?_
  · intro j v hj
    match j, hj with
    | 0, hj => simp at hj; subst hj; simp [Addr.add]
  · intro v hv; simp at hv; subst hv; exact hu
  · unfold maxLen; omega
  · have : (n + 1) * bytes ≤ 1099511627776 * 128 := Nat.mul_le_mul h63 hbytes
    omega
  · simp; omega
  · intro v' w' hown' hg hnil
    rcases hown'.2 with ⟨h1, h2⟩ | ⟨g, cap', cur, rfl, hg1, hg2, hg3, _⟩
    · omega
    · refine h g cap' w' hown' hg3 ?_ hg
      exact ((Below.refl _ _).alloc hbase _).grown hg (by simp; omega) (fun k hk => ((hown.alloc (.cells #[u] E)).lt k hk).1)

/-- Texts that the call has gathered so far. -/
def OwnS (w : World) (base : Nat) (a : Option Addr) (cap : Nat) (D : List (List UInt8)) : Prop := w.ownsRow base 9 1 (.slice a D.length cap) D.length (D.map fun p => .string (bs p))
theorem OwnS.strs {w : World} {base : Nat} {a : Option Addr} {cap : Nat} {D : List (List UInt8)} (h : OwnS w base a cap D) : Strs w a D ∧ D.length ≤ cap := by
  rcases h.2 with ⟨h1, h2⟩ | ⟨g, c, cur, h1, _, hg, hn, _⟩
  · have : D = [] := List.eq_nil_of_length_eq_zero h2
    subst this; exact ⟨Strs.nil _ _, Nat.zero_le _⟩
  · simp only [Value.slice.injEq] at h1
    obtain ⟨rfl, _, rfl⟩ := h1
    refine ⟨Or.inr ⟨g, 0, rfl, (Array.getElem?_eq_some_iff.1 hg).1, fun i hi => ?_⟩, hn⟩
    rw [Nat.zero_add, World.ownsRow.cellAt h i (by omega)]
    simp [hi]
theorem OwnS.nil (w : World) (base : Nat) : OwnS w base none 0 [] := World.ownsRow_nil _ _ _ _
theorem OwnS.ext {w w' : World} {base : Nat} {a : Option Addr} {cap : Nat} {D : List (List UInt8)} (h : OwnS w base a cap D) (k : Ext w w') : OwnS w' base a cap D := by
  refine ⟨h.1, ?_⟩
  rcases h.2 with h1 | ⟨g, c, cur, h1, hb, hg, r⟩
  · exact Or.inl h1
  · exact Or.inr ⟨g, c, cur, h1, hb, k.heap hg, r⟩
theorem info_string : (Tryd.prog.info? 9).map (fun i => (i.zero, i.size, i.bytes)) = some (some (.string ⟨#[]⟩), 1, 16) := by kernel_rfl
/-- 'out = append(out, text)'. -/
theorem append_text {w : World} {ops : Array Oper} {rest : List Oper} {o : Oper} {a : Act} {Q : Exit → Act → World → Prop} (hgd : o.guard = none) (s x : Operand)
    (ho : o.op = .call { callee := .builtin .append, args := #[s, x], argTypes := #[46, 46] })
    (base : Nat) (ad : Option Addr) (cap : Nat) (D : List (List UInt8)) (p : List UInt8) (hs : a.eval s = .slice ad D.length cap) (hown : OwnS w base ad cap D)
    (hx : a.eval x = .slice (some ⟨w.heap.size, 0, none⟩) 1 1)
    (h63 : D.length + 1 ≤ 1099511627776) (hbase : base ≤ w.heap.size)
    (h : ∀ g cap' w', OwnS w' base (some ⟨g, 0, none⟩) cap' (D ++ [p]) → Below base w w' →
      wpList Tryd.prog ops Q rest (a.put o.dst (.slice (some ⟨g, 0, none⟩) (D.length + 1) cap')) w') :
    wpList Tryd.prog ops Q (o :: rest) a (w.alloc (.cells #[.string (bs p)] 9)) := by
  refine append_one hgd s x _ ho 9 (.string ⟨#[]⟩) 16 Tryd.underlying46 info_string rfl base ad D.length cap _ hs hown (.string (bs p)) rfl hx h63 (by decide) hbase ?_
  intro g cap' w' hown' hcap hb _
  refine h g cap' w' ?_ hb
  unfold OwnS
  simp only [List.length_append, List.length_cons, List.length_nil, List.map_append, List.map_cons, List.map_nil]
  exact hown'
end Go.Proofs.YtldgpcmnmegioaaDoor
