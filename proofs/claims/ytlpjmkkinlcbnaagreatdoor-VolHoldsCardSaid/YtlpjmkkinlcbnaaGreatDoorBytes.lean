/- Bytes that a call gathers itself, by append. -/
import Derived.Test.YtlpjmkkinlcbnaaGreatDoorRec
import Derived.Test.YtlpjmkkinlcbnaaGreatDoorM1
namespace Go.Proofs.YtlpjmkkinlcbnaaGreatDoor
open Go.RowKit
theorem run_append_tx {P : Program} {t tx ty e e' : TypeId} (ht : P.underlying t = some (.slice e)) (htx : P.underlying tx = some (.slice e')) (v x : Value) (w : World) :
    (Builtin.append_ #[t, tx] ty #[v, x]).run P w = (Builtin.append_ #[t, t] ty #[v, x]).run P w := by
  cases v with
  | slice base n c =>
    unfold Builtin.append_
    cases hi : P.info? e with
    | none => simp [run_underlying ht, run_underlying htx, sizeOf, typeInfo, hi]
    | some i => simp [run_underlying ht, run_underlying htx, sizeOf, typeInfo, hi]
  | _ => simp [Builtin.append_, run_underlying ht]
/-- Bytes that the call has gathered so far. -/
def OwnB (w : World) (base : Nat) (a : Option Addr) (cap : Nat) (D : List UInt8) : Prop := w.ownsRow base 5 1 (.slice a D.length cap) D.length (D.map fun b => .int .u8 (b.toNat : Int))
theorem OwnB.bytes {w : World} {base : Nat} {a : Option Addr} {cap : Nat} {D : List UInt8} (h : OwnB w base a cap D) : Bytes w a D ∧ D.length ≤ cap := by
  rcases h.2 with ⟨h1, h2⟩ | ⟨g, c, cur, h1, _, hg, hn, _⟩
  · have : D = [] := List.eq_nil_of_length_eq_zero h2
    subst this; exact ⟨Or.inl rfl, Nat.zero_le _⟩
  · simp only [Value.slice.injEq] at h1
    obtain ⟨rfl, _, rfl⟩ := h1
    refine ⟨Or.inr ⟨g, 0, rfl, (Array.getElem?_eq_some_iff.1 hg).1, fun i hi => ?_⟩, hn⟩
    rw [Nat.zero_add, World.ownsRow.cellAt h i (by omega)]
    simp [hi, byteAt]
theorem ownsRow_row {w : World} {base e n : Nat} {a : Option Addr} {cap : Nat} {xs : List Value} (h : w.ownsRow base e 1 (.slice a n cap) n xs) : Row (fun _ => True) w a xs := by
  rcases h.2 with ⟨_, h2⟩ | ⟨g, c, cur, h1, _, hg, hn, _⟩
  · have := h.1
    exact Or.inl (List.eq_nil_of_length_eq_zero (by omega))
  · simp only [Value.slice.injEq] at h1
    obtain ⟨rfl, _, rfl⟩ := h1
    refine Or.inr ⟨g, 0, rfl, (Array.getElem?_eq_some_iff.1 hg).1, trivial, fun i hi => ?_⟩
    have hi' : i < n * 1 := by have := h.1; omega
    rw [Nat.zero_add, World.ownsRow.cellAt h i hi', List.getElem?_eq_getElem hi]
/-- Bytes that a call has just made lie in no older block. -/
theorem OwnB.fresh {w : World} {base : Nat} {a : Option Addr} {cap : Nat} {l : List UInt8} (h : OwnB w base a cap l) {S : Nat → Prop} (hS : ∀ k, base ≤ k → S k) : BytesS S w a l := by
  have hr := ownsRow_row h
  rcases hr with hr | ⟨g, off, ha, hg, _, hc⟩
  · exact Or.inl hr
  · refine Or.inr ⟨g, off, ha, hg, hS g ?_, hc⟩
    rcases h.2 with ⟨h1, h2⟩ | ⟨g', c, cur, h1, hb, _⟩
    · rw [ha] at h1; cases h1
    · rw [ha] at h1
      simp only [Value.slice.injEq, Option.some.injEq, Addr.mk.injEq] at h1
      rw [h1.1.1]; exact hb
theorem OwnB.base {w : World} {base b2 : Nat} {a : Option Addr} {cap : Nat} {D : List UInt8} (h : OwnB w base a cap D) (hb : b2 ≤ base) : OwnB w b2 a cap D :=
  ⟨h.1, h.2.imp id (fun ⟨g, c, cur, h1, h2, h3⟩ => ⟨g, c, cur, h1, Nat.le_trans hb h2, h3⟩)⟩
theorem OwnB.but_lt {w w' : World} {base R : Nat} {a : Option Addr} {cap : Nat} {D : List UInt8} (h : OwnB w base a cap D) (k : But R w w') (hR : R < base) : OwnB w' base a cap D :=
  ⟨h.1, h.2.imp id (fun ⟨g, c, cur, h1, h2, h3, h4⟩ => ⟨g, c, cur, h1, h2, (k.block g (Array.getElem?_eq_some_iff.1 h3).1 (by omega)).trans h3, h4⟩)⟩
theorem OwnB.nil (w : World) (base : Nat) : OwnB w base none 0 [] := World.ownsRow_nil _ _ _ _
theorem OwnB.ext {w w' : World} {base : Nat} {a : Option Addr} {cap : Nat} {D : List UInt8} (h : OwnB w base a cap D) (k : Ext w w') : OwnB w' base a cap D := by
  refine ⟨h.1, ?_⟩
  rcases h.2 with h1 | ⟨g, c, cur, h1, hb, hg, r⟩
  · exact Or.inl h1
  · exact Or.inr ⟨g, c, cur, h1, hb, k.heap hg, r⟩
theorem info_byte : (Tryz.prog.info? 5).map (fun i => (i.zero, i.size, i.bytes)) = some (some (.int .u8 0), 1, 1) := by kernel_rfl
theorem run_append_of_nil {P : Program} (w : World) (base : Nat) (t ty e : TypeId) (i : TypeInfo) (size : Nat) (ht : P.underlying t = some (.slice e)) (hi : P.info? e = some i)
    (v : Value) (n : Nat) (xs : List Value) (hown : w.ownsRow base e size v n xs) (c : Nat) : (Builtin.append_ #[t, t] ty #[v, .slice none 0 c]).run P w = .ok v w := by
  rcases hown.2 with ⟨rfl, rfl⟩ | ⟨g, cap, cur, rfl, _, _, hnc, _⟩
  · simp [Builtin.append_, run_underlying ht, sizeOf, typeInfo, hi, Builtin.lenOf, Builtin.firstCells]
  · simp [Builtin.append_, run_underlying ht, sizeOf, typeInfo, hi, Builtin.lenOf, Builtin.firstCells, hnc, storeCells]
/-- 'append(out, b...)'. -/
theorem append_bytes0 {w : World} {ops : Array Oper} {rest : List Oper} {o : Oper} {a : Act} {Q : Exit → Act → World → Prop} (hgd : o.guard = none) (s x : Operand) (tx : TypeId)
    (ho : o.op = .call { callee := .builtin .append, args := #[s, x], argTypes := #[22, tx] }) (htx : Tryz.prog.underlying tx = some (.slice 5))
    (base : Nat) (ad : Option Addr) (cap : Nat) (D p : List UInt8) (hs : a.eval s = .slice ad D.length cap) (hown : OwnB w base ad cap D)
    (b : Option Addr) (c : Nat) (hx : a.eval x = .slice b p.length c) (hb : Bytes w b p)
    (h63 : D.length + p.length ≤ 1099511627776) (hbase : base ≤ w.heap.size)
    (h : ∀ ad' cap' w', OwnB w' base ad' cap' (D ++ p) → Below base w w' →
      wpList Tryz.prog ops Q rest (a.put o.dst (.slice ad' (D.length + p.length) cap')) w') :
    wpList Tryz.prog ops Q (o :: rest) a w := by
  obtain ⟨i, hi0, hz, hsz, hby⟩ := info_parts info_byte
  cases b with
  | none =>
    have hp : p = [] := by
      rcases hb with hb | ⟨g, off, ha, _⟩
      · exact hb
      · cases ha
    subst hp
    refine wpList_plain hgd fun K hK => ?_
    have hr := run_append_of_nil (P := Tryz.prog) w base 22 o.type 5 i 1 Tryz.underlying22 hi0 _ D.length _ hown c
    have hr2 := (run_append_tx (ty := o.type) Tryz.underlying22 htx (.slice ad D.length cap) (.slice none 0 c) w).trans hr
    unfold Oper.wp execOp
    simp only [ho, resolve, invoke, builtin, Sem.run_bind, Sem.run_pure, Result.andThen_ok, List.map_toArray, List.map_cons, List.map_nil, hs, hx, List.length_nil, hr2]
    refine hK _ _ ?_
    have := h ad cap w (by rw [List.append_nil]; exact hown) (Below.refl _ _)
    simpa using this
  | some bd =>
    refine wpList_plain hgd fun K hK => ?_
    have hcells : ∀ j u, (p.map fun b => Value.int .u8 (b.toNat : Int))[j]? = some u → w.cell? (bd.add j) = some u := by
      intro j u hj
      rcases hb with hb | ⟨g, off, ha, _, hc⟩
      · subst hb; simp at hj
      · have ha := Option.some.inj ha
        subst ha
        have hj' : j < p.length := by
          have := (List.getElem?_eq_some_iff.1 hj).1
          simpa using this
        have e : (⟨g, off, none⟩ : Addr).add j = ⟨g, off + j, none⟩ := by
          unfold Addr.add; split
          · rename_i h0; subst h0; rfl
          · rfl
        rw [e, hc j hj']
        simp [hj'] at hj
        rw [← hj]; simp [byteAt, hj']
    obtain ⟨v', w', hr, h2, h3, h4⟩ := run_append_own (P := Tryz.prog) w base 22 o.type 5 i (.int .u8 0) 1 1 Tryz.underlying22 hi0 hz hsz hby rfl (by decide) _ D.length _ hown bd p.length c _ (by simp) hcells
      (by intro u hu; simp at hu; obtain ⟨b, _, rfl⟩ := hu; rfl) (by unfold maxLen; omega) (by omega) hbase
    have hr2 := (run_append_tx (ty := o.type) Tryz.underlying22 htx (.slice ad D.length cap) (.slice (some bd) p.length c) w).trans hr
    have hbel : Below base w w' := (Below.refl _ _).grown h3 hbase (fun k hk => (World.ownsRow.lt hown k hk).1)
    unfold Oper.wp execOp
    simp only [ho, resolve, invoke, builtin, Sem.run_bind, Sem.run_pure, Result.andThen_ok, List.map_toArray, List.map_cons, List.map_nil, hs, hx, hr2]
    refine hK _ _ ?_
    rcases h2.2 with ⟨h5, h6⟩ | ⟨g, cap', cur, rfl, hg1, hg2, hg3, hg4⟩
    · subst h5
      have hD : D = [] := List.eq_nil_of_length_eq_zero (by omega)
      have hp : p = [] := List.eq_nil_of_length_eq_zero (by omega)
      subst hD hp
      exact h none 0 w' (OwnB.nil _ _) hbel
    · refine h (some ⟨g, 0, none⟩) cap' w' ?_ hbel
      unfold OwnB
      rw [List.length_append, List.map_append]
      exact h2
/-- The same, with the lengths by names. -/
theorem append_bytes {w : World} {ops : Array Oper} {rest : List Oper} {o : Oper} {a : Act} {Q : Exit → Act → World → Prop} (hgd : o.guard = none) (s x : Operand) (tx : TypeId)
    (ho : o.op = .call { callee := .builtin .append, args := #[s, x], argTypes := #[22, tx] }) (htx : Tryz.prog.underlying tx = some (.slice 5))
    (base : Nat) (ad : Option Addr) (cap : Nat) (D p : List UInt8) (k m : Nat) (hk : D.length = k) (hm : p.length = m) (hs : a.eval s = .slice ad k cap) (hown : OwnB w base ad cap D)
    (b : Option Addr) (c : Nat) (hx : a.eval x = .slice b m c) (hb : Bytes w b p)
    (h63 : k + m ≤ 1099511627776) (hbase : base ≤ w.heap.size)
    (h : ∀ ad' cap' w', OwnB w' base ad' cap' (D ++ p) → Below base w w' →
      wpList Tryz.prog ops Q rest (a.put o.dst (.slice ad' (k + m) cap')) w') :
    wpList Tryz.prog ops Q (o :: rest) a w := by
  subst hk hm
  exact append_bytes0 hgd s x tx ho htx base ad cap D p hs hown b c hx hb h63 hbase h
end Go.Proofs.YtlpjmkkinlcbnaaGreatDoor
