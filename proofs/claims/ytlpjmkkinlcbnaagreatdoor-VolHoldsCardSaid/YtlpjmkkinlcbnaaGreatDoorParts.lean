/- Lists of parts that a call gathers itself, by append. -/
import Derived.Test.YtlpjmkkinlcbnaaGreatDoorM2
import Derived.Deep.AppendLies
namespace Go.Proofs.YtlpjmkkinlcbnaaGreatDoor
open Go.RowKit
/-- Parts that the call has gathered so far. -/
def OwnP (w : World) (base : Nat) (a : Option Addr) (cap : Nat) (D : List (List UInt8)) : Prop :=
  ∃ vs, w.ownsRow base 104 1 (.slice a D.length cap) D.length vs ∧ PartsS (fun k => some k ≠ (Value.slice a D.length cap).ownBlock) w vs D
theorem info_part : (Tryz.prog.info? 104).map (fun i => (i.zero, i.size, i.bytes)) = some (some (.slice none 0 0), 1, 24) := by kernel_rfl
theorem OwnP.nil (w : World) (base : Nat) : OwnP w base none 0 [] := ⟨[], World.ownsRow_nil _ _ _ _, PartsS.nil _ _⟩
theorem ownsRow_ext {w w' : World} {base e size n : Nat} {v : Value} {xs : List Value} (h : w.ownsRow base e size v n xs) (k : Ext w w') : w'.ownsRow base e size v n xs := by
  refine ⟨h.1, ?_⟩
  rcases h.2 with h1 | ⟨g, c, cur, h1, hb, hg, r⟩
  · exact Or.inl h1
  · exact Or.inr ⟨g, c, cur, h1, hb, k.heap hg, r⟩
theorem OwnP.ext {w w' : World} {base : Nat} {a : Option Addr} {cap : Nat} {D : List (List UInt8)} (h : OwnP w base a cap D) (k : Ext w w') : OwnP w' base a cap D := by
  obtain ⟨vs, h1, h2⟩ := h
  exact ⟨vs, ownsRow_ext h1 k, h2.keep (Keep.of_ext k)⟩
theorem OwnP.parts {w : World} {base : Nat} {a : Option Addr} {cap : Nat} {D : List (List UInt8)} (h : OwnP w base a cap D) : Parts w a D := by
  obtain ⟨vs, h1, h2⟩ := h
  exact ⟨vs, ownsRow_row h1, h2.mono (fun _ _ _ => trivial)⟩
/-- Behind an append of parts. -/
theorem OwnP.grow {w w' : World} {base : Nat} {ad : Option Addr} {cap : Nat} {D N : List (List UInt8)} {vs us : List Value} {g cap' m : Nat} (h2 : PartsS (fun k => some k ≠ (Value.slice ad D.length cap).ownBlock) w vs D)
    (hN : PartsS (fun k => some k ≠ (Value.slice ad D.length cap).ownBlock) w us N) (hm : N.length = m)
    (hrow : w'.ownsRow base 104 1 (.slice (some ⟨g, 0, none⟩) (D.length + m) cap') (D.length + m) (vs ++ us)) (hg : w.grownBy w' (Value.slice ad D.length cap).ownBlock)
    (hat : (Value.slice ad D.length cap).ownBlock = some g ∨ g = w.heap.size) : OwnP w' base (some ⟨g, 0, none⟩) cap' (D ++ N) := by
  subst hm
  refine ⟨vs ++ us, by rw [List.length_append]; exact hrow, ?_⟩
  have hall := h2.append hN
  have h3 : PartsS (fun k => some k ≠ (Value.slice ad D.length cap).ownBlock ∧ some k ≠ some g) w (vs ++ us) (D ++ N) := by
    refine hall.mono (fun k hk hne => ⟨hne, ?_⟩)
    rcases hat with e | e
    · rw [← e]; exact hne
    · intro e2
      have : k = g := by simpa using e2
      omega
  have h4 := h3.keep ((Keep.of_grown hg).mono (fun k _ hk => hk.1))
  exact h4.mono (fun k _ hk => hk.2)
/-- 'append(out, parts..)', all of it. -/
theorem parts_grown {W w' : World} {base : Nat} {ad : Option Addr} {cap : Nat} {D N : List (List UInt8)} {vs us : List Value} {g cap' m : Nat} (hrow : W.ownsRow base 104 1 (.slice ad D.length cap) D.length vs) (h2 : PartsS (fun k => some k ≠ (Value.slice ad D.length cap).ownBlock) W vs D)
    (hN : PartsS (fun k => some k ≠ (Value.slice ad D.length cap).ownBlock) W us N) (hm : us.length = m) (hbase : base ≤ W.heap.size)
    (hown' : w'.ownsRow base 104 1 (.slice (some ⟨g, 0, none⟩) (D.length + m) cap') (D.length + m) (vs ++ us)) (hg : W.grownBy w' (Value.slice ad D.length cap).ownBlock)
    (hat : (Value.slice ad D.length cap).ownBlock = some g ∨ g = W.heap.size) : OwnP w' base (some ⟨g, 0, none⟩) cap' (D ++ N) ∧ Keep (fun k => some k ≠ (Value.slice ad D.length cap).ownBlock) W w' ∧ Below base W w' :=
  ⟨OwnP.grow h2 hN (hN.1.symm.trans hm) hown' hg hat, Keep.of_grown hg, (Below.refl _ _).grown hg hbase (fun k hk => (World.ownsRow.lt hrow k hk).1)⟩
theorem oneCell_parts {S : Nat → Prop} {W : World} {us : List Value} {N : List (List UInt8)} (h : PartsS S W us N) : ∀ u ∈ us, u.oneCell' = true := by
  intro u hu
  obtain ⟨i, hi, rfl⟩ := List.getElem_of_mem hu
  obtain ⟨p, c, h1, _⟩ := h.2 i (by rw [← h.1]; exact hi)
  rw [List.getElem?_eq_getElem hi] at h1
  rw [Option.some.inj h1]; rfl
section
variable {ops : Array Oper} {o : Oper} {a : Act} {Q : Exit → Act → World → Prop} {W : World}
theorem wp_append_parts {K : Act → World → Prop} (s x : Operand)
    (ho : o.op = .call { callee := .builtin .append, args := #[s, x], argTypes := #[103, 103] })
    (base : Nat) (ad : Option Addr) (cap : Nat) (D : List (List UInt8)) (hs : a.eval s = .slice ad D.length cap) (hown : OwnP W base ad cap D)
    (us : List Value) (N : List (List UInt8)) (b m : Nat) (hm : us.length = m) (hx : a.eval x = .slice (some ⟨b, 0, none⟩) m m) (hblk : W.heap[b]? = some (.cells us.toArray 104 (0, 0)))
    (hN : PartsS (fun k => some k ≠ (Value.slice ad D.length cap).ownBlock) W us N) (hpos : 0 < m) (hn : D.length + m ≤ 1099511627776) (hbase : base ≤ W.heap.size)
    (h : ∀ g cap' w', OwnP w' base (some ⟨g, 0, none⟩) cap' (D ++ N) → Keep (fun k => some k ≠ (Value.slice ad D.length cap).ownBlock) W w' → Below base W w' → K (a.put o.dst (.slice (some ⟨g, 0, none⟩) (D.length + m) cap')) w') : o.wp Tryz.prog a W K Q := by
  obtain ⟨i0, hi0, hz0, hz1, hz2⟩ := info_parts info_part
  obtain ⟨vs, hrow, h2⟩ := hown
  exact wp_append_lies _ s x _ ho base 104 i0 _ 1 24 Tryz.underlying103 hi0 hz0 hz1 hz2 rfl (by omega) (.slice ad D.length cap) D.length vs hs hrow ⟨b, 0, none⟩ m m us hx (by rw [hm, Nat.mul_one])
    (World.news_of_block (cs := us.toArray) hblk) (oneCell_parts hN) hpos (by unfold maxLen; omega) (by omega) hbase _ rfl
    (fun g cap' w' hown' hg hat _ => have hh := parts_grown hrow h2 hN hm hbase hown' hg hat; h g cap' w' hh.1 hh.2.1 hh.2.2)
theorem step_append_parts {K : Act → World → Prop} {E : Prop} (hgd : o.guard = none) (s x : Operand)
    (ho : o.op = .call { callee := .builtin .append, args := #[s, x], argTypes := #[103, 103] })
    (base : Nat) (ad : Option Addr) (cap : Nat) (D : List (List UInt8)) (hs : a.eval s = .slice ad D.length cap) (hown : OwnP W base ad cap D)
    (us : List Value) (N : List (List UInt8)) (b m : Nat) (hm : us.length = m) (hx : a.eval x = .slice (some ⟨b, 0, none⟩) m m) (hblk : W.heap[b]? = some (.cells us.toArray 104 (0, 0)))
    (hN : PartsS (fun k => some k ≠ (Value.slice ad D.length cap).ownBlock) W us N) (hpos : 0 < m) (hn : D.length + m ≤ 1099511627776) (hbase : base ≤ W.heap.size)
    (h : ∀ g cap' w', OwnP w' base (some ⟨g, 0, none⟩) cap' (D ++ N) → Keep (fun k => some k ≠ (Value.slice ad D.length cap).ownBlock) W w' → Below base W w' → K (a.put o.dst (.slice (some ⟨g, 0, none⟩) (D.length + m) cap')) w') :
    if Region.wanted o (yielded ops a.tmps) = true then Oper.wp Tryz.prog o a W K Q else E := by
  have hw : Region.wanted o (yielded ops a.tmps) = true := by simp [Region.wanted, hgd]
  rw [if_pos hw]
  exact wp_append_parts s x ho base ad cap D hs hown us N b m hm hx hblk hN hpos hn hbase h
theorem append_parts {rest : List Oper} (hgd : o.guard = none) (s x : Operand)
    (ho : o.op = .call { callee := .builtin .append, args := #[s, x], argTypes := #[103, 103] })
    (base : Nat) (ad : Option Addr) (cap : Nat) (D : List (List UInt8)) (hs : a.eval s = .slice ad D.length cap) (hown : OwnP W base ad cap D)
    (us : List Value) (N : List (List UInt8)) (b m : Nat) (hm : us.length = m) (hx : a.eval x = .slice (some ⟨b, 0, none⟩) m m) (hblk : W.heap[b]? = some (.cells us.toArray 104 (0, 0)))
    (hN : PartsS (fun k => some k ≠ (Value.slice ad D.length cap).ownBlock) W us N) (hpos : 0 < m) (hn : D.length + m ≤ 1099511627776) (hbase : base ≤ W.heap.size)
    (h : ∀ g cap' w', OwnP w' base (some ⟨g, 0, none⟩) cap' (D ++ N) → Keep (fun k => some k ≠ (Value.slice ad D.length cap).ownBlock) W w' → Below base W w' → wpList Tryz.prog ops Q rest (a.put o.dst (.slice (some ⟨g, 0, none⟩) (D.length + m) cap')) w') : wpList Tryz.prog ops Q (o :: rest) a W :=
  wpList_plain hgd fun _ hK => wp_append_parts s x ho base ad cap D hs hown us N b m hm hx hblk hN hpos hn hbase fun g cap' w' h1 h2 h3 => hK _ _ (h g cap' w' h1 h2 h3)
end
/-- A row of the call's own lies below what is made now. -/
theorem OwnP.old {w : World} {base : Nat} {a : Option Addr} {cap : Nat} {D : List (List UInt8)} (h : OwnP w base a cap D) {B : Nat} (hB : w.heap.size ≤ B) : ∀ k, B ≤ k → some k ≠ (Value.slice a D.length cap).ownBlock := by
  obtain ⟨vs, h1, _⟩ := h
  intro k hk e
  have := (World.ownsRow.lt h1 k e.symm).2
  omega
theorem part_new {wr w0 w1 : World} {base : Nat} {a : Option Addr} {cap : Nat} {D : List (List UInt8)} {p : Option Addr} {c : Nat} {l : List UInt8} (hown : OwnP wr base a cap D) (hx0 : Ext wr w0) (h1 : OwnB w1 w0.heap.size p c l) :
    BytesS (fun k => some k ≠ (Value.slice a D.length cap).ownBlock) w1 p l := h1.fresh (hown.old hx0.size)
theorem part_one {wr w0 w1 : World} {base : Nat} {a : Option Addr} {cap : Nat} {D : List (List UInt8)} {p : Option Addr} {c : Nat} {l : List UInt8} (hown : OwnP wr base a cap D) (hx0 : Ext wr w0) (h1 : OwnB w1 w0.heap.size p c l) :
    PartsS (fun k => some k ≠ (Value.slice a D.length cap).ownBlock) w1 [.slice p l.length c] [l] := PartsS.one (part_new hown hx0 h1)
theorem part_two {wr w0 w1 w2 : World} {base : Nat} {a : Option Addr} {cap : Nat} {D : List (List UInt8)} {p q : Option Addr} {c d : Nat} {l m : List UInt8} (hown : OwnP wr base a cap D) (hx0 : Ext wr w0) (h1 : OwnB w1 w0.heap.size p c l) (hx1 : Ext w0 w1) (h2 : OwnB w2 w1.heap.size q d m) (hx2 : Ext w1 w2) :
    PartsS (fun k => some k ≠ (Value.slice a D.length cap).ownBlock) w2 [.slice p l.length c, .slice q m.length d] [l, m] :=
  PartsS.cons ((part_new hown hx0 h1).keep (Keep.of_ext hx2)) (PartsS.one (part_new hown (hx0.trans hx1) h2))
theorem parts_lit {w : World} {us : List Value} {N : List (List UInt8)} (h : PartsS (fun _ => True) w us N) : Parts (w.alloc (.cells us.toArray 104)) (some ⟨w.heap.size, 0, none⟩) N := by
  refine ⟨us, Or.inr ⟨w.heap.size, 0, rfl, by simp, trivial, fun i hi => ?_⟩, h.keep (Keep.of_ext (Ext.alloc _ _))⟩
  rw [Nat.zero_add, List.getElem?_eq_getElem hi]
  exact cell_new _ _ _ _ _ (by simp [hi])
theorem parts_five {w : World} {p1 p2 p3 p4 p5 : Option Addr} {q1 q2 q3 q4 q5 : Nat} {l1 l2 l3 l4 l5 : List UInt8} (b1 : Bytes w p1 l1) (b2 : Bytes w p2 l2) (b3 : Bytes w p3 l3) (b4 : Bytes w p4 l4) (b5 : Bytes w p5 l5) :
    Parts (w.alloc (.cells #[.slice p1 l1.length q1, .slice p2 l2.length q2, .slice p3 l3.length q3, .slice p4 l4.length q4, .slice p5 l5.length q5] 104)) (some ⟨w.heap.size, 0, none⟩) [l1, l2, l3, l4, l5] :=
  parts_lit (us := [.slice p1 l1.length q1, .slice p2 l2.length q2, .slice p3 l3.length q3, .slice p4 l4.length q4, .slice p5 l5.length q5]) (PartsS.cons b1.row (PartsS.cons b2.row (PartsS.cons b3.row (PartsS.cons b4.row (PartsS.one b5.row)))))
end Go.Proofs.YtlpjmkkinlcbnaaGreatDoor
