/- Several texts of mine, one behind the other: Parts, ByRows. -/
import Derived.Test.YtefpllpichhojaaGreatDoorM1
import Derived.Deep.AppendLies
namespace Go.Proofs.YtefpllpichhojaaGreatDoor
open Go.RowKit
def OwnP (w : World) (base : Nat) (a : Option Addr) (cap : Nat) (D : List (List UInt8)) : Prop :=
 ∃ vs, w.ownsRow base 215 1 (.slice a D.length cap) D.length vs ∧ PartsS (fun k => some k ≠ (Value.slice a D.length cap).ownBlock) w vs D
theorem info_part : (Tryz.prog.info? 215).map (fun i => (i.zero, i.size, i.bytes)) = some (some (.slice none 0 0), 1, 24) := by kernel_rfl
theorem OwnP.nil (w : World) (base : Nat) : OwnP w base none 0 [] := ⟨[], World.ownsRow_nil _ _ _ _, PartsS.nil _ _⟩
theorem ownsRow_ext {w w' : World} {base e size n : Nat} {v : Value} {xs : List Value} (h : w.ownsRow base e size v n xs) (k : Ext w w') : w'.ownsRow base e size v n xs := by
 refine ⟨h.1, ?_⟩
 rcases h.2 with h1 | ⟨g, c, cur, h1, hb, hg, r⟩
 · exact Or.inl h1
 · exact Or.inr ⟨g, c, cur, h1, hb, k.heap hg, r⟩
theorem OwnP.ext {w w' : World} {base : Nat} {a : Option Addr} {cap : Nat} {D : List (List UInt8)} (h : OwnP w base a cap D) (k : Ext w w') : OwnP w' base a cap D := by
 obtain ⟨vs, h1, h2⟩ := h
 exact ⟨vs, ownsRow_ext h1 k, h2.keep (Keep.of_ext k)⟩
theorem OwnP.parts {w : World} {base : Nat} {a : Option Addr} {cap : Nat} {D : List (List UInt8)} (h : OwnP w base a cap D) : Parts w a D := by
 obtain ⟨vs, h1, h2⟩ := h
 exact ⟨vs, ownsRow_row h1, h2.mono (fun _ _ _ => trivial)⟩
theorem OwnP.grow {w w' : World} {base : Nat} {ad : Option Addr} {cap : Nat} {D N : List (List UInt8)} {vs us : List Value} {g cap' m : Nat} (h2 : PartsS (fun k => some k ≠ (Value.slice ad D.length cap).ownBlock) w vs D)
 (hN : PartsS (fun k => some k ≠ (Value.slice ad D.length cap).ownBlock) w us N) (hm : N.length = m)
 (hrow : w'.ownsRow base 215 1 (.slice (some ⟨g, 0, none⟩) (D.length + m) cap') (D.length + m) (vs ++ us)) (hg : w.grownBy w' (Value.slice ad D.length cap).ownBlock)
 (hat : (Value.slice ad D.length cap).ownBlock = some g ∨ g = w.heap.size) : OwnP w' base (some ⟨g, 0, none⟩) cap' (D ++ N) := by
 subst hm
 refine ⟨vs ++ us, by rw [List.length_append]; exact hrow, ?_⟩
 have hall := h2.append hN
 have h3 : PartsS (fun k => some k ≠ (Value.slice ad D.length cap).ownBlock ∧ some k ≠ some g) w (vs ++ us) (D ++ N) := by
  refine hall.mono (fun k hk hne => ⟨hne, ?_⟩)
  rcases hat with e | e
  · rw [← e]; exact hne
  · intro e2
    have : k = g := by simpa using e2
    omega
 have h4 := h3.keep ((Keep.of_grown hg).mono (fun k _ hk => hk.1))
 exact h4.mono (fun k _ hk => hk.2)
theorem parts_grown {W w' : World} {base : Nat} {ad : Option Addr} {cap : Nat} {D N : List (List UInt8)} {vs us : List Value} {g cap' m : Nat} (hrow : W.ownsRow base 215 1 (.slice ad D.length cap) D.length vs) (h2 : PartsS (fun k => some k ≠ (Value.slice ad D.length cap).ownBlock) W vs D)
 (hN : PartsS (fun k => some k ≠ (Value.slice ad D.length cap).ownBlock) W us N) (hm : us.length = m) (hbase : base ≤ W.heap.size)
 (hown' : w'.ownsRow base 215 1 (.slice (some ⟨g, 0, none⟩) (D.length + m) cap') (D.length + m) (vs ++ us)) (hg : W.grownBy w' (Value.slice ad D.length cap).ownBlock)
 (hat : (Value.slice ad D.length cap).ownBlock = some g ∨ g = W.heap.size) : OwnP w' base (some ⟨g, 0, none⟩) cap' (D ++ N) ∧ Keep (fun k => some k ≠ (Value.slice ad D.length cap).ownBlock) W w' ∧ Below base W w' :=
 ⟨OwnP.grow h2 hN (hN.1.symm.trans hm) hown' hg hat, Keep.of_grown hg, (Below.refl _ _).grown hg hbase (fun k hk => (World.ownsRow.lt hrow k hk).1)⟩
theorem oneCell_parts {S : Nat → Prop} {W : World} {us : List Value} {N : List (List UInt8)} (h : PartsS S W us N) : ∀ u ∈ us, u.oneCell' = true := by
 intro u hu
 obtain ⟨i, hi, rfl⟩ := List.getElem_of_mem hu
 obtain ⟨p, c, h1, _⟩ := h.2 i (by rw [← h.1]; exact hi)
 rw [List.getElem?_eq_getElem hi] at h1
 rw [Option.some.inj h1]; rfl
section
variable {ops : Array Oper} {o : Oper} {a : Act} {Q : Exit → Act → World → Prop} {W : World}
theorem wp_append_parts {K : Act → World → Prop} (s x : Operand)
 (ho : o.op = .call { callee := .builtin .append, args := #[s, x], argTypes := #[214, 214] })
 (base : Nat) (ad : Option Addr) (cap : Nat) (D : List (List UInt8)) (hs : a.eval s = .slice ad D.length cap) (hown : OwnP W base ad cap D)
 (us : List Value) (N : List (List UInt8)) (b m : Nat) (hm : us.length = m) (hx : a.eval x = .slice (some ⟨b, 0, none⟩) m m) (hblk : W.heap[b]? = some (.cells us.toArray 215 (0, 0)))
 (hN : PartsS (fun k => some k ≠ (Value.slice ad D.length cap).ownBlock) W us N) (hpos : 0 < m) (hn : D.length + m ≤ 1099511627776) (hbase : base ≤ W.heap.size)
 (h : ∀ g cap' w', OwnP w' base (some ⟨g, 0, none⟩) cap' (D ++ N) → Keep (fun k => some k ≠ (Value.slice ad D.length cap).ownBlock) W w' → Below base W w' → K (a.put o.dst (.slice (some ⟨g, 0, none⟩) (D.length + m) cap')) w') : o.wp Tryz.prog a W K Q := by
 obtain ⟨i0, hi0, hz0, hz1, hz2⟩ := info_parts info_part
 obtain ⟨vs, hrow, h2⟩ := hown
 exact wp_append_lies _ s x _ ho base 215 i0 _ 1 24 Tryz.underlying214 hi0 hz0 hz1 hz2 rfl (by omega) (.slice ad D.length cap) D.length vs hs hrow ⟨b, 0, none⟩ m m us hx (by rw [hm, Nat.mul_one])
  (World.news_of_block (cs := us.toArray) hblk) (oneCell_parts hN) hpos (by unfold maxLen; omega) (by omega) hbase _ rfl
  (fun g cap' w' hown' hg hat _ => have hh := parts_grown hrow h2 hN hm hbase hown' hg hat; h g cap' w' hh.1 hh.2.1 hh.2.2)
theorem step_append_parts {K : Act → World → Prop} {E : Prop} (hgd : o.guard = none) (s x : Operand)
 (ho : o.op = .call { callee := .builtin .append, args := #[s, x], argTypes := #[214, 214] })
 (base : Nat) (ad : Option Addr) (cap : Nat) (D : List (List UInt8)) (hs : a.eval s = .slice ad D.length cap) (hown : OwnP W base ad cap D)
 (us : List Value) (N : List (List UInt8)) (b m : Nat) (hm : us.length = m) (hx : a.eval x = .slice (some ⟨b, 0, none⟩) m m) (hblk : W.heap[b]? = some (.cells us.toArray 215 (0, 0)))
 (hN : PartsS (fun k => some k ≠ (Value.slice ad D.length cap).ownBlock) W us N) (hpos : 0 < m) (hn : D.length + m ≤ 1099511627776) (hbase : base ≤ W.heap.size)
 (h : ∀ g cap' w', OwnP w' base (some ⟨g, 0, none⟩) cap' (D ++ N) → Keep (fun k => some k ≠ (Value.slice ad D.length cap).ownBlock) W w' → Below base W w' → K (a.put o.dst (.slice (some ⟨g, 0, none⟩) (D.length + m) cap')) w') :
 if Region.wanted o (yielded ops a.tmps) = true then Oper.wp Tryz.prog o a W K Q else E := by
 have hw : Region.wanted o (yielded ops a.tmps) = true := by simp [Region.wanted, hgd]
 rw [if_pos hw]
 exact wp_append_parts s x ho base ad cap D hs hown us N b m hm hx hblk hN hpos hn hbase h
end
theorem OwnP.old {w : World} {base : Nat} {a : Option Addr} {cap : Nat} {D : List (List UInt8)} (h : OwnP w base a cap D) {B : Nat} (hB : w.heap.size ≤ B) : ∀ k, B ≤ k → some k ≠ (Value.slice a D.length cap).ownBlock := by
 obtain ⟨vs, h1, _⟩ := h
 intro k hk e
 have := (World.ownsRow.lt h1 k e.symm).2
 omega
theorem part_new {wr w0 w1 : World} {base : Nat} {a : Option Addr} {cap : Nat} {D : List (List UInt8)} {p : Option Addr} {c : Nat} {l : List UInt8} (hown : OwnP wr base a cap D) (hx0 : Ext wr w0) (h1 : OwnB w1 w0.heap.size p c l) :
 BytesS (fun k => some k ≠ (Value.slice a D.length cap).ownBlock) w1 p l := h1.fresh (hown.old hx0.size)
end Go.Proofs.YtefpllpichhojaaGreatDoor
namespace Go.Proofs.YtefpllpichhojaaGreatDoor
open Go.RowKit
theorem info_row : (Tryz.prog.info? 50).map (fun i => (i.zero, i.size, i.bytes)) = some (some (.slice none 0 0), 1, 24) := by kernel_rfl
section
variable {ops : Array Oper} {o : Oper} {a : Act} {Q : Exit → Act → World → Prop} {W : World}
end
end Go.Proofs.YtefpllpichhojaaGreatDoor
