/- Several texts of mine, one behind the other: BaseFit, ByRows, BaseNames, BaseLaws, DepSpec. -/
import Derived.Test.YtnclibfhbngkjaaGreatDoorArcRight
import Derived.Test.YtnclibfhbngkjaaGreatDoorM1
import Derived.Test.YtnclibfhbngkjaaGreatDoorParts
import Derived.Test.YtnclibfhbngkjaaGreatDoorM2
import Derived.Shelf.SlIter.Nil
import Derived.Shelf.SortM.Plain
import Derived.Shelf.SortM.SortNone
import Derived.Shelf.AbstractIn
namespace Go.Proofs.YtnclibfhbngkjaaGreatDoor
theorem FitP.of_right {p : PkgD} (h : rightP p = true) : FitP p := by
  have hp := (packP_len h).1
  unfold rightP headP at h
  simp only [Bool.and_eq_true, decide_eq_true_eq] at h
  obtain ⟨⟨h1, h2, h3, h4, h5, h6⟩, h7, h8, h9, h0⟩ := h
  have n1 := nameL_12 h1
  have n2 := verR_30 h2
  have hf := filesTo_all h0
  rw [List.take_length] at hf
  refine ⟨by omega, by omega, by omega, by omega, by omega, by omega, fun x hx => ?_, fun x hx => ?_, fun x hx => ?_, fun x hx => ?_, by omega⟩
  · have := (List.all_eq_true.1 h7) x hx
    unfold needR at this
    simp only [Bool.and_eq_true, Bool.or_eq_true, decide_eq_true_eq] at this
    have i1 := nameL_12 this.1
    have i2 : x.ver.length ≤ 30 := by
      rcases this.2 with e | e
      · rw [e.2]; simp
      · exact verR_30 e.2
    omega
  · have := (List.all_eq_true.1 h8) x hx
    unfold confR at this
    simp only [Bool.and_eq_true] at this
    have i1 := nameL_12 this.1
    omega
  · have := hf x hx
    unfold fileR at this
    simp only [Bool.and_eq_true, decide_eq_true_eq] at this
    have i1 := rightL_40 this.1
    omega
  · have := (List.all_eq_true.1 h9) x hx
    simp only [decide_eq_true_eq] at this
    omega
end Go.Proofs.YtnclibfhbngkjaaGreatDoor
namespace Go.Proofs.YtnclibfhbngkjaaGreatDoor
open Go.RowKit
/-- Rows of bytes that the call has gathered so far. -/
def OwnR (w : World) (base : Nat) (a : Option Addr) (cap : Nat) (D : List (List UInt8)) : Prop :=
  ∃ vs, w.ownsRow base 74 1 (.slice a D.length cap) D.length vs ∧ PartsS (fun k => some k ≠ (Value.slice a D.length cap).ownBlock) w vs D
theorem info_row : (Tryz.prog.info? 74).map (fun i => (i.zero, i.size, i.bytes)) = some (some (.slice none 0 0), 1, 24) := by kernel_rfl
theorem OwnR.nil (w : World) (base : Nat) : OwnR w base none 0 [] := ⟨[], World.ownsRow_nil _ _ _ _, PartsS.nil _ _⟩
theorem OwnR.ext {w w' : World} {base : Nat} {a : Option Addr} {cap : Nat} {D : List (List UInt8)} (h : OwnR w base a cap D) (k : Ext w w') : OwnR w' base a cap D := by
  obtain ⟨vs, h1, h2⟩ := h
  exact ⟨vs, ownsRow_ext h1 k, h2.keep (Keep.of_ext k)⟩
theorem OwnR.parts {w : World} {base : Nat} {a : Option Addr} {cap : Nat} {D : List (List UInt8)} (h : OwnR w base a cap D) : Parts w a D := by
  obtain ⟨vs, h1, h2⟩ := h
  exact ⟨vs, ownsRow_row h1, h2.mono (fun _ _ _ => trivial)⟩
/-- Behind an append of parts. -/
theorem OwnR.grow {w w' : World} {base : Nat} {ad : Option Addr} {cap : Nat} {D N : List (List UInt8)} {vs us : List Value} {g cap' m : Nat} (h2 : PartsS (fun k => some k ≠ (Value.slice ad D.length cap).ownBlock) w vs D)
    (hN : PartsS (fun k => some k ≠ (Value.slice ad D.length cap).ownBlock) w us N) (hm : N.length = m)
    (hrow : w'.ownsRow base 74 1 (.slice (some ⟨g, 0, none⟩) (D.length + m) cap') (D.length + m) (vs ++ us)) (hg : w.grownBy w' (Value.slice ad D.length cap).ownBlock)
    (hat : (Value.slice ad D.length cap).ownBlock = some g ∨ g = w.heap.size) : OwnR w' base (some ⟨g, 0, none⟩) cap' (D ++ N) := by
  subst hm
  refine ⟨vs ++ us, by rw [List.length_append]; exact hrow, ?_⟩
  have hall := h2.append hN
  have h3 : PartsS (fun k => some k ≠ (Value.slice ad D.length cap).ownBlock ∧ some k ≠ some g) w (vs ++ us) (D ++ N) := by
    refine hall.mono (fun k hk hne => ⟨hne, ?_⟩)
    rcases hat with e | e
    · rw [← e]; exact hne
    · intro e2
      have : k = g := by simpa using e2
      omega
  have h4 := h3.keep ((Keep.of_grown hg).mono (fun k _ hk => hk.1))
  exact h4.mono (fun k _ hk => hk.2)
/-- 'append(out, parts..)', all of it. -/
theorem rows_grown {W w' : World} {base : Nat} {ad : Option Addr} {cap : Nat} {D N : List (List UInt8)} {vs us : List Value} {g cap' m : Nat} (hrow : W.ownsRow base 74 1 (.slice ad D.length cap) D.length vs) (h2 : PartsS (fun k => some k ≠ (Value.slice ad D.length cap).ownBlock) W vs D)
    (hN : PartsS (fun k => some k ≠ (Value.slice ad D.length cap).ownBlock) W us N) (hm : us.length = m) (hbase : base ≤ W.heap.size)
    (hown' : w'.ownsRow base 74 1 (.slice (some ⟨g, 0, none⟩) (D.length + m) cap') (D.length + m) (vs ++ us)) (hg : W.grownBy w' (Value.slice ad D.length cap).ownBlock)
    (hat : (Value.slice ad D.length cap).ownBlock = some g ∨ g = W.heap.size) : OwnR w' base (some ⟨g, 0, none⟩) cap' (D ++ N) ∧ Keep (fun k => some k ≠ (Value.slice ad D.length cap).ownBlock) W w' ∧ Below base W w' :=
  ⟨OwnR.grow h2 hN (hN.1.symm.trans hm) hown' hg hat, Keep.of_grown hg, (Below.refl _ _).grown hg hbase (fun k hk => (World.ownsRow.lt hrow k hk).1)⟩
section
variable {ops : Array Oper} {o : Oper} {a : Act} {Q : Exit → Act → World → Prop} {W : World}
theorem wp_append_rows {K : Act → World → Prop} (s x : Operand)
    (ho : o.op = .call { callee := .builtin .append, args := #[s, x], argTypes := #[47, 47] })
    (base : Nat) (ad : Option Addr) (cap : Nat) (D : List (List UInt8)) (hs : a.eval s = .slice ad D.length cap) (hown : OwnR W base ad cap D)
    (us : List Value) (N : List (List UInt8)) (b m : Nat) (hm : us.length = m) (hx : a.eval x = .slice (some ⟨b, 0, none⟩) m m) (hblk : W.heap[b]? = some (.cells us.toArray 74 (0, 0)))
    (hN : PartsS (fun k => some k ≠ (Value.slice ad D.length cap).ownBlock) W us N) (hpos : 0 < m) (hn : D.length + m ≤ 1099511627776) (hbase : base ≤ W.heap.size)
    (h : ∀ g cap' w', OwnR w' base (some ⟨g, 0, none⟩) cap' (D ++ N) → Keep (fun k => some k ≠ (Value.slice ad D.length cap).ownBlock) W w' → Below base W w' → K (a.put o.dst (.slice (some ⟨g, 0, none⟩) (D.length + m) cap')) w') : o.wp Tryz.prog a W K Q := by
  obtain ⟨i0, hi0, hz0, hz1, hz2⟩ := info_parts info_row
  obtain ⟨vs, hrow, h2⟩ := hown
  exact wp_append_lies _ s x _ ho base 74 i0 _ 1 24 Tryz.underlying47 hi0 hz0 hz1 hz2 rfl (by omega) (.slice ad D.length cap) D.length vs hs hrow ⟨b, 0, none⟩ m m us hx (by rw [hm, Nat.mul_one])
    (World.news_of_block (cs := us.toArray) hblk) (oneCell_parts hN) hpos (by unfold maxLen; omega) (by omega) hbase _ rfl
    (fun g cap' w' hown' hg hat _ => have hh := rows_grown hrow h2 hN hm hbase hown' hg hat; h g cap' w' hh.1 hh.2.1 hh.2.2)
theorem step_append_rows {K : Act → World → Prop} {E : Prop} (hgd : o.guard = none) (s x : Operand)
    (ho : o.op = .call { callee := .builtin .append, args := #[s, x], argTypes := #[47, 47] })
    (base : Nat) (ad : Option Addr) (cap : Nat) (D : List (List UInt8)) (hs : a.eval s = .slice ad D.length cap) (hown : OwnR W base ad cap D)
    (us : List Value) (N : List (List UInt8)) (b m : Nat) (hm : us.length = m) (hx : a.eval x = .slice (some ⟨b, 0, none⟩) m m) (hblk : W.heap[b]? = some (.cells us.toArray 74 (0, 0)))
    (hN : PartsS (fun k => some k ≠ (Value.slice ad D.length cap).ownBlock) W us N) (hpos : 0 < m) (hn : D.length + m ≤ 1099511627776) (hbase : base ≤ W.heap.size)
    (h : ∀ g cap' w', OwnR w' base (some ⟨g, 0, none⟩) cap' (D ++ N) → Keep (fun k => some k ≠ (Value.slice ad D.length cap).ownBlock) W w' → Below base W w' → K (a.put o.dst (.slice (some ⟨g, 0, none⟩) (D.length + m) cap')) w') :
    if Region.wanted o (yielded ops a.tmps) = true then Oper.wp Tryz.prog o a W K Q else E := by
  have hw : Region.wanted o (yielded ops a.tmps) = true := by simp [Region.wanted, hgd]
  rw [if_pos hw]
  exact wp_append_rows s x ho base ad cap D hs hown us N b m hm hx hblk hN hpos hn hbase h
theorem append_rows {rest : List Oper} (hgd : o.guard = none) (s x : Operand)
    (ho : o.op = .call { callee := .builtin .append, args := #[s, x], argTypes := #[47, 47] })
    (base : Nat) (ad : Option Addr) (cap : Nat) (D : List (List UInt8)) (hs : a.eval s = .slice ad D.length cap) (hown : OwnR W base ad cap D)
    (us : List Value) (N : List (List UInt8)) (b m : Nat) (hm : us.length = m) (hx : a.eval x = .slice (some ⟨b, 0, none⟩) m m) (hblk : W.heap[b]? = some (.cells us.toArray 74 (0, 0)))
    (hN : PartsS (fun k => some k ≠ (Value.slice ad D.length cap).ownBlock) W us N) (hpos : 0 < m) (hn : D.length + m ≤ 1099511627776) (hbase : base ≤ W.heap.size)
    (h : ∀ g cap' w', OwnR w' base (some ⟨g, 0, none⟩) cap' (D ++ N) → Keep (fun k => some k ≠ (Value.slice ad D.length cap).ownBlock) W w' → Below base W w' → wpList Tryz.prog ops Q rest (a.put o.dst (.slice (some ⟨g, 0, none⟩) (D.length + m) cap')) w') : wpList Tryz.prog ops Q (o :: rest) a W :=
  wpList_plain hgd fun _ hK => wp_append_rows s x ho base ad cap D hs hown us N b m hm hx hblk hN hpos hn hbase fun g cap' w' h1 h2 h3 => hK _ _ (h g cap' w' h1 h2 h3)
end
/-- A row of the call's own lies below what is made now. -/
theorem OwnR.old {w : World} {base : Nat} {a : Option Addr} {cap : Nat} {D : List (List UInt8)} (h : OwnR w base a cap D) {B : Nat} (hB : w.heap.size ≤ B) : ∀ k, B ≤ k → some k ≠ (Value.slice a D.length cap).ownBlock := by
  obtain ⟨vs, h1, _⟩ := h
  intro k hk e
  have := (World.ownsRow.lt h1 k e.symm).2
  omega
theorem row_new {wr w0 w1 : World} {base : Nat} {a : Option Addr} {cap : Nat} {D : List (List UInt8)} {p : Option Addr} {c : Nat} {l : List UInt8} (hown : OwnR wr base a cap D) (hx0 : Ext wr w0) (h1 : OwnB w1 w0.heap.size p c l) :
    BytesS (fun k => some k ≠ (Value.slice a D.length cap).ownBlock) w1 p l := h1.fresh (hown.old hx0.size)
theorem row_one {wr w0 w1 : World} {base : Nat} {a : Option Addr} {cap : Nat} {D : List (List UInt8)} {p : Option Addr} {c : Nat} {l : List UInt8} (hown : OwnR wr base a cap D) (hx0 : Ext wr w0) (h1 : OwnB w1 w0.heap.size p c l) :
    PartsS (fun k => some k ≠ (Value.slice a D.length cap).ownBlock) w1 [.slice p l.length c] [l] := PartsS.one (row_new hown hx0 h1)
end Go.Proofs.YtnclibfhbngkjaaGreatDoor
namespace Go.Proofs.YtnclibfhbngkjaaGreatDoor
open Go.RowKit Go.Maps Go.Sort Go.Shelf
theorem sorts_names (m : Nat) : AnyZ.SortsIn Tryz.prog Tryz.sorted_string_ren Fence.wide m :=
  ⟨fun blk off cap ss W hH hblk hsz => callsIn_wide.2 (AnyM.slices_Sort_string Tryz.sort_string blk off cap ss W hH hblk hsz),
   fun p cap W => callsIn_wide.2 (AnyM.slices_Sort_string_none Tryz.sort_string p cap W)⟩
set_option maxRecDepth 100000 in
set_option maxHeartbeats 3200000 in
theorem names_some {H : Type} (b nn : Nat) (D0 : DataW H) (R : Value → Option (DataW H × List MemPlace)) (w : World) (hown : w.ownsMap Tryz.prog 9 R b nn D0) (hmax : Maps.size D0 ≤ 100000) :
    Calls Tryz.prog 20 #[.agg #[.map (some b)]] w fun e w' => ∃ (v : Value) (ss : List (List UInt8)), e = .returned v ∧ ss.Perm (strKeys D0) ∧
      w'.ownsRow w.heap.size 9 1 v ss.length ((ss.mergeSort (fun x y => decide (x ≤ y))).map encStr) ∧ Below w.heap.size w w' := by
  refine (callsIn_wide (n := 6)).1 ?_
  have hbl := hown.lt
  have hseq : SeqGives Fence.wide 2 Tryz.prog 81 #[.pointer (some ⟨w.heap.size + 1, 0, none⟩)] encStr (fun ss => ss.Perm (strKeys D0)) (Maps.size D0) ((w.alloc (.cells #[.map (some b)] 42)).alloc (.cells #[.map (some b)] 40)) :=
    AnyZ.keys_gives (ρ := Tryz.keys_base_Entry_ren) { Tryz.keys_base_Entry with } Fence.wide _ trivial rfl (by omega) (w.heap.size + 1) b nn D0 _ (by simp) (by simp) (by
      obtain ⟨es, clock, hb, Ft, hs, hD⟩ := hown
      exact ⟨es, clock, (Below.heap_alloc _ _ b (by simp; omega)).trans ((Below.heap_alloc _ _ b hbl).trans hb), Ft, hs, hD⟩)
  have cK : ∀ mb W, CallsIn Fence.wide 5 Tryz.prog 61 #[.map mb] W fun e w' => e = .returned (.func (.func 81) #[] #[.pointer (some ⟨W.heap.size, 0, none⟩)]) ∧ w' = W.alloc (.cells #[.map mb] 40) := fun mb W => AnyZ.keys_in Tryz.keys_base_Entry Fence.wide 5 trivial rfl mb W
  have cS := AnyZ.sorted_in Tryz.sorted_string Fence.wide 5 trivial trivial trivial trivial rfl (by omega) (sorts_names _) (enters_of Tryz.func65 (by kernel_rfl) rfl) 81 #[.pointer (some ⟨w.heap.size + 1, 0, none⟩)] trivial (enters_of Tryz.func81 (by kernel_rfl) rfl) _ _ (by unfold maxLen; omega) (by omega) _ hseq
  change CallsIn _ _ Tryz.prog 60 _ _ _ at cS
  have hfK : Fence.wide.fn 61 := trivial
  have hfS : Fence.wide.fn 60 := trivial
  refine callsIn_of_wp Tryz.func20 rfl trivial ?_ rfl
  simp only [Tryz.ntmps20, List.size_toArray, List.length_cons, List.length_nil, Nat.reduceAdd, Nat.reduceSub, Array.replicate_succ, Array.replicate_zero, List.push_toArray, List.append_toArray, List.nil_append, List.cons_append]
  gi_wp2_with (first
    | (gi_at_call 61; refine (cK _ _).mono ?_; rintro e w' ⟨rfl, rfl⟩)
    | (gi_at_call 60; refine cS.mono ?_; rintro e w' ⟨v, ss, rfl, hS, hrow, hnil, hb⟩))
  go_ret
  exact ⟨v, ss, rfl, hS, ownsRow_base_a hrow (by simp; omega), ((((Below.refl _ w).alloc (Nat.le_refl _) _).alloc (by simp) _).trans (hb.mono (by simp; omega)))⟩
set_option maxRecDepth 100000 in
set_option maxHeartbeats 3200000 in
theorem names_none (w : World) : Calls Tryz.prog 20 #[.agg #[.map none]] w fun e w' => e = .returned (.slice none 0 0) ∧ Below w.heap.size w w' := by
  refine (callsIn_wide (n := 6)).1 ?_
  have hseq : SeqGives Fence.wide 2 Tryz.prog 81 #[.pointer (some ⟨w.heap.size + 1, 0, none⟩)] encStr (fun ss : List (List UInt8) => ss = []) 0 ((w.alloc (.cells #[.map none] 42)).alloc (.cells #[.map none] 40)) :=
    AnyZ.keys_gives_nil (ρ := Tryz.keys_base_Entry_ren) { Tryz.keys_base_Entry with } Fence.wide _ trivial rfl (w.heap.size + 1) _ (by simp) (by simp)
  have cK : ∀ mb W, CallsIn Fence.wide 5 Tryz.prog 61 #[.map mb] W fun e w' => e = .returned (.func (.func 81) #[] #[.pointer (some ⟨W.heap.size, 0, none⟩)]) ∧ w' = W.alloc (.cells #[.map mb] 40) := fun mb W => AnyZ.keys_in Tryz.keys_base_Entry Fence.wide 5 trivial rfl mb W
  have cS := AnyZ.sorted_in Tryz.sorted_string Fence.wide 5 trivial trivial trivial trivial rfl (by omega) (sorts_names _) (enters_of Tryz.func65 (by kernel_rfl) rfl) 81 #[.pointer (some ⟨w.heap.size + 1, 0, none⟩)] trivial (enters_of Tryz.func81 (by kernel_rfl) rfl) _ 0 (Nat.zero_le _) (by omega) _ hseq
  change CallsIn _ _ Tryz.prog 60 _ _ _ at cS
  have hfK : Fence.wide.fn 61 := trivial
  have hfS : Fence.wide.fn 60 := trivial
  refine callsIn_of_wp Tryz.func20 rfl trivial ?_ rfl
  simp only [Tryz.ntmps20, List.size_toArray, List.length_cons, List.length_nil, Nat.reduceAdd, Nat.reduceSub, Array.replicate_succ, Array.replicate_zero, List.push_toArray, List.append_toArray, List.nil_append, List.cons_append]
  gi_wp2_with (first
    | (gi_at_call 61; refine (cK _ _).mono ?_; rintro e w' ⟨rfl, rfl⟩)
    | (gi_at_call 60; refine cS.mono ?_; rintro e w' ⟨v, ss, rfl, rfl, hrow, hnil, hb⟩; obtain rfl : v = .slice none 0 0 := hnil.2 rfl))
  go_ret
  exact ⟨rfl, ((((Below.refl _ w).alloc (Nat.le_refl _) _).alloc (by simp) _).trans (hb.mono (by simp; omega)))⟩
/-- What Names answers. -/
def NamesR (N : Nat) (f : BaseF) (w : World) (e : Ending) (w' : World) : Prop := ∃ a c ss, e = .returned (.slice a ss.length c) ∧ NamesF f ss ∧ OwnS w' w.heap.size a c ss ∧ ss.length ≤ N ∧ Ext w w'
theorem base_names (v : Value) (N : Nat) (f : BaseF) (w : World) (hb : BaseM w v N f) (hN : N ≤ 100000) : Calls Tryz.prog 20 #[v] w (NamesR N f w) := by
  rcases hb with ⟨rfl, rfl⟩ | ⟨b, A, rfl, h⟩
  · exact (names_none w).mono fun e w' ⟨he, hb⟩ => ⟨none, 0, [], he, ⟨by simp, by simp, by simp [noneF]⟩, OwnS.nil _ _, Nat.zero_le _, hb⟩
  · obtain ⟨D, h1, h2, h3⟩ := h.1
    have hs := h1.size_le
    refine (names_some b N D selfR w h1 (by omega)).mono ?_
    rintro e w' ⟨v, ss, rfl, hp, hr, hb⟩
    obtain ⟨g1, g2, g3⟩ := sorted_names h1 (f := entF f A) (fun x => (h3 x).2) hp
    have hl : (ss.mergeSort leB).length = ss.length := (List.mergeSort_perm ss leB).length_eq
    have hsz : ss.length ≤ N := by
      rw [hp.length_eq]
      obtain ⟨es, hD⟩ := h2
      rw [hD] at hs ⊢
      simpa [strKeys, Maps.size_eq] using hs
    have hv : ∃ a c, v = .slice a ss.length c := by
      rcases hr.2 with ⟨q1, q2⟩ | ⟨g, c, cur, q1, _⟩
      · exact ⟨none, 0, by rw [q1, q2]⟩
      · exact ⟨_, c, q1⟩
    obtain ⟨a, c, rfl⟩ := hv
    refine ⟨a, c, ss.mergeSort leB, by rw [hl], ⟨g1, g2, fun x => ?_⟩, ?_, by rw [hl]; exact hsz, hb⟩
    · rw [g3 x]
      unfold entF
      cases f x <;> simp
    · unfold OwnS
      rw [hl]
      exact hr
end Go.Proofs.YtnclibfhbngkjaaGreatDoor
namespace Go.Proofs.YtnclibfhbngkjaaGreatDoor
def newF (E : List PkgD) : BaseF := E.foldl withF noneF
theorem newF_snoc (E : List PkgD) (e : PkgD) : newF (E ++ [e]) = withF (newF E) e := by simp [newF, List.foldl_append]
/-- The first right package of each name, as they are there. -/
def addNew (E : List PkgD) (p : PkgD) : List PkgD := if rightP p && !(E.any fun e => decide (e.name = p.name)) then E ++ [ofP p] else E
def firsts (L : List PkgD) : List PkgD := L.foldl addNew []
theorem firsts_snoc (L : List PkgD) (p : PkgD) : firsts (L ++ [p]) = addNew (firsts L) p := by simp [firsts, List.foldl_append]
def GoodL (E : List PkgD) : Prop := (∀ e ∈ E, rightP e = true ∧ SumsP e) ∧ (E.map PkgD.name).Nodup
theorem GoodL.nil : GoodL [] := ⟨fun _ h => by simp at h, by simp⟩
theorem GoodL.add {E : List PkgD} (h : GoodL E) (p : PkgD) : GoodL (addNew E p) := by
  unfold addNew
  split
  · rename_i hc
    simp only [Bool.and_eq_true, Bool.not_eq_true', List.any_eq_false, decide_eq_true_eq] at hc
    refine ⟨fun e he => ?_, ?_⟩
    · rcases List.mem_append.1 he with he | he
      · exact h.1 e he
      · rw [List.mem_singleton.1 he]; exact ⟨ofP_right hc.1, ofP_sums p⟩
    · rw [List.map_append, List.nodup_append]
      refine ⟨h.2, by simp, fun a ha b hb e => ?_⟩
      obtain ⟨d, hd, rfl⟩ := List.mem_map.1 ha
      simp only [List.map_cons, List.map_nil, List.mem_singleton] at hb
      exact hc.2 d hd (by rw [e, hb]; rfl)
  · exact h
theorem firsts_good (L : List PkgD) : GoodL (firsts L) := by
  have : ∀ (L E : List PkgD), GoodL E → GoodL (L.foldl addNew E) := by
    intro L
    induction L with
    | nil => intro E h; exact h
    | cons a L ih => intro E h; exact ih _ (h.add a)
  exact this L [] GoodL.nil
theorem addNew_len (E : List PkgD) (p : PkgD) : (addNew E p).length ≤ E.length + 1 := by unfold addNew; split <;> simp
theorem firsts_len (L : List PkgD) : (firsts L).length ≤ L.length := by
  have : ∀ (L E : List PkgD), (L.foldl addNew E).length ≤ E.length + L.length := by
    intro L
    induction L with
    | nil => intro E; simp
    | cons a L ih => intro E; have := ih (addNew E a); have := addNew_len E a; simp only [List.foldl_cons, List.length_cons]; omega
  have := this L []
  simpa [firsts] using this
theorem GoodL.reverse {E : List PkgD} (h : GoodL E) : GoodL E.reverse := ⟨fun e he => h.1 e (List.mem_reverse.1 he), by rw [List.map_reverse]; exact (List.reverse_perm _).nodup_iff.2 h.2⟩
/-- At a name that one of them bears there is it; at no other name is anything. -/
theorem newF_mem {E : List PkgD} (h : (E.map PkgD.name).Nodup) (x : By) (e : PkgD) : newF E x = some e ↔ e ∈ E ∧ e.name = x := by
  have : ∀ (E : List PkgD) (f : BaseF), (E.map PkgD.name).Nodup → (E.foldl withF f x = some e ↔ (e ∈ E ∧ e.name = x) ∨ ((∀ d ∈ E, d.name ≠ x) ∧ f x = some e)) := by
    intro E
    induction E with
    | nil => intro f _; simp
    | cons a E ih =>
      intro f hn
      rw [List.map_cons, List.nodup_cons] at hn
      rw [List.foldl_cons, ih _ hn.2]
      unfold withF
      by_cases hx : x = a.name
      · subst hx
        have hno : ∀ d ∈ E, d.name ≠ a.name := fun d hd e => hn.1 (List.mem_map.2 ⟨d, hd, e⟩)
        simp only [if_true, Option.some.injEq, List.mem_cons]
        constructor
        · rintro (⟨h1, h2⟩ | ⟨_, h2⟩)
          · exact absurd h2 (hno e h1)
          · exact Or.inl ⟨Or.inl h2.symm, by rw [h2]⟩
        · rintro (⟨h1 | h1, h2⟩ | ⟨h1, _⟩)
          · exact Or.inr ⟨hno, h1.symm⟩
          · exact absurd h2 (hno e h1)
          · exact absurd rfl (h1 a (by simp))
      · simp only [if_neg hx, List.mem_cons]
        constructor
        · rintro (⟨h1, h2⟩ | ⟨h1, h2⟩)
          · exact Or.inl ⟨Or.inr h1, h2⟩
          · exact Or.inr ⟨fun d hd => by rcases hd with rfl | hd
                                         · exact fun e => hx e.symm
                                         · exact h1 d hd, h2⟩
        · rintro (⟨h1 | h1, h2⟩ | ⟨h1, h2⟩)
          · subst h1; exact absurd h2.symm hx
          · exact Or.inl ⟨h1, h2⟩
          · exact Or.inr ⟨fun d hd => h1 d (Or.inr hd), h2⟩
  have := this E noneF h
  unfold newF
  rw [this]
  simp [noneF]
theorem newF_good {E : List PkgD} (h : GoodL E) : GoodF (newF E) := by
  intro x e he
  have := (newF_mem h.2 x e).1 he
  exact ⟨this.2, h.1 e this.1⟩
theorem newF_reverse {E : List PkgD} (h : GoodL E) : newF E.reverse = newF E := by
  funext x
  cases hx : newF E x with
  | none =>
    cases hy : newF E.reverse x with
    | none => rfl
    | some e =>
      have := (newF_mem h.reverse.2 x e).1 hy
      have := (newF_mem h.2 x e).2 ⟨List.mem_reverse.1 this.1, this.2⟩
      rw [hx] at this; cases this
  | some e =>
    have := (newF_mem h.2 x e).1 hx
    exact (newF_mem h.reverse.2 x e).2 ⟨List.mem_reverse.2 this.1, this.2⟩
theorem perm_of_sub {α : Type} : ∀ (E D : List α), E.Nodup → (∀ e ∈ E, e ∈ D) → D.length ≤ E.length → E.Perm D
  | [], D, _, _, h => by
    have : D = [] := List.eq_nil_of_length_eq_zero (by simpa using h)
    rw [this]
  | a :: E, D, hn, hs, hl => by
    obtain ⟨s, t, rfl⟩ := List.append_of_mem (hs a (by simp))
    rw [List.nodup_cons] at hn
    have hp : (s ++ a :: t).Perm (a :: (s ++ t)) := List.perm_middle
    have ih := perm_of_sub E (s ++ t) hn.2 (fun e he => by
      have := hs e (by simp [he])
      have hne : e ≠ a := fun k => hn.1 (k ▸ he)
      simp only [List.mem_append, List.mem_cons] at this ⊢
      rcases this with h | h | h
      · exact Or.inl h
      · exact absurd h hne
      · exact Or.inr h) (by simp only [List.length_append, List.length_cons] at hl ⊢; omega)
    exact (ih.cons a).trans hp.symm
/-- What is kept of each package at its name: its bytes with the sums. -/
def heldF (E : List PkgD) : By → Option By := fun x => (newF E x).map packP
/-- Are two lists alike? -/
def AlikeL (E D : List PkgD) : Prop := E.length = D.length ∧ ∀ x k, heldF E x = some k → heldF D x = some k
theorem alike_iff {E D : List PkgD} (h : GoodL E) (k : GoodL D) : AlikeL E D ↔ newF E = newF D := by
  constructor
  · rintro ⟨hl, hh⟩
    have hsub : ∀ e ∈ E, e ∈ D := by
      intro e he
      have h1 : newF E e.name = some e := (newF_mem h.2 _ _).2 ⟨he, rfl⟩
      have h2 : heldF E e.name = some (packP e) := by unfold heldF; rw [h1]; rfl
      have h3 := hh _ _ h2
      unfold heldF at h3
      cases hd : newF D e.name with
      | none => rw [hd] at h3; cases h3
      | some d =>
        rw [hd] at h3
        have hd' := (newF_mem k.2 _ _).1 hd
        have : d = e := packP_inj (k.1 d hd'.1).1 (h.1 e he).1 (Option.some.inj h3)
        rw [← this]; exact hd'.1
    have hE : E.Nodup := List.Pairwise.of_map PkgD.name (fun a b hab e => hab (by rw [e])) h.2
    have hD : D.Nodup := List.Pairwise.of_map PkgD.name (fun a b hab e => hab (by rw [e])) k.2
    have hp : E.Perm D := perm_of_sub E D hE hsub (by omega)
    funext x
    cases hx : newF D x with
    | none =>
      cases hy : newF E x with
      | none => rfl
      | some e =>
        have := (newF_mem h.2 x e).1 hy
        have := (newF_mem k.2 x e).2 ⟨hp.mem_iff.1 this.1, this.2⟩
        rw [hx] at this; cases this
    | some e =>
      have := (newF_mem k.2 x e).1 hx
      exact (newF_mem h.2 x e).2 ⟨hp.mem_iff.2 this.1, this.2⟩
  · intro e
    refine ⟨?_, fun x y hy => by unfold heldF at hy ⊢; rw [← e]; exact hy⟩
    have hE : E.Nodup := List.Pairwise.of_map PkgD.name (fun a b hab e => hab (by rw [e])) h.2
    have hD : D.Nodup := List.Pairwise.of_map PkgD.name (fun a b hab e => hab (by rw [e])) k.2
    have hp : E.Perm D := (List.perm_ext_iff_of_nodup hE hD).2 fun d => by
      constructor
      · intro hd
        have : newF E d.name = some d := (newF_mem h.2 _ _).2 ⟨hd, rfl⟩
        rw [e] at this
        exact ((newF_mem k.2 _ _).1 this).1
      · intro hd
        have : newF D d.name = some d := (newF_mem k.2 _ _).2 ⟨hd, rfl⟩
        rw [← e] at this
        exact ((newF_mem h.2 _ _).1 this).1
    exact hp.length_eq
theorem packP_pos (p : PkgD) : packP p ≠ [] := by
  intro h
  have : (packP p).length = 0 := by rw [h]; rfl
  simp [packP, raw4_len] at this
end Go.Proofs.YtnclibfhbngkjaaGreatDoor
namespace Go.Proofs.YtnclibfhbngkjaaGreatDoor
structure FaultD where
  code : Nat
  name : By
  what : By
def okD : FaultD := ⟨0, [], []⟩
/-- Is a need not met? -/
def needBad (f : BaseF) (x : NeedD) : Bool := match f x.name with
  | none => true
  | some y => !fitsV (verL y.ver) (verL x.ver) x.way
def needsFault (f : BaseF) (n : By) (L : List NeedD) : Option FaultD := L.findSome? fun x => if needBad f x then some ⟨16, n, x.name⟩ else none
def confFault (f : BaseF) (n : By) (L : List By) : Option FaultD := L.findSome? fun c => if (f c).isSome then some ⟨17, n, c⟩ else none
def entFault (f : BaseF) (n : By) : Option FaultD := match needsFault f n ((f n).getD pz).needs with
  | some x => some x
  | none => confFault f n ((f n).getD pz).conf
/-- Whose a file is: the first one. -/
def hasPath (f : BaseF) (p n : By) : Bool := ((f n).getD pz).files.any fun g => decide (g.path = p)
def ownerN (f : BaseF) (ss : List By) (p : By) : By := (ss.find? (hasPath f p)).getD []
/-- Is some file's path one within which another one would stand? -/
def anyIn (f : BaseF) (ss : List By) (p : By) : Bool := ss.any fun n => ((f n).getD pz).files.any fun g => withinL p g.path
def fileBad (f : BaseF) (ss : List By) (n : By) (g : FileD) : Bool := !decide (ownerN f ss g.path = n) || anyIn f ss g.path
def filesFault (f : BaseF) (ss : List By) (n : By) (L : List FileD) : Option FaultD := L.findSome? fun g => if fileBad f ss n g then some ⟨18, n, g.path⟩ else none
def entsFault (f : BaseF) (ss : List By) : Option FaultD := ss.findSome? fun n => entFault f n
def pathsFault (f : BaseF) (ss : List By) : Option FaultD := ss.findSome? fun n => filesFault f ss n ((f n).getD pz).files
def checkD (f : BaseF) (ss : List By) : FaultD :=
  if 24 < ss.length then ⟨7, [], []⟩ else match entsFault f ss with
    | some x => x
    | none => match pathsFault f ss with
      | some x => x
      | none => okD
/-- May they be there together? -/
def CheckOK (f : BaseF) (ss : List By) : Prop := ss.length ≤ 24 ∧ (∀ n ∈ ss, (∀ x ∈ ((f n).getD pz).needs, needBad f x = false) ∧ ∀ c ∈ ((f n).getD pz).conf, (f c).isSome = false) ∧
  ∀ n ∈ ss, ∀ g ∈ ((f n).getD pz).files, ownerN f ss g.path = n ∧ anyIn f ss g.path = false
theorem findSome_code {α : Type} {L : List α} {h : α → Option FaultD} {x : FaultD} (hc : ∀ a y, h a = some y → y.code ≠ 0) (e : L.findSome? h = some x) : x.code ≠ 0 := by
  obtain ⟨a, _, ha⟩ := List.exists_of_findSome?_eq_some e
  exact hc a x ha
theorem needs_code {f : BaseF} {n : By} {L : List NeedD} {x : FaultD} (e : needsFault f n L = some x) : x.code ≠ 0 :=
  findSome_code (fun a y h => by split at h <;> cases h; exact (by decide : (16 : Nat) ≠ 0)) e
theorem conf_code {f : BaseF} {n : By} {L : List By} {x : FaultD} (e : confFault f n L = some x) : x.code ≠ 0 :=
  findSome_code (fun a y h => by split at h <;> cases h; exact (by decide : (17 : Nat) ≠ 0)) e
theorem ent_code {f : BaseF} {n : By} {x : FaultD} (e : entFault f n = some x) : x.code ≠ 0 := by
  unfold entFault at e
  split at e
  · rename_i h; cases e; exact needs_code h
  · exact conf_code e
theorem files_code {f : BaseF} {ss : List By} {n : By} {L : List FileD} {x : FaultD} (e : filesFault f ss n L = some x) : x.code ≠ 0 :=
  findSome_code (fun a y h => by split at h <;> cases h; exact (by decide : (18 : Nat) ≠ 0)) e
theorem check_ok (f : BaseF) (ss : List By) : (checkD f ss).code = 0 ↔ CheckOK f ss := by
  have hn : ∀ n (L : List NeedD), needsFault f n L = none ↔ ∀ x ∈ L, needBad f x = false := by
    intro n L
    unfold needsFault
    rw [List.findSome?_eq_none_iff]
    constructor
    · intro h x hx
      have := h x hx
      cases hb : needBad f x
      · rfl
      · rw [hb] at this; cases this
    · intro h x hx; rw [h x hx]; rfl
  have hcf : ∀ n (L : List By), confFault f n L = none ↔ ∀ c ∈ L, (f c).isSome = false := by
    intro n L
    unfold confFault
    rw [List.findSome?_eq_none_iff]
    constructor
    · intro h x hx
      have := h x hx
      cases hb : (f x).isSome
      · rfl
      · rw [hb] at this; cases this
    · intro h x hx; rw [h x hx]; rfl
  have hf : ∀ n (L : List FileD), filesFault f ss n L = none ↔ ∀ g ∈ L, ownerN f ss g.path = n ∧ anyIn f ss g.path = false := by
    intro n L
    unfold filesFault
    rw [List.findSome?_eq_none_iff]
    constructor
    · intro h x hx
      have := h x hx
      cases hb : fileBad f ss n x
      · unfold fileBad at hb
        simp only [Bool.or_eq_false_iff, Bool.not_eq_false', decide_eq_true_eq] at hb
        exact hb
      · rw [hb] at this; cases this
    · intro h x hx
      have : fileBad f ss n x = false := by unfold fileBad; rw [(h x hx).2, decide_eq_true (h x hx).1]; rfl
      rw [this]; rfl
  have he : ∀ n, entFault f n = none ↔ (∀ x ∈ ((f n).getD pz).needs, needBad f x = false) ∧ ∀ c ∈ ((f n).getD pz).conf, (f c).isSome = false := by
    intro n
    unfold entFault
    rw [← hn n, ← hcf n]
    cases h : needsFault f n ((f n).getD pz).needs <;> simp
  unfold checkD CheckOK
  by_cases h24 : 24 < ss.length
  · rw [if_pos h24]; constructor
    · intro h; cases h
    · intro h; omega
  · rw [if_neg h24]
    cases ha : entsFault f ss with
    | some x =>
      have hx : x.code ≠ 0 := findSome_code (fun a y h => ent_code h) ha
      constructor
      · intro h; exact absurd h hx
      · rintro ⟨_, h2, _⟩
        have : entsFault f ss = none := List.findSome?_eq_none_iff.2 fun n hn' => (he n).2 (h2 n hn')
        rw [ha] at this; cases this
    | none =>
      cases hb : pathsFault f ss with
      | some x =>
        have hx : x.code ≠ 0 := findSome_code (fun a y h => files_code h) hb
        constructor
        · intro h; exact absurd h hx
        · rintro ⟨_, _, h3⟩
          have : pathsFault f ss = none := List.findSome?_eq_none_iff.2 fun n hn' => (hf n _).2 (h3 n hn')
          rw [hb] at this; cases this
      | none =>
        constructor
        · intro _
          exact ⟨by omega, fun n hn' => (he n).1 (List.findSome?_eq_none_iff.1 ha n hn'), fun n hn' => (hf n _).1 (List.findSome?_eq_none_iff.1 hb n hn')⟩
        · intro _; rfl
/-! ### Changes -/
def comeFault (f : BaseF) (seen : List By) (p : PkgD) : Option FaultD :=
  if rightP p = false then some ⟨4, p.name, []⟩ else if p.name ∈ seen then some ⟨9, p.name, []⟩ else match f p.name with
    | none => none
    | some e => if cmpV (verL p.ver) (verL e.ver) ≤ 0 then some ⟨15, p.name, e.ver⟩ else none
def comesFault (f : BaseF) : List By → List PkgD → Option FaultD
  | _, [] => none
  | seen, p :: L => match comeFault f seen p with
    | some x => some x
    | none => comesFault f (seen ++ [p.name]) L
def goFault (f : BaseF) (seen : List By) (n : By) : Option FaultD := if n ∈ seen then some ⟨9, n, []⟩ else if (f n).isSome then none else some ⟨8, n, []⟩
def gosFault (f : BaseF) : List By → List By → Option FaultD
  | _, [] => none
  | seen, n :: L => match goFault f seen n with
    | some x => some x
    | none => gosFault f (seen ++ [n]) L
def outF (f : BaseF) (come : List PkgD) (go : List By) : BaseF := (come.map ofP).foldl withF (go.foldl lessF f)
/-- What is wrong with a change, but for what would be there then. -/
def preFault (f : BaseF) (come : List PkgD) (go : List By) : Option FaultD :=
  if come.length + go.length = 0 then some ⟨1, [], []⟩ else match comesFault f [] come with
    | some x => some x
    | none => gosFault f (come.map PkgD.name) go
end Go.Proofs.YtnclibfhbngkjaaGreatDoor
