/- Changes and packages as cells one behind the other; append of elements of whatever size, the source nil, empty or not. -/
import Derived.Test.YtnclibfhbngkjaaGreatDoorDepCount
import Derived.Maps.AppendAt
namespace Go.Proofs.YtnclibfhbngkjaaGreatDoor
open Go.RowKit
theorem runM_of {α : Type} {F : α → List Value} {m : Nat} (hm : ∀ x, (F x).length = m) (hp : 0 < m) {w : World} {g off : Nat} (hg : g < w.heap.size) {L : List α}
    (h : ∀ i (hi : i < L.length) r u, (F L[i])[r]? = some u → w.cell? ⟨g, off + i * m + r, none⟩ = some u) : RunM w (some ⟨g, off, none⟩) (L.flatMap F) := by
  refine Or.inr ⟨g, off, rfl, hg, fun j u hj => ?_⟩
  have hjl := (List.getElem?_eq_some_iff.1 hj).1
  rw [flat_lenm hm] at hjl
  have hi : j / m < L.length := Nat.div_lt_of_lt_mul (by rw [Nat.mul_comm]; exact hjl)
  have e := flat_at hm L (j / m) (j % m) hi (Nat.mod_lt _ hp)
  have ej : j / m * m + j % m = j := Nat.div_add_mod' j m
  rw [ej, hj] at e
  have := h (j / m) hi (j % m) u e.symm
  rwa [show off + j / m * m + j % m = off + j by omega] at this
theorem of_runM {α : Type} {F : α → List Value} {m : Nat} (hm : ∀ x, (F x).length = m) (hp : 0 < m) {w : World} {a : Option Addr} {L : List α} (h : RunM w a (L.flatMap F)) :
    L = [] ∨ ∃ g off, a = some ⟨g, off, none⟩ ∧ g < w.heap.size ∧ ∀ i (hi : i < L.length) r u, r < m → (F L[i])[r]? = some u → w.cell? ⟨g, off + i * m + r, none⟩ = some u := by
  rcases h with h | ⟨g, off, ha, hg, hc⟩
  · left
    have := flat_lenm hm L
    rw [h] at this
    have h0 : L.length * m = 0 := this.symm
    rcases Nat.mul_eq_zero.1 h0 with h1 | h1
    · exact List.eq_nil_of_length_eq_zero h1
    · omega
  · refine Or.inr ⟨g, off, ha, hg, fun i hi r u hr hu => ?_⟩
    have := hc (i * m + r) u (by rw [flat_at hm L i r hi hr]; exact hu)
    rwa [← Nat.add_assoc] at this
/-- A change's cells. -/
def chV (x : ChD × ChA) : List Value := [.slice x.2.ca x.1.come.length x.2.cc, .slice x.2.ga x.1.go.length x.2.gc]
theorem ch_run {w : World} {a : Option Addr} {L : List (ChD × ChA)} (h : ChL w a L) : RunM w a (L.flatMap chV) ∧ ∀ x ∈ L, ChM w x := by
  rcases h with h | ⟨g, off, ha, hg, hc⟩
  · subst h; exact ⟨Or.inl rfl, by simp⟩
  · subst ha
    refine ⟨runM_of (m := 2) (fun _ => rfl) (by omega) hg (fun i hi r u hu => ?_), fun x hx => ?_⟩
    · obtain ⟨⟨c0, c1⟩, _⟩ := hc i hi
      have eL : L.getD i cz = L[i] := by simp [List.getD_eq_getElem?_getD, List.getElem?_eq_getElem hi]
      rw [eL] at c0 c1
      match r, hu with
      | 0, hu => cases hu; exact c0
      | 1, hu => cases hu; exact c1
      | r + 2, hu => simp [chV] at hu
    · obtain ⟨i, hi, rfl⟩ := List.getElem_of_mem hx
      have := (hc i hi).2
      simpa [List.getD_eq_getElem?_getD, List.getElem?_eq_getElem hi] using this
theorem run_ch {w : World} {a : Option Addr} {L : List (ChD × ChA)} (h : RunM w a (L.flatMap chV)) (hm : ∀ x ∈ L, ChM w x) : ChL w a L := by
  rcases of_runM (m := 2) (fun _ => rfl) (by omega) h with h | ⟨g, off, ha, hg, hc⟩
  · exact Or.inl h
  · refine Or.inr ⟨g, off, ha, hg, fun i hi => ?_⟩
    have eL : L.getD i cz = L[i] := by simp [List.getD_eq_getElem?_getD, List.getElem?_eq_getElem hi]
    rw [eL]
    exact ⟨⟨hc i hi 0 _ (by omega) rfl, hc i hi 1 _ (by omega) rfl⟩, hm _ (List.getElem_mem hi)⟩
/-- A package's cells. -/
def pkV (x : PkgD × PkgA) : List Value := [.string (bs x.1.name), .string (bs x.1.ver), .slice x.2.an x.1.needs.length x.2.cn, .slice x.2.ac x.1.conf.length x.2.cc, .slice x.2.af x.1.files.length x.2.cf, .slice x.2.au x.1.units.length x.2.cu]
theorem pk_run {w : World} {a : Option Addr} {L : List (PkgD × PkgA)} (h : PkgsL w a L) : RunM w a (L.flatMap pkV) ∧ ∀ x ∈ L, PkgM w x.1 x.2 ∧ PkgC x.1 x.2 := by
  rcases h with h | ⟨g, off, ha, hg, hc⟩
  · subst h; exact ⟨Or.inl rfl, by simp⟩
  · subst ha
    refine ⟨runM_of (m := 6) (fun _ => rfl) (by omega) hg (fun i hi r u hu => ?_), fun x hx => ?_⟩
    · obtain ⟨⟨c0, c1, c2, c3, c4, c5⟩, _⟩ := hc i hi
      have eL : L.getD i ez = L[i] := by simp [List.getD_eq_getElem?_getD, List.getElem?_eq_getElem hi]
      rw [eL] at c0 c1 c2 c3 c4 c5
      match r, hu with
      | 0, hu => cases hu; exact c0
      | 1, hu => cases hu; exact c1
      | 2, hu => cases hu; exact c2
      | 3, hu => cases hu; exact c3
      | 4, hu => cases hu; exact c4
      | 5, hu => cases hu; exact c5
      | r + 6, hu => simp [pkV] at hu
    · obtain ⟨i, hi, rfl⟩ := List.getElem_of_mem hx
      have := (hc i hi).2
      simpa [List.getD_eq_getElem?_getD, List.getElem?_eq_getElem hi] using this
theorem run_pk {w : World} {a : Option Addr} {L : List (PkgD × PkgA)} (h : RunM w a (L.flatMap pkV)) (hm : ∀ x ∈ L, PkgM w x.1 x.2 ∧ PkgC x.1 x.2) : PkgsL w a L := by
  rcases of_runM (m := 6) (fun _ => rfl) (by omega) h with h | ⟨g, off, ha, hg, hc⟩
  · exact Or.inl h
  · refine Or.inr ⟨g, off, ha, hg, fun i hi => ?_⟩
    have eL : L.getD i ez = L[i] := by simp [List.getD_eq_getElem?_getD, List.getElem?_eq_getElem hi]
    rw [eL]
    exact ⟨⟨hc i hi 0 _ (by omega) rfl, hc i hi 1 _ (by omega) rfl, hc i hi 2 _ (by omega) rfl, hc i hi 3 _ (by omega) rfl, hc i hi 4 _ (by omega) rfl, hc i hi 5 _ (by omega) rfl⟩, hm _ (List.getElem_mem hi)⟩
theorem row_apart {w : World} {base E size n : Nat} {v : Value} {xs : List Value} (h : w.ownsRow base E size v n xs) {k : Nat} {cur : Array Value} {E' : TypeId} {fr : Nat × Nat} (hk : w.heap[k]? = some (.cells cur E' fr)) (hE : E ≠ E') : some k ≠ v.ownBlock := by
  intro e
  rcases h.2 with ⟨h1, _⟩ | ⟨g, c, cur', h1, _, hg, _⟩
  · rw [h1] at e; cases e
  · rw [h1] at e
    have e' : k = g := Option.some.inj e
    subst e'
    rw [hg] at hk
    injection (Option.some.inj hk) with _ h2
    exact hE h2
/-- A row that was made with nothing in it. -/
theorem row_zero {w : World} {base E size g : Nat} (hg : w.heap[g]? = some (.cells #[] E (0, 0))) (hb : base ≤ g) : w.ownsRow base E size (.slice (some ⟨g, 0, none⟩) 0 0) 0 [] :=
  ⟨by simp, Or.inr ⟨g, 0, #[], rfl, hb, hg, Nat.le_refl _, Nat.zero_le _, by simp, by simp⟩⟩
theorem run_blk {w : World} {g : Nat} {us : List Value} {t : TypeId} (h : w.heap[g]? = some (.cells us.toArray t (0, 0))) : RunM w (some ⟨g, 0, none⟩) us :=
  Or.inr ⟨g, 0, rfl, (Array.getElem?_eq_some_iff.1 h).1, fun j u hj => by rw [Nat.zero_add]; exact blk_cell h j u (by simpa using hj)⟩
section
variable {ops : Array Oper} {o : Oper} {a : Act} {Q : Exit → Act → World → Prop} {W : World}
theorem wp_append_any {P : Program} {K : Act → World → Prop} (s x : Operand) (T E : TypeId) (z : Value) (size bytes : Nat)
    (ho : o.op = .call { callee := .builtin .append, args := #[s, x], argTypes := #[T, T] }) (hT : P.underlying T = some (.slice E)) (hi : (P.info? E).map (fun i => (i.zero, i.size, i.bytes)) = some (some z, size, bytes)) (hz1 : z.cells.size = size) (hsz : 0 < size)
    (base : Nat) (ad : Option Addr) (n cap : Nat) (xs : List Value) (hs : a.eval s = .slice ad n cap) (hown : W.ownsRow base E size (.slice ad n cap) n xs)
    (b : Option Addr) (m c : Nat) (ys : List Value) (hx : a.eval x = .slice b m c) (hm : ys.length = m * size) (hb : RunM W b ys) (h1 : ∀ u ∈ ys, u.oneCell' = true)
    (h63 : (n + m) * bytes ≤ 140737488355328) (hby : 0 < bytes) (hbase : base ≤ W.heap.size) (t : Nat) (ht : n + m = t)
    (h : ∀ ad' cap' w', w'.ownsRow base E size (.slice ad' t cap') t (xs ++ ys) → Keep (fun k => some k ≠ (Value.slice ad n cap).ownBlock) W w' → Below base W w' → K (a.put o.dst (.slice ad' t cap')) w') : o.wp P a W K Q := by
  obtain ⟨i, hi0, hz, hs1, hb1⟩ := info_parts hi
  subst ht
  have hmax : n + m ≤ maxLen := by
    have : n + m ≤ (n + m) * bytes := Nat.le_mul_of_pos_right _ hby
    unfold maxLen; omega
  cases b with
  | none =>
    have hp : ys = [] := by
      rcases hb with hb | ⟨g, off, ha, _⟩
      · exact hb
      · cases ha
    subst hp
    have hm0 : m = 0 := by
      rcases Nat.mul_eq_zero.1 hm.symm with h | h
      · exact h
      · omega
    subst hm0
    have hr := run_append_of_nil (P := P) W base T o.type E i size hT hi0 _ n _ hown c
    unfold Oper.wp execOp
    simp only [ho, resolve, invoke, builtin, Sem.run_bind, Sem.run_pure, Result.andThen_ok, List.map_toArray, List.map_cons, List.map_nil, hs, hx, hr]
    have := h ad cap W (by simpa using hown) (Keep.refl _ _) (Below.refl _ _)
    rw [Nat.add_zero] at this
    exact this
  | some bd =>
    have hcells : ∀ j u, ys[j]? = some u → W.cell? (bd.add j) = some u := by
      intro j u hj
      rcases hb with hb | ⟨g, off, ha, _, hc⟩
      · subst hb; simp at hj
      · have ha := Option.some.inj ha
        subst ha
        rw [addr_add]
        exact hc j u hj
    obtain ⟨v', w', hr, h2, h3, h4⟩ := run_append_own (P := P) W base T o.type E i z size bytes hT hi0 hz hs1 hb1 hz1 hsz _ n _ hown bd m c ys hm hcells h1 hmax h63 hbase
    have hbel : Below base W w' := (Below.refl _ _).grown h3 hbase (fun k hk => (World.ownsRow.lt hown k hk).1)
    unfold Oper.wp execOp
    simp only [ho, resolve, invoke, builtin, Sem.run_bind, Sem.run_pure, Result.andThen_ok, List.map_toArray, List.map_cons, List.map_nil, hs, hx, hr]
    obtain ⟨a', c', rfl, _, _, _⟩ := run_of_row h2
    exact h a' c' w' h2 (Keep.of_grown h3) hbel
theorem step_append_any {P : Program} {K : Act → World → Prop} {E' : Prop} (hgd : o.guard = none) (s x : Operand) (T E : TypeId) (z : Value) (size bytes : Nat)
    (ho : o.op = .call { callee := .builtin .append, args := #[s, x], argTypes := #[T, T] }) (hT : P.underlying T = some (.slice E)) (hi : (P.info? E).map (fun i => (i.zero, i.size, i.bytes)) = some (some z, size, bytes)) (hz1 : z.cells.size = size) (hsz : 0 < size)
    (base : Nat) (ad : Option Addr) (n cap : Nat) (xs : List Value) (hs : a.eval s = .slice ad n cap) (hown : W.ownsRow base E size (.slice ad n cap) n xs)
    (b : Option Addr) (m c : Nat) (ys : List Value) (hx : a.eval x = .slice b m c) (hm : ys.length = m * size) (hb : RunM W b ys) (h1 : ∀ u ∈ ys, u.oneCell' = true)
    (h63 : (n + m) * bytes ≤ 140737488355328) (hby : 0 < bytes) (hbase : base ≤ W.heap.size) (t : Nat) (ht : n + m = t)
    (h : ∀ ad' cap' w', w'.ownsRow base E size (.slice ad' t cap') t (xs ++ ys) → Keep (fun k => some k ≠ (Value.slice ad n cap).ownBlock) W w' → Below base W w' → K (a.put o.dst (.slice ad' t cap')) w') :
    if Region.wanted o (yielded ops a.tmps) = true then Oper.wp P o a W K Q else E' := by
  have hw : Region.wanted o (yielded ops a.tmps) = true := by simp [Region.wanted, hgd]
  rw [if_pos hw]
  exact wp_append_any s x T E z size bytes ho hT hi hz1 hsz base ad n cap xs hs hown b m c ys hx hm hb h1 h63 hby hbase t ht h
end
theorem smallAll_left {L M : List (ChD × ChA)} (h : smallAll (L ++ M) = true) : smallAll L = true ∧ sumCh L + sumCh M ≤ 60 := by
  unfold smallAll at h ⊢
  simp only [Bool.and_eq_true, decide_eq_true_eq, List.all_append, List.length_append] at h
  obtain ⟨⟨h1, _⟩, h2, h3⟩ := h
  have hs : sumCh (L ++ M) = sumCh L + sumCh M := by unfold sumCh; rw [List.map_append, List.sum_append]
  rw [hs] at h2
  refine ⟨?_, h2⟩
  rw [h1, decide_eq_true (show sumCh L ≤ 60 by omega), decide_eq_true (show L.length ≤ 30 by omega)]
  rfl
/-- The names in a change. -/
def namesC (x : ChD × ChA) : List By := (comeL x).map PkgD.name ++ x.1.go
def namesL (L : List (ChD × ChA)) : List By := L.flatMap namesC
theorem namesL_take {L : List (ChD × ChA)} {k : Nat} (hk : k < L.length) : namesL (L.take (k + 1)) = namesL (L.take k) ++ namesC (L.getD k cz) := by
  unfold namesL
  rw [List.take_succ_eq_append_getElem hk, List.flatMap_append]
  simp [List.getD_eq_getElem?_getD, List.getElem?_eq_getElem hk]
theorem namesC_len (x : ChD × ChA) : (namesC x).length = lenCh x := by
  unfold namesC comeL lenCh
  simp
theorem namesL_len : ∀ (L : List (ChD × ChA)), (namesL L).length = sumCh L
  | [] => rfl
  | x :: L => by
    have ih := namesL_len L
    unfold namesL sumCh at ih ⊢
    rw [List.flatMap_cons, List.length_append, namesC_len, ih, List.map_cons, List.sum_cons]
theorem chV_one (L : List (ChD × ChA)) : ∀ u ∈ L.flatMap chV, u.oneCell' = true := by
  intro u hu
  obtain ⟨x, _, hx⟩ := List.mem_flatMap.1 hu
  simp only [chV, List.mem_cons, List.not_mem_nil, or_false] at hx
  rcases hx with rfl | rfl <;> rfl
theorem pkV_one (L : List (PkgD × PkgA)) : ∀ u ∈ L.flatMap pkV, u.oneCell' = true := by
  intro u hu
  obtain ⟨x, _, hx⟩ := List.mem_flatMap.1 hu
  simp only [pkV, List.mem_cons, List.not_mem_nil, or_false] at hx
  rcases hx with rfl | rfl | rfl | rfl | rfl | rfl <;> rfl
theorem info_chg : (Tryz.prog.info? 61).map (fun i => (i.zero, i.size, i.bytes)) = some (some (.agg #[.slice none 0 0, .slice none 0 0]), 2, 48) := by kernel_rfl
theorem info_pkg : (Tryz.prog.info? 31).map (fun i => (i.zero, i.size, i.bytes)) = some (some (.agg #[.string ⟨#[]⟩, .string ⟨#[]⟩, .slice none 0 0, .slice none 0 0, .slice none 0 0, .slice none 0 0]), 6, 128) := by kernel_rfl
theorem set2f {w : World} {R : Nat} {t : TypeId} {a0 a1 : Value} (hg : w.heap[R]? = some (.cells #[a0, a1] t (0, 0))) (v0 v1 : Value) :
    ((w.setCell ⟨R, 0, none⟩ v0).setCell ⟨R, 1, none⟩ v1).heap[R]? = some (.cells #[v0, v1] t (0, 0)) ∧ But R w ((w.setCell ⟨R, 0, none⟩ v0).setCell ⟨R, 1, none⟩ v1) :=
  ⟨setCell_row (setCell_row hg v0) v1, ((But.refl R w).setCell 0 _).setCell 1 _⟩
theorem apart_types {w : World} {k l : Nat} {cur cur' : Array Value} {E E' : TypeId} {fr fr' : Nat × Nat} (h : w.heap[k]? = some (.cells cur E fr)) (h' : w.heap[l]? = some (.cells cur' E' fr')) (hE : E ≠ E') : k ≠ l := by
  intro e
  subst e
  rw [h'] at h
  injection (Option.some.inj h) with _ h2
  exact hE h2.symm
/-- Two changes laid one behind the other. -/
theorem both_cut (xa xb : ChD × ChA) {na ma nb mb : Nat} (h1 : na = xa.1.come.length) (h2 : ma = xa.1.go.length) (h3 : nb = xb.1.come.length) (h4 : mb = xb.1.go.length) (hs : na + ma + (nb + mb) ≤ 60)
    {w wB : World} (hA : ChM w xa) (hB : ChM w xb) {T c6 c13 : Nat} {a6 a13 : Option Addr} {base : Nat} (hT : w.heap[T]? = some (.cells #[.slice a6 (na + nb) c6, .slice a13 (ma + mb) c13] 61 (0, 0)))
    (hO : w.ownsRow base 31 6 (.slice a6 (na + nb) c6) (na + nb) ([] ++ xa.1.come.flatMap pkV ++ xb.1.come.flatMap pkV)) (hQ : w.ownsRow base 9 1 (.slice a13 (ma + mb) c13) (ma + mb) ([] ++ textV xa.1.go ++ textV xb.1.go)) (hx : Ext wB w) :
    ∃ (T' : Nat) (xc : ChD × ChA), Value.pointer (some ⟨T, 0, none⟩) = .pointer (some ⟨T', 0, none⟩) ∧ Hid (w.heap[T']? = some (.cells #[.slice xc.2.ca xc.1.come.length xc.2.cc, .slice xc.2.ga xc.1.go.length xc.2.gc] 61 (0, 0))) ∧ Hid (xc.1.come = xa.1.come ++ xb.1.come ∧ xc.1.go = xa.1.go ++ xb.1.go) ∧ Hid (ChM w xc) ∧ Hid (Ext wB w) := by
  obtain ⟨p1, q1, hv1, hc1, hr1, _⟩ := run_of_row hO
  obtain ⟨p2, q2, hv2, hc2, hr2, _⟩ := run_of_row hQ
  cases hv1
  cases hv2
  refine ⟨T, (⟨xa.1.come ++ xb.1.come, xa.1.go ++ xb.1.go⟩, ⟨a6, c6, a13, c13⟩), rfl, Lib.hid ?_, Lib.hid ⟨rfl, rfl⟩, Lib.hid ⟨?_, ?_, ?_, ?_, ?_, ?_⟩, Lib.hid hx⟩
  · simp only [List.length_append, ← h1, ← h2, ← h3, ← h4]
    exact hT
  · refine run_pk (by simpa [List.flatMap_append] using hr1) (fun x hx => ?_)
    rcases List.mem_append.1 hx with hx | hx
    · exact (pk_run hA.come).2 x hx
    · exact (pk_run hB.come).2 x hx
  · exact strs_run.2 (by simpa [textV] using hr2)
  · simp only [List.length_append]; omega
  · simp only [List.length_append]; omega
  · simp only [List.length_append]; omega
  · simp only [List.length_append]; omega
end Go.Proofs.YtnclibfhbngkjaaGreatDoor
