/- Packages that are there, one behind the other in memory, and one more of them; a map from names to texts; how many a map has. -/
import Derived.Test.YtnclibfhbngkjaaGreatDoorBaseWith
import Derived.Test.YtnclibfhbngkjaaGreatDoorM3
import Derived.Test.YtnclibfhbngkjaaGreatDoorM1
import Derived.Maps.AppendAt
import Derived.Maps.OwnSet
namespace Go.Proofs.YtnclibfhbngkjaaGreatDoor
open Go.RowKit
/-! ### Entries as a run of cells -/
def enV (x : PkgD × PkgA) : List Value := [.string (bs x.1.name), .string (bs x.1.ver), .slice x.2.an x.1.needs.length x.2.cn, .slice x.2.ac x.1.conf.length x.2.cc, .slice x.2.af x.1.files.length x.2.cf, .slice x.2.au x.1.units.length x.2.cu]
theorem enV_one (L : List (PkgD × PkgA)) : ∀ u ∈ L.flatMap enV, u.oneCell' = true := by
  intro u hu
  obtain ⟨x, _, hx⟩ := List.mem_flatMap.1 hu
  simp only [enV, List.mem_cons, List.not_mem_nil, or_false] at hx
  rcases hx with rfl | rfl | rfl | rfl | rfl | rfl <;> rfl
theorem enV_len (L : List (PkgD × PkgA)) : (L.flatMap enV).length = L.length * 6 := flat_lenm (F := enV) (m := 6) (fun _ => rfl) L
theorem run_en {w : World} {a : Option Addr} {L : List (PkgD × PkgA)} (h : RunM w a (L.flatMap enV)) (hm : ∀ x ∈ L, EntM w x.1 x.2 ∧ PkgC x.1 x.2) : EntsL w a L := by
  rcases h with h | ⟨g, off, ha, hg, hc⟩
  · left
    have := enV_len L
    rw [h] at this
    exact List.eq_nil_of_length_eq_zero (by simp only [List.length_nil] at this; omega)
  · refine Or.inr ⟨g, off, ha, hg, fun i hi => ?_⟩
    have eL : L.getD i ez = L[i] := by simp [List.getD_eq_getElem?_getD, List.getElem?_eq_getElem hi]
    rw [eL]
    have hcell : ∀ r u, r < 6 → (enV L[i])[r]? = some u → w.cell? ⟨g, off + i * 6 + r, none⟩ = some u := by
      intro r u hr hu
      have := hc (i * 6 + r) u (by rw [flat_at (m := 6) (fun _ => rfl) L i r hi hr]; exact hu)
      rwa [← Nat.add_assoc] at this
    exact ⟨⟨hcell 0 _ (by omega) rfl, hcell 1 _ (by omega) rfl, hcell 2 _ (by omega) rfl, hcell 3 _ (by omega) rfl, hcell 4 _ (by omega) rfl, hcell 5 _ (by omega) rfl⟩, hm _ (List.getElem_mem hi)⟩
/-! ### Where an entry's parts lie -/
def PartsIn (S : Nat → Prop) (x : PkgD × PkgA) : Prop :=
  (x.1.needs ≠ [] → ∀ ad, x.2.an = some ad → S ad.block) ∧ (x.1.conf ≠ [] → ∀ ad, x.2.ac = some ad → S ad.block) ∧ (x.1.files ≠ [] → ∀ ad, x.2.af = some ad → S ad.block) ∧ (x.1.units ≠ [] → ∀ ad, x.2.au = some ad → S ad.block)
theorem PartsIn.both {S T U : Nat → Prop} {x : PkgD × PkgA} (h : PartsIn S x) (k : PartsIn T x) (hU : ∀ g, S g → T g → U g) : PartsIn U x :=
  ⟨fun n ad e => hU _ (h.1 n ad e) (k.1 n ad e), fun n ad e => hU _ (h.2.1 n ad e) (k.2.1 n ad e), fun n ad e => hU _ (h.2.2.1 n ad e) (k.2.2.1 n ad e), fun n ad e => hU _ (h.2.2.2 n ad e) (k.2.2.2 n ad e)⟩
theorem PartsIn.mono {S U : Nat → Prop} {x : PkgD × PkgA} (h : PartsIn S x) (hU : ∀ g, S g → U g) : PartsIn U x := h.both h (fun g a _ => hU g a)
theorem EntM.lts {w : World} {p : PkgD} {A : PkgA} (h : EntM w p A) : PartsIn (· < w.heap.size) (p, A) := by
  refine ⟨fun n ad e => ?_, fun n ad e => ?_, fun n ad e => ?_, fun n ad e => ?_⟩
  · rcases h.needs with k | ⟨g, off, ha, hg, _⟩
    · exact absurd k n
    · have e : A.an = some ad := e
      rw [ha] at e; cases e; exact hg
  · rcases h.conf with k | ⟨g, off, ha, hg, _⟩
    · exact absurd k n
    · have e : A.ac = some ad := e
      rw [ha] at e; cases e; exact hg
  · rcases h.files with k | ⟨g, off, ha, hg, _⟩
    · exact absurd k n
    · have e : A.af = some ad := e
      rw [ha] at e; cases e; exact hg
  · rcases h.units with k | ⟨g, off, ha, hg, _⟩
    · exact absurd k n
    · have e : A.au = some ad := e
      rw [ha] at e; cases e; exact hg
theorem RunM.keepS {S : Nat → Prop} {w w' : World} {a : Option Addr} {us : List Value} (h : RunM w a us) (k : Keep S w w') (hS : us ≠ [] → ∀ ad, a = some ad → S ad.block) : RunM w' a us := by
  rcases h with h | ⟨g, off, ha, hg, hc⟩
  · exact Or.inl h
  · by_cases hu : us = []
    · exact Or.inl hu
    · exact Or.inr ⟨g, off, ha, Nat.lt_of_lt_of_le hg k.size, fun j u hj => k.cell (hS hu _ ha) (hc j u hj)⟩
theorem EntM.keepS {S : Nat → Prop} {w w' : World} {p : PkgD} {A : PkgA} (h : EntM w p A) (k : Keep S w w') (hS : PartsIn S (p, A)) : EntM w' p A := by
  refine ⟨needs_run.2 ((needs_run.1 h.needs).keepS k fun n => hS.1 fun e => n ?_), strs_run.2 ((strs_run.1 h.conf).keepS k fun n => hS.2.1 fun e => n ?_), filesE_run.2 ((filesE_run.1 h.files).keepS k fun n => hS.2.2.1 fun e => n ?_), strs_run.2 ((strs_run.1 h.units).keepS k fun n => hS.2.2.2 fun e => n ?_)⟩
  · have e : p.needs = [] := e
    rw [e]; rfl
  · have e : p.conf = [] := e
    rw [e]; rfl
  · have e : p.files = [] := e
    rw [e]; rfl
  · have e : p.units = [] := e
    rw [e]; rfl
/-! ### Entries in a row of the call's own -/
def OwnEn (w : World) (base : Nat) (a : Option Addr) (cap : Nat) (X : List (PkgD × PkgA)) : Prop :=
  w.ownsRow base 37 6 (.slice a X.length cap) X.length (X.flatMap enV) ∧ ∀ x ∈ X, EntM w x.1 x.2 ∧ PkgC x.1 x.2 ∧ PartsIn (fun g => some g ≠ (Value.slice a X.length cap).ownBlock) x
theorem OwnEn.new {w : World} {g base : Nat} (hg : w.heap[g]? = some (.cells #[] 37 (0, 0))) (hb : base ≤ g) : OwnEn w base (some ⟨g, 0, none⟩) 0 [] :=
  ⟨⟨by simp, Or.inr ⟨g, 0, #[], rfl, hb, hg, Nat.le_refl _, Nat.zero_le _, by simp, by simp⟩⟩, by simp⟩
theorem OwnEn.ext {w w' : World} {base : Nat} {a : Option Addr} {cap : Nat} {X : List (PkgD × PkgA)} (h : OwnEn w base a cap X) (k : Ext w w') : OwnEn w' base a cap X :=
  ⟨ownsRow_ext h.1 k, fun x hx => ⟨(h.2 x hx).1.ext k, (h.2 x hx).2⟩⟩
theorem OwnEn.ents {w : World} {base : Nat} {a : Option Addr} {cap : Nat} {X : List (PkgD × PkgA)} (h : OwnEn w base a cap X) : EntsL w a X := by
  obtain ⟨a', c', hv, _, hr, _⟩ := run_of_row h.1
  cases hv
  exact run_en hr fun x hx => ⟨(h.2 x hx).1, (h.2 x hx).2.1⟩
/-- One entry more. -/
theorem OwnEn.add {wc w2 w3 : World} {base g1 cap1 : Nat} {a : Option Addr} {cap : Nat} {X : List (PkgD × PkgA)} {x : PkgD × PkgA} (h : OwnEn w2 base a cap X)
    (ho : ∀ g, (Value.slice a X.length cap).ownBlock = some g → g < wc.heap.size) (hm : EntM w2 x.1 x.2) (hc : PkgC x.1 x.2) (hf : Fresh wc.heap.size x.2.an ∧ Fresh wc.heap.size x.2.ac ∧ Fresh wc.heap.size x.2.af ∧ Fresh wc.heap.size x.2.au)
    (hown : w3.ownsRow base 37 6 (.slice (some ⟨g1, 0, none⟩) (X.length + 1) cap1) (X.length + 1) (X.flatMap enV ++ enV x))
    (hk : Keep (fun k => some k ≠ (Value.slice a X.length cap).ownBlock) w2 w3) (hat : (Value.slice a X.length cap).ownBlock = some g1 ∨ g1 = w2.heap.size) : OwnEn w3 base (some ⟨g1, 0, none⟩) cap1 (X ++ [x]) := by
  have hfp : PartsIn (fun g => wc.heap.size ≤ g) x := ⟨fun _ ad e => hf.1 ad e, fun _ ad e => hf.2.1 ad e, fun _ ad e => hf.2.2.1 ad e, fun _ ad e => hf.2.2.2 ad e⟩
  have hpa : PartsIn (fun g => some g ≠ (Value.slice a X.length cap).ownBlock) x := hfp.mono fun g hg e => by have := ho g e.symm; omega
  have hall : ∀ z ∈ X ++ [x], EntM w2 z.1 z.2 ∧ PkgC z.1 z.2 ∧ PartsIn (fun g => some g ≠ (Value.slice a X.length cap).ownBlock) z := by
    intro z hz
    rcases List.mem_append.1 hz with hz | hz
    · exact h.2 z hz
    · rw [List.mem_singleton.1 hz]; exact ⟨hm, hc, hpa⟩
  refine ⟨by rw [List.length_append, List.flatMap_append]; simpa using hown, fun z hz => ?_⟩
  obtain ⟨h1, h2, h3⟩ := hall z hz
  refine ⟨h1.keepS hk h3, h2, h3.both h1.lts fun g hg hl => ?_⟩
  show some g ≠ some g1
  rcases hat with hat | hat
  · rwa [hat] at hg
  · intro e; cases e; omega
theorem OwnEn.keep_map {w w' : World} {base b : Nat} {a : Option Addr} {cap : Nat} {X : List (PkgD × PkgA)} {es : Array MapEntry} {cl : Nat} (h : OwnEn w base a cap X) (k : Keep (· ≠ b) w w') (hb : w.heap[b]? = some (.map es cl)) (hlt : ∀ x ∈ X, EntM w' x.1 x.2) : OwnEn w' base a cap X :=
  ⟨ownsRow_keep h.1 k (fun g cur _ _ hg => by show g ≠ b; intro e; subst e; rw [hb] at hg; cases hg), fun x hx => ⟨hlt x hx, (h.2 x hx).2⟩⟩
theorem OwnEn.keepm {w w' : World} {base b : Nat} {a : Option Addr} {cap : Nat} {X : List (PkgD × PkgA)} {es : Array MapEntry} {cl : Nat} (h : OwnEn w base a cap X) (k : Keep (· ≠ b) w w') (hb : w.heap[b]? = some (.map es cl)) : OwnEn w' base a cap X :=
  h.keep_map k hb fun x hx => (h.2 x hx).1.keep_map k hb
theorem own_not_map {w : World} {base E size n b : Nat} {v : Value} {xs : List Value} {es : Array MapEntry} {cl : Nat} (h : w.ownsRow base E size v n xs) (hb : w.heap[b]? = some (.map es cl)) : some b ≠ v.ownBlock := by
  intro e
  rcases h.2 with ⟨h1, _⟩ | ⟨g, c, cur', h1, _, hg, _⟩
  · rw [h1] at e; cases e
  · rw [h1] at e
    have e' : b = g := Option.some.inj e
    subst e'
    rw [hg] at hb
    cases hb
theorem own_apart {w : World} {base E size n : Nat} {v : Value} {xs : List Value} (h : w.ownsRow base E size v n xs) {k : Nat} {cur : Array Value} {E' : TypeId} {fr : Nat × Nat} (hk : w.heap[k]? = some (.cells cur E' fr)) (hE : E ≠ E') : some k ≠ v.ownBlock := by
  intro e
  rcases h.2 with ⟨h1, _⟩ | ⟨g, c, cur', h1, _, hg, _⟩
  · rw [h1] at e; cases e
  · rw [h1] at e
    have e' : k = g := Option.some.inj e
    subst e'
    rw [hg] at hk
    injection (Option.some.inj hk) with _ h2
    exact hE h2
/-! ### Entries somewhere -/
def OutEn (w : World) (a : Option Addr) (X : List (PkgD × PkgA)) : Prop := RunM w a (X.flatMap enV) ∧ ∀ x ∈ X, EntM w x.1 x.2 ∧ PkgC x.1 x.2
theorem OutEn.ext {w w' : World} {a : Option Addr} {X : List (PkgD × PkgA)} (h : OutEn w a X) (k : Ext w w') : OutEn w' a X := ⟨RunM.ext h.1 k, fun x hx => ⟨(h.2 x hx).1.ext k, (h.2 x hx).2⟩⟩
theorem OutEn.ents {w : World} {a : Option Addr} {X : List (PkgD × PkgA)} (h : OutEn w a X) : EntsL w a X := run_en h.1 h.2
theorem OutEn.keepm {w w' : World} {b : Nat} {a : Option Addr} {X : List (PkgD × PkgA)} {es : Array MapEntry} {cl : Nat} (h : OutEn w a X) (k : Keep (· ≠ b) w w') (hb : w.heap[b]? = some (.map es cl)) : OutEn w' a X :=
  ⟨h.1.keep_map k hb, fun x hx => ⟨(h.2 x hx).1.keep_map k hb, (h.2 x hx).2⟩⟩
theorem OwnEn.out {w : World} {base : Nat} {a : Option Addr} {cap : Nat} {X : List (PkgD × PkgA)} (h : OwnEn w base a cap X) : OutEn w a X := by
  obtain ⟨a', c', hv, _, hr, _⟩ := run_of_row h.1
  cases hv
  exact ⟨hr, fun x hx => ⟨(h.2 x hx).1, (h.2 x hx).2.1⟩⟩
theorem OutEn.nil (w : World) (a : Option Addr) : OutEn w a [] := ⟨Or.inl rfl, by simp⟩
/-- One entry more, in front: what there was stays as it is. -/
theorem OutEn.front {wc w3 : World} {base cap1 : Nat} {a a1 : Option Addr} {X : List (PkgD × PkgA)} {x : PkgD × PkgA} (h : OutEn wc a X) (hx : Ext wc w3) (hm : EntM wc x.1 x.2) (hc : PkgC x.1 x.2)
    (hown : w3.ownsRow base 37 6 (.slice a1 (X.length + 1) cap1) (X.length + 1) (enV x ++ X.flatMap enV)) : OutEn w3 a1 (x :: X) := by
  obtain ⟨a', c', hv, _, hr, _⟩ := run_of_row hown
  cases hv
  refine ⟨hr, fun z hz => ?_⟩
  rcases List.mem_cons.1 hz with rfl | hz
  · exact ⟨hm.ext hx, hc⟩
  · exact ⟨(h.2 z hz).1.ext hx, (h.2 z hz).2⟩
theorem info_ent : (Tryz.prog.info? 37).map (fun i => (i.zero, i.size, i.bytes)) = some (some (.agg #[.string ⟨#[]⟩, .string ⟨#[]⟩, .slice none 0 0, .slice none 0 0, .slice none 0 0, .slice none 0 0]), 6, 128) := by kernel_rfl
section
variable {ops : Array Oper} {o : Oper} {a : Act} {Q : Exit → Act → World → Prop} {W : World}
/-- Append of a run of cells. -/
theorem wp_append_run {P : Program} {K : Act → World → Prop} (s x : Operand) (T E : TypeId) (z : Value) (size bytes : Nat)
    (ho : o.op = .call { callee := .builtin .append, args := #[s, x], argTypes := #[T, T] }) (hT : P.underlying T = some (.slice E)) (hi : (P.info? E).map (fun i => (i.zero, i.size, i.bytes)) = some (some z, size, bytes)) (hz1 : z.cells.size = size) (hsz : 0 < size)
    (base : Nat) (ad : Option Addr) (n cap : Nat) (xs : List Value) (hs : a.eval s = .slice ad n cap) (hown : W.ownsRow base E size (.slice ad n cap) n xs)
    (b : Option Addr) (m c : Nat) (ys : List Value) (hx : a.eval x = .slice b m c) (hm : ys.length = m * size) (hb : RunM W b ys) (h1 : ∀ u ∈ ys, u.oneCell' = true)
    (h63 : (n + m) * bytes ≤ 140737488355328) (hby : 0 < bytes) (hbase : base ≤ W.heap.size) (t : Nat) (ht : n + m = t)
    (h : ∀ ad' cap' w', w'.ownsRow base E size (.slice ad' t cap') t (xs ++ ys) → Keep (fun k => some k ≠ (Value.slice ad n cap).ownBlock) W w' → Below base W w' → K (a.put o.dst (.slice ad' t cap')) w') : o.wp P a W K Q := by
  obtain ⟨i, hi0, hz, hs1, hb1⟩ := info_parts hi
  subst ht
  have hmax : n + m ≤ maxLen := by
    have : n + m ≤ (n + m) * bytes := Nat.le_mul_of_pos_right _ hby
    unfold maxLen; omega
  cases b with
  | none =>
    have hp : ys = [] := by
      rcases hb with hb | ⟨g, off, ha, _⟩
      · exact hb
      · cases ha
    subst hp
    have hm0 : m = 0 := by
      rcases Nat.mul_eq_zero.1 hm.symm with h | h
      · exact h
      · omega
    subst hm0
    have hr := run_append_of_nil (P := P) W base T o.type E i size hT hi0 _ n _ hown c
    unfold Oper.wp execOp
    simp only [ho, resolve, invoke, builtin, Sem.run_bind, Sem.run_pure, Result.andThen_ok, List.map_toArray, List.map_cons, List.map_nil, hs, hx, hr]
    have := h ad cap W (by simpa using hown) (Keep.refl _ _) (Below.refl _ _)
    rw [Nat.add_zero] at this
    exact this
  | some bd =>
    have hcells : ∀ j u, ys[j]? = some u → W.cell? (bd.add j) = some u := by
      intro j u hj
      rcases hb with hb | ⟨g, off, ha, _, hc⟩
      · subst hb; simp at hj
      · have ha := Option.some.inj ha
        subst ha
        rw [addr_add]
        exact hc j u hj
    obtain ⟨v', w', hr, h2, h3, h4⟩ := run_append_own (P := P) W base T o.type E i z size bytes hT hi0 hz hs1 hb1 hz1 hsz _ n _ hown bd m c ys hm hcells h1 hmax h63 hbase
    have hbel : Below base W w' := (Below.refl _ _).grown h3 hbase (fun k hk => (World.ownsRow.lt hown k hk).1)
    unfold Oper.wp execOp
    simp only [ho, resolve, invoke, builtin, Sem.run_bind, Sem.run_pure, Result.andThen_ok, List.map_toArray, List.map_cons, List.map_nil, hs, hx, hr]
    obtain ⟨a', c', rfl, _, _, _⟩ := run_of_row h2
    exact h a' c' w' h2 (Keep.of_grown h3) hbel
theorem append_run {P : Program} {rest : List Oper} (hgd : o.guard = none) (s x : Operand) (T E : TypeId) (z : Value) (size bytes : Nat)
    (ho : o.op = .call { callee := .builtin .append, args := #[s, x], argTypes := #[T, T] }) (hT : P.underlying T = some (.slice E)) (hi : (P.info? E).map (fun i => (i.zero, i.size, i.bytes)) = some (some z, size, bytes)) (hz1 : z.cells.size = size) (hsz : 0 < size)
    (base : Nat) (ad : Option Addr) (n cap : Nat) (xs : List Value) (hs : a.eval s = .slice ad n cap) (hown : W.ownsRow base E size (.slice ad n cap) n xs)
    (b : Option Addr) (m c : Nat) (ys : List Value) (hx : a.eval x = .slice b m c) (hm : ys.length = m * size) (hb : RunM W b ys) (h1 : ∀ u ∈ ys, u.oneCell' = true)
    (h63 : (n + m) * bytes ≤ 140737488355328) (hby : 0 < bytes) (hbase : base ≤ W.heap.size) (t : Nat) (ht : n + m = t)
    (h : ∀ ad' cap' w', w'.ownsRow base E size (.slice ad' t cap') t (xs ++ ys) → Keep (fun k => some k ≠ (Value.slice ad n cap).ownBlock) W w' → Below base W w' → wpList P ops Q rest (a.put o.dst (.slice ad' t cap')) w') : wpList P ops Q (o :: rest) a W :=
  wpList_plain hgd fun _ hK => wp_append_run s x T E z size bytes ho hT hi hz1 hsz base ad n cap xs hs hown b m c ys hx hm hb h1 h63 hby hbase t ht fun ad' cap' w' h1 h2 h3 => hK _ _ (h ad' cap' w' h1 h2 h3)
end
theorem row_made6 {w : World} {E g base : Nat} {us : List Value} (hg : w.heap[g]? = some (.cells us.toArray E (0, 0))) (hu : us.length = 6) (hb : base ≤ g) : w.ownsRow base E 6 (.slice (some ⟨g, 0, none⟩) 1 1) 1 us :=
  ⟨by omega, Or.inr ⟨g, 1, us.toArray, rfl, hb, hg, Nat.le_refl _, by unfold maxLen; omega, by simp [hu], by rw [Nat.one_mul, ← hu]; simp⟩⟩
/-! ### A map from names to texts -/
def txtF (E : List PkgD) : By → Option Value := fun x => (heldF E x).map fun k => .string (bs k)
theorem txtF_nil : txtF [] = fun _ => none := rfl
theorem txtF_look {E : List PkgD} (h : (E.map PkgD.name).Nodup) (n : By) : ∃ t, (txtF E n).getD (.string ⟨#[]⟩) = .string (bs t) ∧ ((E.any fun e => decide (e.name = n)) = false ↔ t = []) := by
  unfold txtF heldF
  cases hf : newF E n with
  | none =>
    refine ⟨[], rfl, ⟨fun _ => rfl, fun _ => ?_⟩⟩
    rw [List.any_eq_false]
    intro e he hn
    have := (newF_mem h n e).2 ⟨he, by simpa using hn⟩
    rw [hf] at this; cases this
  | some e =>
    refine ⟨packP e, rfl, ⟨fun ha => ?_, fun ht => absurd ht (packP_pos e)⟩⟩
    obtain ⟨he, hn⟩ := (newF_mem h n e).1 hf
    rw [List.any_eq_false] at ha
    exact absurd (by simpa using hn) (ha e he)
theorem txtF_add (E : List PkgD) (e : PkgD) : (fun z => if z = e.name then some (Value.string (bs (packP e))) else txtF E z) = txtF (E ++ [e]) := by
  funext z
  unfold txtF heldF
  rw [newF_snoc]
  unfold withF
  split <;> simp_all
theorem txtF_eq (E : List PkgD) (x : By) : ∃ t, (txtF E x).getD (.string ⟨#[]⟩) = .string (bs t) ∧ ∀ k, k ≠ [] → (t = k ↔ heldF E x = some k) := by
  unfold txtF
  cases heldF E x with
  | none => exact ⟨[], rfl, fun k hk => ⟨fun e => absurd e.symm hk, fun e => by cases e⟩⟩
  | some t => exact ⟨t, rfl, fun k _ => ⟨fun e => by rw [e], fun e => Option.some.inj e⟩⟩
theorem txtF_some {E : List PkgD} {x : By} {v : Value} (h : txtF E x = some v) : ∃ k, v = .string (bs k) ∧ k ≠ [] ∧ heldF E x = some k := by
  unfold txtF at h
  cases hk : heldF E x with
  | none => rw [hk] at h; cases h
  | some k =>
    rw [hk] at h
    refine ⟨k, (Option.some.inj h).symm, ?_, rfl⟩
    unfold heldF at hk
    cases he : newF E x with
    | none => rw [he] at hk; cases hk
    | some e => rw [he] at hk; rw [← Option.some.inj hk]; exact packP_pos e
theorem txtF_none {E : List PkgD} {x : By} (h : (txtF E x).isSome = false) : heldF E x = none := by
  unfold txtF at h
  cases hk : heldF E x with
  | none => rfl
  | some k => rw [hk] at h; cases h
/-- How many a map has whose keys are names that we know. -/
theorem MapF.size_names {w : World} {b n : Nat} {f : By → Option Value} (h : MapF keyS w 9 b n f) {ss : List By} (hn : ss.Nodup) (hs : ∀ x, x ∈ ss ↔ (f x).isSome = true) (ty : TypeId) {t e : TypeId} (ht : Tryz.prog.underlying t = some (.map 9 e)) :
    (Builtin.len_ #[t] ty #[.map (some b)]).run Tryz.prog w = .ok (.int .i64 ss.length) w := by
  obtain ⟨D, h1, _, h3⟩ := h
  rw [h1.len ht ty]
  obtain ⟨_, hnd, hmem⟩ := sorted_names h1 (fun x => (h3 x).2) (List.Perm.refl (strKeys D))
  have hp : ((strKeys D).mergeSort leB).Perm ss := (List.perm_ext_iff_of_nodup hnd hn).2 fun x => by rw [hmem, hs]
  have h4 := hp.length_eq
  rw [(List.mergeSort_perm _ leB).length_eq] at h4
  obtain ⟨es, hD, _⟩ := h1.entries str_keyed
  have h5 : Maps.size D = (strKeys D).length := by
    subst hD
    rw [Maps.size_eq]
    show es.length = (es.map fun p => strOf p.1).length
    simp
  rw [h5, h4]
theorem txtF_names {E : List PkgD} (h : (E.map PkgD.name).Nodup) (x : By) : x ∈ E.map PkgD.name ↔ (txtF E x).isSome = true := by
  unfold txtF heldF
  rw [Option.isSome_map, Option.isSome_map, List.mem_map]
  constructor
  · rintro ⟨e, he, hn⟩
    rw [(newF_mem h x e).2 ⟨he, hn⟩]; rfl
  · intro hs
    obtain ⟨e, he⟩ := Option.isSome_iff_exists.1 hs
    exact ⟨e, (newF_mem h x e).1 he⟩
/-! ### Steps, one more of them -/
theorem firsts_one {α : Type} {F : α → PkgD} {L : List α} {d : α} {k : Nat} (hk : k < L.length) : firsts ((L.take (k + 1)).map F) = addNew (firsts ((L.take k).map F)) (F (L.getD k d)) := by
  rw [List.take_succ_eq_append_getElem hk, List.map_append, List.map_singleton, firsts_snoc]
  simp [List.getD_eq_getElem?_getD, List.getElem?_eq_getElem hk]
theorem addNew_no {E : List PkgD} {p : PkgD} (h : rightP p = false) : addNew E p = E := by unfold addNew; rw [h]; rfl
theorem addNew_old {E : List PkgD} {p : PkgD} (h : (E.any fun e => decide (e.name = p.name)) = true) : addNew E p = E := by unfold addNew; rw [h]; simp
theorem addNew_new {E : List PkgD} {p : PkgD} (hr : rightP p = true) (h : (E.any fun e => decide (e.name = p.name)) = false) : addNew E p = E ++ [ofP p] := by unfold addNew; rw [h, hr]; rfl
end Go.Proofs.YtnclibfhbngkjaaGreatDoor
