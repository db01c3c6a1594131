/- What lies in a volume's log, done anew, in plain Lean; rows of bytes that are turned. -/
import Derived.Test.YtlpjmkkinlcbnaaGreatDoorVolAgain
import Derived.Test.YtlpjmkkinlcbnaaGreatDoorTreeLoad
import Derived.Test.YtlpjmkkinlcbnaaGreatDoorM8
import Derived.Test.YtlpjmkkinlcbnaaGreatDoorLogRew
import Derived.Test.YtlpjmkkinlcbnaaGreatDoorLogOpenG
import Derived.Test.YtlpjmkkinlcbnaaGreatDoorLogOpen
namespace Go.Proofs.YtlpjmkkinlcbnaaGreatDoor
open Go.RowKit
variable [Low]
/-- A row of a dump as it lies in the log. -/
def snapB (b : By) : By := 1 :: b
/-- The tree with which what lies in a log begins. -/
def BaseT (q : Int) (S : List By) (U : TreeD) : Prop := (S = [] ∧ U = newT q) ∨ (S ≠ [] ∧ loadsT q S = some U ∧ SoundT U)
noncomputable def finR (U : TreeD) (l : List (List OpD)) : TreeD := l.foldl againT U
def cntR (l : List (List OpD)) : Nat := (l.map List.length).sum
omit [Low] in
theorem cntR_app (l m : List (List OpD)) : cntR (l ++ m) = cntR l + cntR m := by simp [cntR]
omit [Low] in
theorem finR_snoc (U : TreeD) (l : List (List OpD)) (x : List OpD) : finR U (l ++ [x]) = againT (finR U l) x := by simp [finR]
/-- Each of them may be done. -/
def AgainOk (U : TreeD) (x : List OpD) : Prop := (∀ o ∈ x, FitOp o) ∧ (doT U x).2 = 0 ∧ (packOps x).length ≤ 4095 ∧ GoodT (againT U x)
def ChainR (U : TreeD) (l : List (List OpD)) : Prop := ∀ k, k < l.length → AgainOk (finR U (l.take k)) (l.getD k [])
omit [Low] in
theorem takeR {l : List (List OpD)} {k : Nat} (hk : k < l.length) : l.take (k + 1) = l.take k ++ [l.getD k []] := by
  rw [List.take_succ_eq_append_getElem hk]
  simp [List.getD_eq_getElem?_getD, List.getElem?_eq_getElem hk]
omit [Low] in
theorem ChainR.nil (U : TreeD) : ChainR U [] := fun _k hk => absurd hk (Nat.not_lt_zero _)
omit [Low] in
theorem ChainR.snoc {U : TreeD} {l : List (List OpD)} {x : List OpD} (h : ChainR U l) (hx : AgainOk (finR U l) x) : ChainR U (l ++ [x]) := by
  intro k hk
  rw [List.length_append, List.length_singleton] at hk
  by_cases e : k < l.length
  · have := h k e
    rw [List.take_append_of_le_length (by omega)]
    have e2 : (l ++ [x]).getD k [] = l.getD k [] := by simp [List.getD_eq_getElem?_getD, List.getElem?_append_left e]
    rw [e2]; exact this
  · have e3 : k = l.length := by omega
    subst e3
    rw [List.take_left']
    · have e2 : (l ++ [x]).getD l.length [] = x := by simp [List.getD_eq_getElem?_getD]
      rw [e2]; exact hx
    · rfl
omit [Low] in
theorem againT_fit {T : TreeD} {K : Nat} (h : FitT T K) (l : List OpD) : FitT (againT T l) (K + 2 * l.length) := reapsT_fitV _ ((doT_fit h l).mono (by omega))
omit [Low] in
theorem finR_fit {K : Nat} : ∀ (l : List (List OpD)) {U : TreeD}, FitT U K → FitT (finR U l) (K + 2 * cntR l) := by
  intro l
  induction l using snoc_ind with
  | h0 => intro U h; exact h
  | h1 l x ih =>
    intro U h
    rw [finR_snoc, cntR_app]
    have := againT_fit (ih h) x
    exact this.mono (by simp [cntR]; omega)
omit [Low] in
/-- A row of rows is turned at one place. -/
theorem RowsM.cells {w : World} {base : Nat} {a : Option Addr} {c : Nat} {D : List (List UInt8)} (h : RowsM w base a c D) : D.length ≤ c ∧ (D = [] ∨ ∃ g, a = some ⟨g, 0, none⟩ ∧ base ≤ g ∧ g < w.heap.size ∧ ∀ i, i < D.length → ∃ p cc, w.cell? ⟨g, i, none⟩ = some (.slice p (D.getD i []).length cc) ∧ DataM w p (D.getD i []) ∧ (D.getD i []).length ≤ cc) := by
  obtain ⟨Z, rfl, h2, h3⟩ := h
  refine ⟨?_, ?_⟩
  · rcases h2.2 with ⟨e, h⟩ | ⟨g, c', cur, e, _, _, hn, _⟩
    · omega
    · cases e; exact hn
  by_cases hz : Z = []
  · left; rw [hz]; rfl
  right
  have hl : 0 < (Z.map Prod.fst).length := by rw [List.length_map]; exact List.length_pos_iff.2 hz
  obtain ⟨g, ha, hb, hg, _, hc, _⟩ := own_set h2 hl
  refine ⟨g, ha, hb, hg, fun i hi => ?_⟩
  rw [List.length_map] at hi
  have e : (Z.map Prod.fst).getD i [] = Z[i].1 := by simp [List.getD_eq_getElem?_getD, List.getElem?_eq_getElem hi]
  rw [e]
  have h4 := h3 Z[i] (List.getElem_mem hi)
  refine ⟨Z[i].2.oa, Z[i].2.oc, hc i _ ?_, h4.1, h4.2⟩
  have := flat_at (F := rowV) (m := 1) (fun _ => rfl) Z i hi (r := 0) (by omega)
  simpa [rowV] using this
theorem RowsM.set {w : World} {base : Nat} {a : Option Addr} {c : Nat} {D : List (List UInt8)} (h : RowsM w base a c D) {i : Nat} (hi : i < D.length) {p : Option Addr} {x : List UInt8} {cc : Nat} (hx : DataM w p x) (hc : x.length ≤ cc) (hlb : Low.low ≤ base) :
    ∃ g, a = some ⟨g, 0, none⟩ ∧ base ≤ g ∧ g < w.heap.size ∧ w.frozen? ⟨g, i, none⟩ = false ∧ RowsM (w.setCell ⟨g, i, none⟩ (.slice p x.length cc)) base a c (D.set i x) ∧ KeepT [22] w (w.setCell ⟨g, i, none⟩ (.slice p x.length cc)) := by
  obtain ⟨Z, rfl, h2, h3⟩ := h
  obtain ⟨g, ha, hb, hg, hf, _, hset⟩ := own_set h2 hi
  rw [List.length_map] at hi
  have hk : KeepT [22] w (w.setCell ⟨g, i, none⟩ (.slice p x.length cc)) := by
    rcases h2.2 with ⟨_, h4⟩ | ⟨g2, c', cur, e, _, hg2, _⟩
    · rw [List.length_map] at h4; omega
    · rw [ha] at e
      cases e
      exact (KeepT.refl _ w).set hg2 (by simp) i _ (by omega)
  refine ⟨g, ha, hb, hg, hf, ⟨Z.set i (x, ⟨p, cc⟩), ?_, ?_, fun z hz => ?_⟩, hk⟩
  · rw [List.map_set]
  · have h4 := hset (.slice p x.length cc)
    rw [List.length_set]
    have e : (Z.set i (x, ⟨p, cc⟩)).flatMap rowV = (Z.flatMap rowV).set i (.slice p x.length cc) := by
      have : ∀ (Z : List (List UInt8 × OpA)) (i : Nat), (Z.set i (x, ⟨p, cc⟩)).flatMap rowV = (Z.flatMap rowV).set i (.slice p x.length cc) := by
        intro Z
        induction Z with
        | nil => intro i; rfl
        | cons z Z ih =>
          intro i
          cases i with
          | zero => rfl
          | succ i => show rowV z ++ (Z.set i _).flatMap rowV = _; rw [ih i]; rfl
      exact this Z i
    rw [e]; exact h4.1
  · rcases List.mem_or_eq_of_mem_set hz with hz | rfl
    · exact ⟨(h3 z hz).1.keep hk (KeepT.datas (by decide)), (h3 z hz).2⟩
    · exact ⟨hx.keep hk (KeepT.datas (by decide)), hc⟩
omit [Low] in
theorem RowsM.parts {w : World} {base : Nat} {a : Option Addr} {c : Nat} {D : List (List UInt8)} (h : RowsM w base a c D) (m : Nat) : Parts w a (D.take m) := by
  obtain ⟨Z, rfl, h2, h3⟩ := h
  obtain ⟨a', c', e, _, hr, _⟩ := run_of_row h2
  cases e
  have hl : ∀ Z : List (List UInt8 × OpA), (Z.flatMap rowV) = Z.map fun z => .slice z.2.oa z.1.length z.2.oc := by
    intro Z
    induction Z with
    | nil => rfl
    | cons z Z ih => show rowV z ++ Z.flatMap rowV = _; rw [ih]; rfl
  rw [hl] at hr
  refine ⟨(Z.take m).map fun z => .slice z.2.oa z.1.length z.2.oc, ?_, by simp, fun i hi => ?_⟩
  · rcases hr with hr | ⟨g, off, ha, hg, hc⟩
    · left
      have : Z = [] := List.map_eq_nil_iff.1 hr
      rw [this]; simp
    · refine Or.inr ⟨g, off, ha, hg, trivial, fun j hj => ?_⟩
      rw [List.length_map] at hj
      have hjm : j < m ∧ j < Z.length := by rw [List.length_take] at hj; omega
      have e : ((Z.take m).map fun z => Value.slice z.2.oa z.1.length z.2.oc)[j]? = (Z.map fun z => Value.slice z.2.oa z.1.length z.2.oc)[j]? := by
        rw [List.map_take, List.getElem?_take_of_lt hjm.1]
      rw [e]
      have hs : (Z.map fun z => Value.slice z.2.oa z.1.length z.2.oc)[j]? = some (.slice Z[j].2.oa Z[j].1.length Z[j].2.oc) := by simp [List.getElem?_eq_getElem hjm.2]
      rw [hs]
      exact hc j _ hs
  · rw [← List.map_take, List.length_map] at hi
    have hjm : i < m ∧ i < Z.length := by rw [List.length_take] at hi; omega
    have e : ((Z.map Prod.fst).take m).getD i [] = Z[i].1 := by
      rw [List.getD_eq_getElem?_getD, List.getElem?_take_of_lt hjm.1]
      simp [List.getElem?_eq_getElem hjm.2]
    rw [e]
    refine ⟨Z[i].2.oa, Z[i].2.oc, ?_, ?_⟩
    · rw [List.map_take, List.getElem?_take_of_lt hjm.1]
      simp [List.getElem?_eq_getElem hjm.2]
    · rcases (h3 _ (List.getElem_mem hjm.2)).1 with h | ⟨g, off, cs, fr, ha, hg, hc⟩
      · left; rw [h]; rfl
      · refine Or.inr ⟨g, off, ha, (Array.getElem?_eq_some_iff.1 hg).1, trivial, fun j hj => ?_⟩
        obtain ⟨u, hu⟩ : ∃ u, (byteV Z[i].1)[j]? = some u := ⟨_, List.getElem?_eq_getElem hj⟩
        rw [hu]
        exact hc j u hu
omit [Low] in
theorem map_tail_step {D : List By} {k : Nat} (hk : k < D.length) {A : List By} (h : A = (D.take k).map List.tail ++ D.drop k) : A.set k (D.getD k []).tail = (D.take (k + 1)).map List.tail ++ D.drop (k + 1) := by
  have hl : ((D.take k).map List.tail).length = k := by rw [List.length_map, List.length_take]; omega
  rw [h, List.set_append_right _ _ (by omega), hl, Nat.sub_self, List.drop_eq_getElem_cons hk, List.set_cons_zero, List.take_succ_eq_append_getElem hk, List.map_append]
  simp [List.getD_eq_getElem?_getD, List.getElem?_eq_getElem hk]
end Go.Proofs.YtlpjmkkinlcbnaaGreatDoor
