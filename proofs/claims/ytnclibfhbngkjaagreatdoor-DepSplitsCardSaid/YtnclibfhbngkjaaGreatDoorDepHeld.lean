/- dep.After on bases whose packages may be there together. -/
import Derived.Test.YtnclibfhbngkjaaGreatDoorDepSmall
namespace Go.Proofs.YtnclibfhbngkjaaGreatDoor
open Go.RowKit
/-- Packages that may be there together. -/
def HeldF (f : BaseF) : Prop := GoodF f ∧ ∃ ss, NamesF f ss ∧ CheckOK f ss
theorem held_none : HeldF noneF := ⟨GoodF.none, [], none_names, none_check⟩
theorem HeldF.ok {f : BaseF} (h : HeldF f) {ss : List By} (hs : NamesF f ss) : CheckOK f ss := by
  obtain ⟨_, tt, ht, hc⟩ := h
  rw [hs.eq ht]
  exact hc
theorem come_code {f : BaseF} {seen : List By} {p : PkgD} {x : FaultD} (h : comeFault f seen p = some x) : x.code ≠ 0 := by
  unfold comeFault at h
  split at h
  · cases h; simp
  · split at h
    · cases h; simp
    · split at h
      · cases h
      · split at h <;> cases h; simp
theorem comes_code {f : BaseF} : ∀ {L : List PkgD} {seen : List By} {x : FaultD}, comesFault f seen L = some x → x.code ≠ 0
  | [], seen, x, h => by cases h
  | p :: L, seen, x, h => by
    unfold comesFault at h
    cases hc : comeFault f seen p with
    | some y => rw [hc] at h; cases h; exact come_code hc
    | none => rw [hc] at h; exact comes_code h
theorem go_code {f : BaseF} {seen : List By} {n : By} {x : FaultD} (h : goFault f seen n = some x) : x.code ≠ 0 := by
  unfold goFault at h
  split at h
  · cases h; simp
  · split at h <;> cases h; simp
theorem gos_code {f : BaseF} : ∀ {L seen : List By} {x : FaultD}, gosFault f seen L = some x → x.code ≠ 0
  | [], seen, x, h => by cases h
  | p :: L, seen, x, h => by
    unfold gosFault at h
    cases hc : goFault f seen p with
    | some y => rw [hc] at h; cases h; exact go_code hc
    | none => rw [hc] at h; exact gos_code h
theorem pre_code {f : BaseF} {come : List PkgD} {go : List By} {x : FaultD} (h : preFault f come go = some x) : x.code ≠ 0 := by
  unfold preFault at h
  split at h
  · cases h; simp
  · split at h
    · rename_i hc; cases h; exact comes_code hc
    · exact gos_code h
/-- What comes by a change. -/
def comeL (x : ChD × ChA) : List PkgD := x.1.come.map Prod.fst
/-- May a change be done? -/
def AfterOK (f : BaseF) (come : List PkgD) (go : List By) : Prop := preFault f come go = none ∧ HeldF (outF f come go)
/-- What After answers of a base whose packages may be there together. -/
def HeldR (N : Nat) (f : BaseF) (come : List PkgD) (go : List By) (w : World) (e : Ending) (w' : World) : Prop :=
  Ext w w' ∧ ∃ pm y, e = .returned (.tuple #[.agg #[.map pm], faultV y]) ∧ ((y.code ≠ 0 ∧ ¬ AfterOK f come go ∧ pm = none ∧ ∀ z, preFault f come go = some z → y = z) ∨
    (y = okD ∧ AfterOK f come go ∧ ∃ b A, pm = some b ∧ EntsM w' b (N + come.length) (outF f come go) A))
/-- A change that is small. -/
structure SmallC (x : ChD × ChA) : Prop where
  come : ∀ p ∈ x.1.come, SmallP p.1
  go : ∀ s ∈ x.1.go, s.length ≤ 60
  len : x.1.come.length + x.1.go.length ≤ 60
theorem after_heldV (v : Value) (N : Nat) (f : BaseF) (x : ChD × ChA) (w : World) (hE : EnvN w) (hb : BaseM w v N f) (hg : GoodF f) (hm : ChM w x) (hs : SmallC x) (hN : N ≤ 10000) :
    Calls Tryz.prog 24 #[v, .agg #[.slice x.2.ca x.1.come.length x.2.cc, .slice x.2.ga x.1.go.length x.2.gc]] w (HeldR N f (comeL x) x.1.go w) := by
  have hl := hs.len
  have h := dep_after v N f x.2.ca x.2.cc x.1.come x.2.ga x.2.gc x.1.go w hE hb hg hm.come hm.go hs.come (fun s h => by have := hs.go s h; omega) (by omega) (by omega)
  refine h.mono ?_
  rintro e w' ⟨hx, h⟩
  refine ⟨hx, ?_⟩
  rcases h with ⟨y, hp, he⟩ | ⟨hp, ss, hss, ⟨hc, he⟩ | ⟨hc, b, A, he, hB⟩⟩
  · refine ⟨none, y, he, Or.inl ⟨pre_code hp, fun k => ?_, rfl, fun z hz => ?_⟩⟩
    · have := k.1
      unfold comeL at this
      rw [hp] at this; cases this
    · unfold comeL at hz
      rw [hp] at hz; cases hz; rfl
  · refine ⟨none, _, he, Or.inl ⟨hc, fun k => ?_, rfl, fun z hz => ?_⟩⟩
    · exact hc ((check_ok _ _).2 (k.2.ok hss))
    · unfold comeL at hz
      rw [hp] at hz; cases hz
  · refine ⟨some b, okD, he, Or.inr ⟨rfl, ⟨hp, ?_, ss, hss, (check_ok _ _).1 hc⟩, b, A, rfl, ?_⟩⟩
    · exact out_good hg (fun p hp' => ((pre_none.1 hp).2.1 p hp').1)
    · have : (comeL x).length = x.1.come.length := by unfold comeL; rw [List.length_map]
      rw [this]
      rw [List.length_map] at hB
      exact hB
theorem after_held (b N : Nat) (f : BaseF) (A : By → PkgA) (x : ChD × ChA) (w : World) (hE : EnvN w) (hb : EntsM w b N f A) (hg : HeldF f) (hm : ChM w x) (hs : SmallC x) (hN : N ≤ 10000) :
    Calls Tryz.prog 24 #[.agg #[.map (some b)], .agg #[.slice x.2.ca x.1.come.length x.2.cc, .slice x.2.ga x.1.go.length x.2.gc]] w (HeldR N f (comeL x) x.1.go w) :=
  after_heldV _ N f x w hE (Or.inr ⟨b, A, rfl, hb⟩) hg.1 hm hs hN
/-- Done again at once it is refused. -/
theorem after_again (b N : Nat) (f : BaseF) (A : By → PkgA) (x : ChD × ChA) (w : World) (hE : EnvN w) (hb : EntsM w b N (outF f (comeL x) x.1.go) A) (hk : AfterOK f (comeL x) x.1.go) (hm : ChM w x) (hs : SmallC x) (hN : N ≤ 10000) :
    Calls Tryz.prog 24 #[.agg #[.map (some b)], .agg #[.slice x.2.ca x.1.come.length x.2.cc, .slice x.2.ga x.1.go.length x.2.gc]] w fun e w' => (∃ z, (z.code = 15 ∨ z.code = 8) ∧ e = .returned (.tuple #[.agg #[.map none], faultV z])) ∧ Ext w w' := by
  refine (after_held b N _ A x w hE hb hk.2 hm hs hN).mono ?_
  obtain ⟨z, hz, hc⟩ := again_bad hk.1
  rintro e w' ⟨hx, pm, y, h, ⟨_, _, rfl, he⟩ | ⟨_, hok, _⟩⟩
  · rw [← he z hz] at hc
    exact ⟨⟨y, hc, h⟩, hx⟩
  · have := hok.1
    rw [hz] at this; cases this
theorem pre_go {f : BaseF} {n : By} (h : (f n).isSome = true) : preFault f [] [n] = none := pre_none.2 ⟨Or.inr (by simp), by simp, by simp, by simpa using h, by simp⟩
theorem out_go (f : BaseF) (n : By) : outF f [] [n] = lessF f n := rfl
/-- One package goes: may it? -/
theorem go_ok {f : BaseF} {ss : List By} {n : By} (hf : HeldF f) (hs : NamesF f ss) (hn : n ∈ ss) : AfterOK f [] [n] ↔ ¬ Needed f ss n := by
  have hsome := (hs.2.2 n).1 hn
  have ht : NamesF (lessF f n) (ss.filter fun z => !decide (z = n)) := by
    refine ⟨hs.1.filter _, hs.2.1.filter _, fun x => ?_⟩
    rw [List.mem_filter, hs.2.2]
    by_cases hx : x = n
    · subst hx; simp [lessF]
    · simp [lessF_ne hx, hx]
  rw [← less_check hs ht hn (hf.ok hs)]
  constructor
  · rintro ⟨_, h⟩
    rw [out_go] at h
    exact h.ok ht
  · intro h
    exact ⟨pre_go hsome, by rw [out_go]; exact ⟨hf.1.less n, _, ht, h⟩⟩
/-- Two changes that have no package in common are one. -/
theorem both_ok {f : BaseF} {a b : List PkgD} {x y : List By} (ha : AfterOK f a x) (hb : AfterOK (outF f a x) b y) (hd : (a.map PkgD.name ++ x ++ (b.map PkgD.name ++ y)).Nodup) :
    AfterOK f (a ++ b) (x ++ y) ∧ outF f (a ++ b) (x ++ y) = outF (outF f a x) b y := by
  obtain ⟨h1, h2⟩ := both_pre ha.1 hb.1 hd
  exact ⟨⟨h1, by rw [h2]; exact hb.2⟩, h2⟩
/-- Does another package need one? -/
def neededB (f : BaseF) (L : List By) (x : By) : Bool := L.any fun y => !decide (y = x) && ((f y).getD pz).needs.any fun z => decide (z.name = x)
theorem neededB_iff {f : BaseF} {ss : List By} {x : By} : neededB f ss x = true ↔ Needed f ss x := by
  unfold neededB Needed
  simp only [List.any_eq_true, Bool.and_eq_true, Bool.not_eq_true', decide_eq_false_iff_not, decide_eq_true_eq]
/-- A box has a base whose packages may be there together. -/
def HoldAt (w : World) (B N : Nat) : Prop := ∃ b f A, w.heap[B]? = some (.cells #[.map (some b)] 42 (0, 0)) ∧ EntsM w b N f A ∧ HeldF f
theorem HoldAt.ext {w w' : World} {B N : Nat} (h : HoldAt w B N) (k : Ext w w') : HoldAt w' B N := by
  obtain ⟨b, f, A, h1, h2, h3⟩ := h
  exact ⟨b, f, A, k.heap h1, h2.ext k, h3⟩
theorem HoldAt.mono {w : World} {B N M : Nat} (h : HoldAt w B N) (k : N ≤ M) : HoldAt w B M := by
  obtain ⟨b, f, A, h1, h2, h3⟩ := h
  exact ⟨b, f, A, h1, h2.mono k, h3⟩
/-- Another base is laid into the box. -/
theorem HoldAt.set {w : World} {B N b b0 : Nat} {f : BaseF} {A : By → PkgA} (h : w.heap[B]? = some (.cells #[.map (some b0)] 42 (0, 0))) (hm : EntsM w b N f A) (hf : HeldF f) : HoldAt (w.setCell ⟨B, 0, none⟩ (.map (some b))) B N := by
  have kb : Keep (· ≠ B) w (w.setCell ⟨B, 0, none⟩ (.map (some b))) := (Keep.refl _ _).setCell (fun _ h => h) 0 _
  refine ⟨b, f, A, ?_, hm.keep kb h, hf⟩
  have := setCell_row h (i := 0) (.map (some b))
  simpa using this
theorem set_ext {w0 w : World} {B : Nat} {v : Value} (hx : Ext w0 w) (hB : w0.heap.size ≤ B) : Ext w0 (w.setCell ⟨B, 0, none⟩ v) :=
  ((Keep.of_ext (S := fun j => j < w0.heap.size) hx).andThen ((Keep.refl (· ≠ B) _).setCell (fun _ h => h) 0 _) (fun j hj _ => by show j ≠ B; omega)).ext_lt
theorem smallAll_c {L : List (ChD × ChA)} (h : smallAll L = true) {k : Nat} (hk : k < L.length) : SmallC (L.getD k cz) := by
  have := smallAll_get h (x := L.getD k cz) (by rw [List.getD_eq_getElem?_getD, List.getElem?_eq_getElem hk]; simp)
  exact ⟨this.1, this.2.1, this.2.2⟩
theorem smallAll_sum {L : List (ChD × ChA)} (h : smallAll L = true) : sumCh L ≤ 60 := by
  unfold smallAll at h
  simp only [Bool.and_eq_true, decide_eq_true_eq] at h
  exact h.2.1
theorem sumCh_mono (L : List (ChD × ChA)) {j : Nat} : ∀ {k : Nat}, j ≤ k → sumCh (L.take j) ≤ sumCh (L.take k)
  | 0, h => by rw [Nat.le_zero.1 h]; exact Nat.le_refl _
  | k + 1, h => by
    rcases Nat.lt_or_ge k L.length with hk | hk
    · rcases Nat.lt_or_ge j (k + 1) with h1 | h1
      · have := sumCh_mono L (j := j) (k := k) (by omega)
        rw [sumCh_take hk]; omega
      · rw [show j = k + 1 by omega]; exact Nat.le_refl _
    · rcases Nat.lt_or_ge j (k + 1) with h1 | h1
      · have := sumCh_mono L (j := j) (k := k) (by omega)
        rw [List.take_of_length_le (by omega : L.length ≤ k + 1)]
        rw [List.take_of_length_le (by omega : L.length ≤ k)] at this
        exact this
      · rw [show j = k + 1 by omega]; exact Nat.le_refl _
theorem sumCh_all (L : List (ChD × ChA)) (k : Nat) : sumCh (L.take k) ≤ sumCh L := by
  rcases Nat.lt_or_ge k L.length with h | h
  · have := sumCh_mono L (j := k) (k := L.length) (by omega)
    rwa [List.take_length] at this
  · rw [List.take_of_length_le h]; exact Nat.le_refl _
theorem setCh_take {L : List (ChD × ChA)} {k : Nat} (hk : k < L.length) : sumCh (L.take k) + (comeL (L.getD k cz)).length ≤ sumCh (L.take (k + 1)) := by
  rw [sumCh_take hk]
  unfold lenCh comeL
  rw [List.length_map]
  omega
end Go.Proofs.YtnclibfhbngkjaaGreatDoor
