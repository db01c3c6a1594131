/- Plain laws on changes. No program in sight. -/
import Derived.Test.YtnclibfhbngkjaaGreatDoorM3
namespace Go.Proofs.YtnclibfhbngkjaaGreatDoor
/-- A package that comes is newer than the one that is there. -/
def Newer (f : BaseF) (p : PkgD) : Prop := ∀ e, f p.name = some e → ¬ cmpV (verL p.ver) (verL e.ver) ≤ 0
theorem come_none {f : BaseF} {seen : List By} {p : PkgD} : comeFault f seen p = none ↔ rightP p = true ∧ p.name ∉ seen ∧ Newer f p := by
  unfold comeFault Newer
  cases hr : rightP p
  · simp
  · by_cases hs : p.name ∈ seen
    · simp [hs]
    · cases hf : f p.name with
      | none => simp [hs]
      | some e =>
        by_cases hc : cmpV (verL p.ver) (verL e.ver) ≤ 0
        · simp [hs, hc]
        · simp [hs, hc]; omega
theorem comes_none {f : BaseF} : ∀ {L : List PkgD} {seen : List By}, comesFault f seen L = none ↔ (∀ p ∈ L, rightP p = true ∧ p.name ∉ seen ∧ Newer f p) ∧ (L.map PkgD.name).Nodup
  | [], seen => by simp [comesFault]
  | p :: L, seen => by
    unfold comesFault
    cases hc : comeFault f seen p with
    | some x =>
      have : ¬ (rightP p = true ∧ p.name ∉ seen ∧ Newer f p) := fun h => by rw [come_none.2 h] at hc; cases hc
      simp only [reduceCtorEq, false_iff]
      intro h
      exact this (h.1 p (by simp))
    | none =>
      have hp := come_none.1 hc
      simp only
      rw [comes_none, List.map_cons, List.nodup_cons]
      constructor
      · rintro ⟨h1, h2⟩
        refine ⟨fun q hq => ?_, ?_, h2⟩
        · rcases List.mem_cons.1 hq with rfl | hq
          · exact hp
          · have := h1 q hq
            exact ⟨this.1, fun k => this.2.1 (List.mem_append.2 (Or.inl k)), this.2.2⟩
        · intro hm
          obtain ⟨q, hq, e⟩ := List.mem_map.1 hm
          exact (h1 q hq).2.1 (by rw [e]; simp)
      · rintro ⟨h1, h2, h3⟩
        refine ⟨fun q hq => ?_, h3⟩
        have := h1 q (List.mem_cons_of_mem _ hq)
        refine ⟨this.1, fun k => ?_, this.2.2⟩
        rcases List.mem_append.1 k with k | k
        · exact this.2.1 k
        · exact h2 (List.mem_map.2 ⟨q, hq, List.mem_singleton.1 k⟩)
theorem go_none {f : BaseF} {seen : List By} {n : By} : goFault f seen n = none ↔ n ∉ seen ∧ (f n).isSome = true := by
  unfold goFault
  by_cases hs : n ∈ seen
  · simp [hs]
  · cases hf : (f n).isSome
    · simp [hs]
    · simp [hs]
theorem gos_none {f : BaseF} : ∀ {L seen : List By}, gosFault f seen L = none ↔ (∀ n ∈ L, n ∉ seen ∧ (f n).isSome = true) ∧ L.Nodup
  | [], seen => by simp [gosFault]
  | n :: L, seen => by
    unfold gosFault
    cases hc : goFault f seen n with
    | some x =>
      have : ¬ (n ∉ seen ∧ (f n).isSome = true) := fun h => by rw [go_none.2 h] at hc; cases hc
      simp only [reduceCtorEq, false_iff]
      intro h
      exact this (h.1 n (by simp))
    | none =>
      have hp := go_none.1 hc
      simp only
      rw [gos_none, List.nodup_cons]
      constructor
      · rintro ⟨h1, h2⟩
        refine ⟨fun q hq => ?_, ?_, h2⟩
        · rcases List.mem_cons.1 hq with rfl | hq
          · exact hp
          · have := h1 q hq
            exact ⟨fun k => this.1 (List.mem_append.2 (Or.inl k)), this.2⟩
        · intro hm
          exact (h1 n hm).1 (by simp)
      · rintro ⟨h1, h2, h3⟩
        refine ⟨fun q hq => ?_, h3⟩
        have := h1 q (List.mem_cons_of_mem _ hq)
        refine ⟨fun k => ?_, this.2⟩
        rcases List.mem_append.1 k with k | k
        · exact this.1 k
        · rw [List.mem_singleton.1 k] at hq; exact h2 hq
/-- May a change be done, but for what would be there then? -/
theorem pre_none {f : BaseF} {come : List PkgD} {go : List By} : preFault f come go = none ↔
    (come ≠ [] ∨ go ≠ []) ∧ (∀ p ∈ come, rightP p = true ∧ Newer f p) ∧ (come.map PkgD.name).Nodup ∧ (∀ n ∈ go, n ∉ come.map PkgD.name ∧ (f n).isSome = true) ∧ go.Nodup := by
  unfold preFault
  by_cases h0 : come.length + go.length = 0
  · rw [if_pos h0]
    have h1 : come = [] := List.eq_nil_of_length_eq_zero (by omega)
    have h2 : go = [] := List.eq_nil_of_length_eq_zero (by omega)
    simp [h1, h2]
  · rw [if_neg h0]
    have hne : come ≠ [] ∨ go ≠ [] := by
      by_cases h1 : come = []
      · right; intro h2; rw [h1, h2] at h0; simp at h0
      · exact Or.inl h1
    cases hc : comesFault f [] come with
    | some x =>
      simp only [reduceCtorEq, false_iff]
      rintro ⟨_, h2, h3, _⟩
      have : comesFault f [] come = none := comes_none.2 ⟨fun p hp => ⟨(h2 p hp).1, by simp, (h2 p hp).2⟩, h3⟩
      rw [hc] at this; cases this
    | none =>
      have h := comes_none.1 hc
      simp only
      rw [gos_none]
      exact ⟨fun k => ⟨hne, fun p hp => ⟨(h.1 p hp).1, (h.1 p hp).2.2⟩, h.2, k.1, k.2⟩, fun k => ⟨k.2.2.2.1, k.2.2.2.2⟩⟩
/-! ### What is there behind a change -/
theorem foldl_less (go : List By) : ∀ (f : BaseF) (x : By), go.foldl lessF f x = if x ∈ go then none else f x := by
  induction go with
  | nil => intro f x; simp
  | cons n go ih =>
    intro f x
    rw [List.foldl_cons, ih]
    unfold lessF
    by_cases h1 : x ∈ go
    · simp [h1]
    · by_cases h2 : x = n
      · simp [h2]
      · simp [h1, h2]
theorem foldl_with (E : List PkgD) : ∀ (f : BaseF) (x : By), (E.map PkgD.name).Nodup → (∀ e ∈ E, e.name = x → E.foldl withF f x = some e) ∧ ((∀ e ∈ E, e.name ≠ x) → E.foldl withF f x = f x) := by
  induction E with
  | nil => intro f x _; exact ⟨fun e h => by simp at h, fun _ => rfl⟩
  | cons a E ih =>
    intro f x hn
    rw [List.map_cons, List.nodup_cons] at hn
    have hi := ih (withF f a) x hn.2
    rw [List.foldl_cons]
    refine ⟨fun e he hx => ?_, fun h => ?_⟩
    · rcases List.mem_cons.1 he with rfl | he
      · rw [hi.2 fun d hd k => hn.1 (List.mem_map.2 ⟨d, hd, by rw [k, hx]⟩)]
        unfold withF; rw [if_pos hx.symm]
      · exact hi.1 e he hx
    · rw [hi.2 fun e he => h e (by simp [he])]
      unfold withF; rw [if_neg (fun k => h a (by simp) k.symm)]
theorem ofP_name (p : PkgD) : (ofP p).name = p.name := rfl
theorem ofP_names (L : List PkgD) : (L.map ofP).map PkgD.name = L.map PkgD.name := by rw [List.map_map]; rfl
theorem out_come {f : BaseF} {come : List PkgD} {go : List By} (hn : (come.map PkgD.name).Nodup) {p : PkgD} (hp : p ∈ come) : outF f come go p.name = some (ofP p) :=
  (foldl_with (come.map ofP) _ p.name (by rw [ofP_names]; exact hn)).1 (ofP p) (List.mem_map.2 ⟨p, hp, rfl⟩) rfl
theorem out_other {f : BaseF} {come : List PkgD} {go : List By} (hn : (come.map PkgD.name).Nodup) {x : By} (hx : x ∉ come.map PkgD.name) : outF f come go x = if x ∈ go then none else f x := by
  unfold outF
  rw [(foldl_with (come.map ofP) _ x (by rw [ofP_names]; exact hn)).2 (fun e he k => hx (by rw [← ofP_names]; exact List.mem_map.2 ⟨e, he, k⟩)), foldl_less]
theorem out_good {f : BaseF} (hf : GoodF f) {come : List PkgD} {go : List By} (hr : ∀ p ∈ come, rightP p = true) : GoodF (outF f come go) := by
  unfold outF
  have h1 : ∀ (go : List By) (f : BaseF), GoodF f → GoodF (go.foldl lessF f) := by
    intro go
    induction go with
    | nil => intro f h; exact h
    | cons n go ih => intro f h; exact ih _ (h.less n)
  have h2 : ∀ (L : List PkgD) (f : BaseF), (∀ p ∈ L, rightP p = true) → GoodF f → GoodF ((L.map ofP).foldl withF f) := by
    intro L
    induction L with
    | nil => intro f _ h; exact h
    | cons p L ih => intro f hr h; exact ih _ (fun q hq => hr q (by simp [hq])) (h.with (ofP_right (hr p (by simp))) (ofP_sums p))
  exact h2 come _ hr (h1 go f hf)
/-- Done again at once it is refused. -/
theorem again_bad {f : BaseF} {come : List PkgD} {go : List By} (h : preFault f come go = none) :
    ∃ x, preFault (outF f come go) come go = some x ∧ (x.code = 15 ∨ x.code = 8) := by
  obtain ⟨h0, h1, h2, h3, h4⟩ := pre_none.1 h
  unfold preFault
  have hl : ¬ come.length + go.length = 0 := by
    intro e
    have e1 : come = [] := List.eq_nil_of_length_eq_zero (by omega)
    have e2 : go = [] := List.eq_nil_of_length_eq_zero (by omega)
    rcases h0 with h | h
    · exact h e1
    · exact h e2
  rw [if_neg hl]
  cases come with
  | cons p L =>
    have hc : comeFault (outF f (p :: L) go) [] p = some ⟨15, p.name, (ofP p).ver⟩ := by
      unfold comeFault
      rw [(h1 p (by simp)).1, if_neg (by simp), if_neg (by simp), out_come h2 (by simp)]
      simp only
      rw [if_pos ?_]
      have : cmpV (verL p.ver) (verL (ofP p).ver) = - cmpV (verL (ofP p).ver) (verL p.ver) := cmpV_neg _ _
      have e : (ofP p).ver = p.ver := rfl
      rw [e] at this ⊢
      omega
    exact ⟨_, by unfold comesFault; rw [hc], Or.inl rfl⟩
  | nil =>
    cases go with
    | nil => simp at hl
    | cons n L =>
      have hg : goFault (outF f [] (n :: L)) [] n = some ⟨8, n, []⟩ := by
        unfold goFault
        have e : outF f [] (n :: L) n = none := by rw [out_other (by simp) (by simp), if_pos (by simp)]
        rw [if_neg (by simp), e]
        rfl
      refine ⟨⟨8, n, []⟩, ?_, Or.inr rfl⟩
      simp only [comesFault, List.map_nil]
      unfold gosFault
      rw [hg]
/-- Two changes that have no package in common are one. -/
theorem both_pre {f : BaseF} {a b : List PkgD} {x y : List By} (ha : preFault f a x = none) (hb : preFault (outF f a x) b y = none)
    (hd : (a.map PkgD.name ++ x ++ (b.map PkgD.name ++ y)).Nodup) : preFault f (a ++ b) (x ++ y) = none ∧ outF f (a ++ b) (x ++ y) = outF (outF f a x) b y := by
  obtain ⟨a0, a1, a2, a3, a4⟩ := pre_none.1 ha
  obtain ⟨b0, b1, b2, b3, b4⟩ := pre_none.1 hb
  obtain ⟨d1, d2, d3⟩ := List.nodup_append.1 hd
  have hax : ∀ n, n ∈ a.map PkgD.name ∨ n ∈ x → n ∉ b.map PkgD.name ∧ n ∉ y := fun n hn =>
    ⟨fun k => d3 n (List.mem_append.2 hn) n (List.mem_append.2 (Or.inl k)) rfl, fun k => d3 n (List.mem_append.2 hn) n (List.mem_append.2 (Or.inr k)) rfl⟩
  have hsame : ∀ n, n ∈ b.map PkgD.name ∨ n ∈ y → outF f a x n = f n := by
    intro n hn
    have h1 : n ∉ a.map PkgD.name := fun k => by
      rcases hn with h | h
      · exact (hax n (Or.inl k)).1 h
      · exact (hax n (Or.inl k)).2 h
    have h2 : n ∉ x := fun k => by
      rcases hn with h | h
      · exact (hax n (Or.inr k)).1 h
      · exact (hax n (Or.inr k)).2 h
    rw [out_other a2 h1, if_neg h2]
  have hab : ((a ++ b).map PkgD.name).Nodup := by
    rw [List.map_append, List.nodup_append]
    exact ⟨a2, b2, fun n hn m hm e => (hax n (Or.inl hn)).1 (e ▸ hm)⟩
  refine ⟨pre_none.2 ⟨?_, ?_, hab, ?_, ?_⟩, ?_⟩
  · rcases a0 with h | h
    · left; simp [h]
    · right; simp [h]
  · intro p hp
    rcases List.mem_append.1 hp with hp | hp
    · exact a1 p hp
    · refine ⟨(b1 p hp).1, ?_⟩
      have := (b1 p hp).2
      unfold Newer at this ⊢
      rw [hsame p.name (Or.inl (List.mem_map.2 ⟨p, hp, rfl⟩))] at this
      exact this
  · intro n hn
    rw [List.map_append, List.mem_append]
    rcases List.mem_append.1 hn with hn | hn
    · exact ⟨fun k => by rcases k with k | k
                         · exact (a3 n hn).1 k
                         · exact (hax n (Or.inr hn)).1 k, (a3 n hn).2⟩
    · refine ⟨fun k => ?_, ?_⟩
      · rcases k with k | k
        · exact (hax n (Or.inl k)).2 hn
        · exact (b3 n hn).1 k
      · have := (b3 n hn).2
        rw [hsame n (Or.inr hn)] at this
        exact this
  · rw [List.nodup_append]
    exact ⟨a4, b4, fun n hn m hm e => (hax n (Or.inr hn)).2 (e ▸ hm)⟩
  · funext n
    by_cases hb' : n ∈ b.map PkgD.name
    · obtain ⟨p, hp, rfl⟩ := List.mem_map.1 hb'
      rw [out_come hab (List.mem_append.2 (Or.inr hp)), out_come b2 hp]
    · rw [out_other b2 hb']
      by_cases ha' : n ∈ a.map PkgD.name
      · obtain ⟨p, hp, rfl⟩ := List.mem_map.1 ha'
        rw [out_come hab (List.mem_append.2 (Or.inl hp)), if_neg (hax p.name (Or.inl ha')).2, out_come a2 hp]
      · have hno : n ∉ (a ++ b).map PkgD.name := by
          rw [List.map_append, List.mem_append]
          rintro (k | k)
          · exact ha' k
          · exact hb' k
        rw [out_other hab hno, out_other a2 ha']
        by_cases hy : n ∈ y
        · simp [hy]
        · by_cases hx : n ∈ x
          · simp [hx]
          · simp [hx, hy]
/-! ### One package goes -/
def Needed (f : BaseF) (ss : List By) (n : By) : Prop := ∃ m ∈ ss, m ≠ n ∧ ∃ x ∈ ((f m).getD pz).needs, x.name = n
theorem lessF_ne {f : BaseF} {n m : By} (h : m ≠ n) : lessF f n m = f m := by unfold lessF; rw [if_neg h]
theorem find_less {f : BaseF} {n p : By} : ∀ {ss : List By} (m : By), m ≠ n → (ss.find? (hasPath f p)) = some m → (ss.filter (fun z => !decide (z = n))).find? (hasPath f p) = some m
  | [], m, _, h => by simp at h
  | a :: ss, m, hm, h => by
    by_cases ha : a = n
    · subst ha
      have hf : ((a :: ss).filter fun z => !decide (z = a)) = ss.filter fun z => !decide (z = a) := by simp
      rw [hf]
      cases hp : hasPath f p a
      · rw [List.find?_cons_of_neg (by rw [hp]; decide)] at h
        exact find_less m hm h
      · rw [List.find?_cons_of_pos hp] at h
        cases h
        exact absurd rfl hm
    · have hf : ((a :: ss).filter fun z => !decide (z = n)) = a :: ss.filter fun z => !decide (z = n) := by simp [ha]
      rw [hf]
      cases hp : hasPath f p a
      · rw [List.find?_cons_of_neg (by rw [hp]; decide)] at h ⊢
        exact find_less m hm h
      · rw [List.find?_cons_of_pos hp] at h ⊢
        exact h
theorem less_check {f : BaseF} {ss tt : List By} {n : By} (h : NamesF f ss) (k : NamesF (lessF f n) tt) (hn : n ∈ ss) (hc : CheckOK f ss) : CheckOK (lessF f n) tt ↔ ¬ Needed f ss n := by
  have htt : tt = ss.filter fun z => !decide (z = n) := by
    have : NamesF (lessF f n) (ss.filter fun z => !decide (z = n)) := by
      refine ⟨h.1.filter _, h.2.1.filter _, fun x => ?_⟩
      rw [List.mem_filter, h.2.2]
      by_cases hx : x = n
      · subst hx; simp [lessF]
      · simp [lessF_ne hx, hx]
    exact k.eq this
  have hmem : ∀ m, m ∈ tt ↔ m ∈ ss ∧ m ≠ n := fun m => by rw [htt, List.mem_filter]; simp
  constructor
  · rintro ⟨_, h2, _⟩ ⟨m, hm, hne, x, hx, e⟩
    have := (h2 m ((hmem m).2 ⟨hm, hne⟩)).1 x (by rw [lessF_ne hne]; exact hx)
    unfold needBad at this
    rw [e] at this
    simp [lessF] at this
  · intro hno
    refine ⟨?_, fun m hm => ⟨fun x hx => ?_, fun c hc' => ?_⟩, fun m hm g hg => ?_⟩
    · have := hc.1
      have := List.length_filter_le (fun z => !decide (z = n)) ss
      rw [htt]; omega
    · obtain ⟨hms, hne⟩ := (hmem m).1 hm
      rw [lessF_ne hne] at hx
      have := (hc.2.1 m hms).1 x hx
      have hxn : x.name ≠ n := fun e => hno ⟨m, hms, hne, x, hx, e⟩
      unfold needBad at this ⊢
      rw [lessF_ne hxn]
      exact this
    · obtain ⟨hms, hne⟩ := (hmem m).1 hm
      rw [lessF_ne hne] at hc'
      have := (hc.2.1 m hms).2 c hc'
      unfold lessF
      split
      · rfl
      · exact this
    · obtain ⟨hms, hne⟩ := (hmem m).1 hm
      rw [lessF_ne hne] at hg
      have := hc.2.2 m hms g hg
      have hp : ∀ z ∈ tt, hasPath (lessF f n) g.path z = hasPath f g.path z := fun z hz => by
        unfold hasPath; rw [lessF_ne ((hmem z).1 hz).2]
      have hcong : tt.find? (hasPath (lessF f n) g.path) = tt.find? (hasPath f g.path) := by
        clear this hm hms hg htt k hmem
        induction tt with
        | nil => rfl
        | cons z tt ih =>
          rw [List.find?_cons, List.find?_cons, hp z (by simp), ih (fun y hy => hp y (by simp [hy]))]
      refine ⟨?_, ?_⟩
      · have h1 := this.1
        unfold ownerN at h1 ⊢
        have hfd : (ss.find? (hasPath f g.path)).isSome = true := List.find?_isSome.2 ⟨m, hms, by unfold hasPath; rw [List.any_eq_true]; exact ⟨g, hg, by simp⟩⟩
        obtain ⟨z, hz⟩ := Option.isSome_iff_exists.1 hfd
        rw [hz] at h1
        simp only [Option.getD_some] at h1
        subst h1
        rw [hcong, htt, find_less z hne hz]
        rfl
      · have h2 := this.2
        unfold anyIn at h2 ⊢
        rw [List.any_eq_false] at h2 ⊢
        intro z hz
        have := h2 z ((hmem z).1 hz).1
        rw [lessF_ne ((hmem z).1 hz).2]
        exact this
theorem none_check : CheckOK noneF [] := ⟨by simp, by simp, by simp⟩
theorem none_names : NamesF noneF [] := ⟨by simp, by simp, by simp [noneF]⟩
end Go.Proofs.YtnclibfhbngkjaaGreatDoor
