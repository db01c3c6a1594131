/- Plain words on bases: packages that are there, by their names; how they are packed, and read back. No program in sight. -/
import Derived.Test.YtnclibfhbngkjaaGreatDoorM4
namespace Go.Proofs.YtnclibfhbngkjaaGreatDoor
/-! ### A package as one that is there: of each file's bytes the sum alone -/
def ofF (f : FileD) : FileD := ⟨f.path, f.config, sumB f.data⟩
def ofP (p : PkgD) : PkgD := ⟨p.name, p.ver, p.needs, p.conf, p.files.map ofF, p.units⟩
def SumsP (p : PkgD) : Prop := ∀ f ∈ p.files, f.data.length = 4
theorem ofP_sums (p : PkgD) : SumsP (ofP p) := by
  intro f hf
  simp only [ofP, List.mem_map] at hf
  obtain ⟨g, _, rfl⟩ := hf
  rfl
theorem getD_map_path (L : List FileD) (k : Nat) : ((L.map ofF).getD k ⟨[], false, []⟩).path = (L.getD k ⟨[], false, []⟩).path := by
  by_cases h : k < L.length
  · simp [List.getD_eq_getElem?_getD, h, ofF]
  · simp [List.getD_eq_getElem?_getD, h]
theorem fileR_ofF {f : FileD} (h : fileR f = true) : fileR (ofF f) = true := by
  unfold fileR at h ⊢
  simp only [Bool.and_eq_true, decide_eq_true_eq] at h ⊢
  exact ⟨h.1, by simp [ofF, sumB, num4_len], h.2.2⟩
theorem fileAt_ofF {L : List FileD} {k : Nat} (hk : k < L.length) (h : fileAt L k = true) : fileAt (L.map ofF) k = true := by
  unfold fileAt at h ⊢
  rw [getD_map_path, getD_map_path]
  simp only [Bool.and_eq_true] at h ⊢
  have e : (L.map ofF).getD k ⟨[], false, []⟩ = ofF (L.getD k ⟨[], false, []⟩) := by simp [List.getD_eq_getElem?_getD, hk]
  refine ⟨by rw [e]; exact fileR_ofF h.1, h.2.1, ?_⟩
  have h3 := h.2.2
  rw [← List.map_take, List.any_map]
  exact h3
theorem ofP_right {p : PkgD} (h : rightP p = true) : rightP (ofP p) = true := by
  unfold rightP at h ⊢
  simp only [Bool.and_eq_true] at h ⊢
  refine ⟨?_, h.2.1, h.2.2.1, h.2.2.2.1, ?_⟩
  · have := h.1
    unfold headP at this ⊢
    simp only [ofP, List.length_map]
    exact this
  · have := h.2.2.2.2
    unfold filesTo at this ⊢
    rw [List.all_eq_true] at this ⊢
    intro j hj
    have hj' : j < p.files.length := by simpa [ofP] using hj
    exact fileAt_ofF hj' (this j (by simpa using hj'))
/-! ### Its bytes in a base -/
def fileE (f : FileD) : By := raw4 f.path ++ (num4 (boolN f.config) ++ f.data)
def packE (p : PkgD) : By := [raw4 p.name, raw4 p.ver, raw4 (p.needs.flatMap needB), raw4 (p.conf.flatMap raw4), raw4 (p.files.flatMap fileE), raw4 (p.units.flatMap raw4)].flatten
def oneNeedE (s : RSt) : NeedD × RSt := (⟨(rRaw 60 s).1, ((rNum 9 (rRaw 60 s).2).1 : Nat), (rRaw 60 (rNum 9 (rRaw 60 s).2).2).1⟩, (rRaw 60 (rNum 9 (rRaw 60 s).2).2).2)
def oneFileE (s : RSt) : FileD × RSt := (⟨(rRaw 60 s).1, decide ((rNum 1 (rRaw 60 s).2).1 = 1), num4 (rNum 4294967295 (rNum 1 (rRaw 60 s).2).2).1⟩, (rNum 4294967295 (rNum 1 (rRaw 60 s).2).2).2)
theorem oneNeedE_takes : Takes oneNeedE := fun _ h => Nat.lt_of_le_of_lt (rRaw_len 60 _).1 (Nat.lt_of_le_of_lt (rNum_len 9 _) (rRaw_less h))
theorem oneFileE_takes : Takes oneFileE := fun _ h => Nat.lt_of_le_of_lt (rNum_len _ _) (Nat.lt_of_le_of_lt (rNum_len 1 _) (rRaw_less h))
def unE (b : By) : RdPk :=
  let s1 := rRaw 60 (b, false)
  let s2 := rRaw 60 s1.2
  let n := rList s2.2
  let c := rList n.2
  let f := rList c.2
  let u := rList f.2
  let N := rEach oneNeedE n.1
  let C := rEach (oneText 60) c.1
  let F := rEach oneFileE f.1
  let U := rEach (oneText 300) u.1
  ⟨⟨s1.1, s2.1, N.1, C.1, F.1, U.1⟩, rDone u.2 && (rDone N.2 && (rDone C.2 && (rDone F.2 && rDone U.2)))⟩
theorem needE_back {n : NeedD} (h : needR n = true) (hv : n.ver.length ≤ 60) (l : By) : oneNeedE (needB n ++ l, false) = (n, (l, false)) := by
  unfold needR at h
  simp only [Bool.and_eq_true, Bool.or_eq_true, decide_eq_true_eq] at h
  have h12 := nameL_12 h.1
  have hw : 0 ≤ n.way ∧ n.way ≤ 3 := by rcases h.2 with h | h <;> omega
  have hu : u32 n.way = n.way.toNat := by unfold u32; omega
  unfold oneNeedE needB numI
  simp only [List.append_assoc]
  rw [rRaw_back (by omega) (by omega)]
  simp only
  rw [rNum_back (by rw [hu]; omega) (u32_lt _)]
  simp only
  rw [rRaw_back hv (by omega)]
  simp only [hu]
  have : ((n.way.toNat : Nat) : Int) = n.way := by omega
  rw [this]
theorem num4_le {d : By} (h : d.length = 4) : num4 (le32 d) = d := by
  have := num4_le32 (l := d) (by omega)
  rwa [List.drop_of_length_le (by omega), List.append_nil] at this
theorem fileE_back {f : FileD} (h : fileR f = true) (hd : f.data.length = 4) (l : By) : oneFileE (fileE f ++ l, false) = (f, (l, false)) := by
  unfold fileR at h
  simp only [Bool.and_eq_true, decide_eq_true_eq] at h
  have h40 := rightL_40 h.1
  have hb : boolN f.config ≤ 1 := by unfold boolN; split <;> omega
  unfold oneFileE fileE
  simp only [List.append_assoc]
  rw [rRaw_back (by omega) (by omega)]
  simp only
  rw [rNum_back hb (by omega)]
  simp only
  rw [← num4_le hd, rNum_back (by have := le32_lt f.data; omega) (le32_lt _)]
  have : decide (boolN f.config = 1) = f.config := by cases f.config <;> rfl
  rw [this]
  simp only [num4_le hd]
theorem fileE_len {f : FileD} (h : f.data.length = 4) : (fileE f).length = 12 + f.path.length := by simp [fileE, raw4_len, num4_len, h]; omega
theorem packE_len {p : PkgD} (h : rightP p = true) (hs : SumsP p) : (packE p).length ≤ 4000 ∧ (p.needs.flatMap needB).length ≤ 4000 ∧ (p.conf.flatMap raw4).length ≤ 4000 ∧ (p.files.flatMap fileE).length ≤ 4000 ∧ (p.units.flatMap raw4).length ≤ 4000 := by
  unfold rightP headP at h
  simp only [Bool.and_eq_true, decide_eq_true_eq] at h
  obtain ⟨⟨h1, h2, h3, h4, h5, h6⟩, h7, h8, h9, h0⟩ := h
  have n1 := nameL_12 h1
  have n2 := verR_30 h2
  have hf := filesTo_all h0
  rw [List.take_length] at hf
  have a1 := flat_len_le (enc := needB) (m := 54) p.needs (fun x hx => by
    have := (List.all_eq_true.1 h7) x hx
    unfold needR at this
    simp only [Bool.and_eq_true, Bool.or_eq_true, decide_eq_true_eq] at this
    have i1 := nameL_12 this.1
    have i2 : x.ver.length ≤ 30 := by
      rcases this.2 with e | e
      · rw [e.2]; simp
      · exact verR_30 e.2
    rw [needB_len]; omega)
  have a2 := flat_len_le (enc := raw4) (m := 16) p.conf (fun x hx => by
    have := (List.all_eq_true.1 h8) x hx
    unfold confR at this
    simp only [Bool.and_eq_true] at this
    have i1 := nameL_12 this.1
    rw [raw4_len]; omega)
  have a3 := flat_len_le (enc := fileE) (m := 52) p.files (fun x hx => by
    have := hf x hx
    unfold fileR at this
    simp only [Bool.and_eq_true, decide_eq_true_eq] at this
    have i1 := rightL_40 this.1
    rw [fileE_len (hs x hx)]; omega)
  have a4 := flat_len_le (enc := raw4) (m := 304) p.units (fun x hx => by
    have := (List.all_eq_true.1 h9) x hx
    simp only [decide_eq_true_eq] at this
    rw [raw4_len]; omega)
  have e : (packE p).length = 24 + p.name.length + p.ver.length + (p.needs.flatMap needB).length + (p.conf.flatMap raw4).length + (p.files.flatMap fileE).length + (p.units.flatMap raw4).length := by
    simp [packE, raw4_len]; omega
  omega
/-- What a base packs it unpacks. -/
theorem unE_back {p : PkgD} (h : rightP p = true) (hs : SumsP p) : unE (packE p) = ⟨p, true⟩ := by
  obtain ⟨_, l1, l2, l3, l4⟩ := packE_len h hs
  unfold rightP headP at h
  simp only [Bool.and_eq_true, decide_eq_true_eq] at h
  obtain ⟨⟨h1, h2, h3, h4, h5, h6⟩, h7, h8, h9, h0⟩ := h
  have n1 := nameL_12 h1
  have n2 := verR_30 h2
  have hf := filesTo_all h0
  rw [List.take_length] at hf
  have e1 : rEach oneNeedE (p.needs.flatMap needB, false) = (p.needs, ([], false)) := rEach_back oneNeedE_takes p.needs (fun x hx => by
    have hr := (List.all_eq_true.1 h7) x hx
    refine ⟨by rw [needB_len]; omega, fun l => needE_back hr ?_ l⟩
    unfold needR at hr
    simp only [Bool.and_eq_true, Bool.or_eq_true, decide_eq_true_eq] at hr
    rcases hr.2 with e | e
    · rw [e.2]; simp
    · have := verR_30 e.2; omega)
  have e2 : rEach (oneText 60) (p.conf.flatMap raw4, false) = (p.conf, ([], false)) := rEach_back (oneText_takes 60) p.conf (fun x hx => by
    have hr := (List.all_eq_true.1 h8) x hx
    unfold confR at hr
    simp only [Bool.and_eq_true] at hr
    have i1 := nameL_12 hr.1
    exact ⟨by rw [raw4_len]; omega, fun l => rRaw_back (by omega) (by omega) l⟩)
  have e3 : rEach oneFileE (p.files.flatMap fileE, false) = (p.files, ([], false)) := rEach_back oneFileE_takes p.files (fun x hx => ⟨by rw [fileE_len (hs x hx)]; omega, fun l => fileE_back (hf x hx) (hs x hx) l⟩)
  have e4 : rEach (oneText 300) (p.units.flatMap raw4, false) = (p.units, ([], false)) := rEach_back (oneText_takes 300) p.units (fun x hx => by
    have hr := (List.all_eq_true.1 h9) x hx
    simp only [decide_eq_true_eq] at hr
    exact ⟨by rw [raw4_len]; omega, fun l => rRaw_back (by omega) (by omega) l⟩)
  have hp : packE p = raw4 p.name ++ (raw4 p.ver ++ (raw4 (p.needs.flatMap needB) ++ (raw4 (p.conf.flatMap raw4) ++ (raw4 (p.files.flatMap fileE) ++ (raw4 (p.units.flatMap raw4) ++ []))))) := by simp [packE]
  rw [hp]
  unfold unE
  simp only [rRaw_back (show p.name.length ≤ 60 by omega) (by omega), rRaw_back (show p.ver.length ≤ 60 by omega) (by omega), rList_back (show (p.needs.flatMap needB).length ≤ 16777216 by omega), rList_back (show (p.conf.flatMap raw4).length ≤ 16777216 by omega), rList_back (show (p.files.flatMap fileE).length ≤ 16777216 by omega), rList_back (show (p.units.flatMap raw4).length ≤ 16777216 by omega), e1, e2, e3, e4]
  rfl
theorem packE_inj {p q : PkgD} (hp : rightP p = true) (hq : rightP q = true) (sp : SumsP p) (sq : SumsP q) (h : packE p = packE q) : p = q := by
  have a := unE_back hp sp
  have b := unE_back hq sq
  rw [h, b] at a
  exact (congrArg RdPk.p a).symm
theorem packP_inj {p q : PkgD} (hp : rightP p = true) (hq : rightP q = true) (h : packP p = packP q) : p = q := by
  have a := unP_back hp
  have b := unP_back hq
  rw [h, b] at a
  exact (congrArg RdPk.p a).symm
/-! ### Bases: what there is at each name -/
abbrev BaseF := By → Option PkgD
def noneF : BaseF := fun _ => none
def withF (f : BaseF) (e : PkgD) : BaseF := fun x => if x = e.name then some e else f x
def lessF (f : BaseF) (n : By) : BaseF := fun x => if x = n then none else f x
/-- All that is there may be, and bears its name. -/
def GoodF (f : BaseF) : Prop := ∀ x e, f x = some e → e.name = x ∧ rightP e = true ∧ SumsP e
theorem GoodF.none : GoodF noneF := fun _ _ h => by cases h
theorem GoodF.with {f : BaseF} (h : GoodF f) {e : PkgD} (hr : rightP e = true) (hs : SumsP e) : GoodF (withF f e) := by
  intro x d hd
  unfold withF at hd
  split at hd
  · rename_i hx; cases hd; exact ⟨hx.symm, hr, hs⟩
  · exact h x d hd
theorem GoodF.less {f : BaseF} (h : GoodF f) (n : By) : GoodF (lessF f n) := by
  intro x d hd
  unfold lessF at hd
  split at hd
  · cases hd
  · exact h x d hd
/-- Its names, in order. -/
def NamesF (f : BaseF) (ss : List By) : Prop := ss.Pairwise (fun x y => x ≤ y) ∧ ss.Nodup ∧ ∀ x, x ∈ ss ↔ (f x).isSome = true
theorem NamesF.eq {f : BaseF} {ss tt : List By} (h : NamesF f ss) (k : NamesF f tt) : ss = tt := by
  have hp : ss.Perm tt := (List.perm_ext_iff_of_nodup h.2.1 k.2.1).2 fun x => by rw [h.2.2, k.2.2]
  exact hp.eq_of_pairwise (fun a b _ _ h1 h2 => List.le_antisymm h1 h2) h.1 k.1
def packsF (f : BaseF) (ss : List By) : List By := ss.map fun n => packE ((f n).getD pz)
theorem packs_inj {f g : BaseF} {ss tt : List By} (hf : GoodF f) (hg : GoodF g) (h : NamesF f ss) (k : NamesF g tt) (e : packsF f ss = packsF g tt) : f = g := by
  have hall : ∀ (ss tt : List By), (∀ x ∈ ss, (f x).isSome = true) → (∀ x ∈ tt, (g x).isSome = true) → packsF f ss = packsF g tt → ss = tt ∧ ∀ x ∈ ss, f x = g x := by
    intro ss
    induction ss with
    | nil => intro tt _ _ e; cases tt with
      | nil => simp
      | cons => simp [packsF] at e
    | cons a ss ih =>
      intro tt h1 h2 e
      cases tt with
      | nil => simp [packsF] at e
      | cons b tt =>
        simp only [packsF, List.map_cons, List.cons.injEq] at e
        obtain ⟨x, hx⟩ := Option.isSome_iff_exists.1 (h1 a (by simp))
        obtain ⟨y, hy⟩ := Option.isSome_iff_exists.1 (h2 b (by simp))
        have gx := hf a x hx
        have gy := hg b y hy
        have exy : x = y := by
          have := e.1
          rw [hx, hy] at this
          exact packE_inj gx.2.1 gy.2.1 gx.2.2 gy.2.2 this
        have eab : a = b := by rw [← gx.1, ← gy.1, exy]
        obtain ⟨i1, i2⟩ := ih tt (fun x hx => h1 x (by simp [hx])) (fun x hx => h2 x (by simp [hx])) e.2
        subst eab
        refine ⟨by rw [i1], fun z hz => ?_⟩
        rcases List.mem_cons.1 hz with rfl | hz
        · rw [hx, hy, exy]
        · exact i2 z hz
  obtain ⟨h1, h2⟩ := hall ss tt (fun x hx => (h.2.2 x).1 hx) (fun x hx => (k.2.2 x).1 hx) e
  funext x
  by_cases hx : x ∈ ss
  · exact h2 x hx
  · have hy : x ∉ tt := by rw [← h1]; exact hx
    have e1 : f x = none := by
      cases hfx : f x with
      | none => rfl
      | some d => exact absurd ((h.2.2 x).2 (by rw [hfx]; rfl)) hx
    have e2 : g x = none := by
      cases hgx : g x with
      | none => rfl
      | some d => exact absurd ((k.2.2 x).2 (by rw [hgx]; rfl)) hy
    rw [e1, e2]
theorem packs_iff {f g : BaseF} {ss tt : List By} (hf : GoodF f) (hg : GoodF g) (h : NamesF f ss) (k : NamesF g tt) : packsF f ss = packsF g tt ↔ f = g :=
  ⟨packs_inj hf hg h k, fun e => by subst e; rw [h.eq k]⟩
theorem withF_self {f : BaseF} {n : By} {e : PkgD} (hf : GoodF f) (h : f n = some e) : withF f e = f := by
  funext x
  unfold withF
  split
  · rename_i hx; rw [hx, (hf n e h).1, h]
  · rfl
theorem lessF_with {f : BaseF} {n : By} {e : PkgD} (hf : GoodF f) (h : f n = some e) : withF (lessF f n) e = f := by
  funext x
  unfold withF lessF
  split
  · rename_i hx; rw [hx, (hf n e h).1, h]
  · rename_i hx; rw [(hf n e h).1] at hx; rw [if_neg hx]
theorem lessF_none {f : BaseF} {n : By} (h : f n = none) : lessF f n = f := by
  funext x
  unfold lessF
  split
  · rename_i hx; rw [hx, h]
  · rfl
theorem names_less {f : BaseF} {ss tt : List By} {n : By} (h : NamesF f ss) (k : NamesF (lessF f n) tt) (hn : (f n).isSome = true) : tt.length + 1 = ss.length := by
  have hp : (n :: tt).Perm ss := (List.perm_ext_iff_of_nodup (List.nodup_cons.2 ⟨fun hm => by
    have := (k.2.2 n).1 hm
    simp [lessF] at this, k.2.1⟩) h.2.1).2 fun x => by
      rw [List.mem_cons, k.2.2, h.2.2]
      unfold lessF
      by_cases hx : x = n
      · simp [hx, hn]
      · simp [hx]
  have := hp.length_eq
  simpa using this
end Go.Proofs.YtnclibfhbngkjaaGreatDoor
