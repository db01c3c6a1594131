/- slices.Clone at the lists that a package has. -/
import Derived.Test.YtnclibfhbngkjaaGreatDoorM1
import Derived.Test.YtnclibfhbngkjaaGreatDoorM2
import Derived.Test.YtnclibfhbngkjaaGreatDoorRowApp
import Derived.Shelf.SlicesE.Clone
namespace Go.Proofs.YtnclibfhbngkjaaGreatDoor
open Go.RowKit
theorem flat_at {α : Type} {F : α → List Value} {m : Nat} (hm : ∀ x, (F x).length = m) : ∀ (L : List α) (i r : Nat) (hi : i < L.length), r < m → (L.flatMap F)[i * m + r]? = (F L[i])[r]?
  | [], i, r, hi, _ => by simp at hi
  | x :: L, 0, r, _, hr => by
    rw [List.flatMap_cons, List.getElem?_append_left (by rw [hm]; omega)]
    simp
  | x :: L, i + 1, r, hi, hr => by
    have ih := flat_at hm L i r (by simpa using hi) hr
    rw [List.flatMap_cons, List.getElem?_append_right (by rw [hm, Nat.succ_mul]; omega), hm]
    have e : (i + 1) * m + r - m = i * m + r := by rw [Nat.succ_mul]; omega
    rw [e, ih]
    simp
theorem flat_lenm {α : Type} {F : α → List Value} {m : Nat} (hm : ∀ x, (F x).length = m) : ∀ (L : List α), (L.flatMap F).length = L.length * m
  | [] => by simp
  | x :: L => by rw [List.flatMap_cons, List.length_append, hm, flat_lenm hm L, List.length_cons, Nat.succ_mul]; omega
def needV3 (n : NeedD) : List Value := [.string (bs n.name), .int .i64 n.way, .string (bs n.ver)]
def fileV3 (f : FileD) : List Value := [.string (bs f.path), .bool f.config, .int .u32 (le32 f.data : Nat)]
def strV1 (s : By) : List Value := [.string (bs s)]
/-- Cells one behind the other. -/
def RunM (w : World) (a : Option Addr) (us : List Value) : Prop := us = [] ∨ ∃ g off, a = some ⟨g, off, none⟩ ∧ g < w.heap.size ∧ ∀ j u, us[j]? = some u → w.cell? ⟨g, off + j, none⟩ = some u
/-- A slice's block, if it has one, is none of those that were there. -/
def Fresh (base : Nat) (a : Option Addr) : Prop := ∀ ad, a = some ad → base ≤ ad.block
theorem run_of_row {w : World} {base E m n : Nat} {v : Value} {us : List Value} (h : w.ownsRow base E m v n us) : ∃ a c, v = .slice a n c ∧ n ≤ c ∧ RunM w a us ∧ Fresh base a := by
  have hl := h.1
  rcases h.2 with ⟨h1, h2⟩ | ⟨g, c, cur, h1, hbg, hg, hn, hm, hs, ht⟩
  · exact ⟨none, 0, by rw [h1, h2], by omega, Or.inl (List.eq_nil_of_length_eq_zero (by rw [hl, h2]; simp)), fun ad h => by cases h⟩
  · refine ⟨_, c, h1, hn, Or.inr ⟨g, 0, rfl, (Array.getElem?_eq_some_iff.1 hg).1, fun j u hj => ?_⟩, fun ad h => by cases h; exact hbg⟩
    rw [← ht, List.getElem?_take] at hj
    rw [Nat.zero_add]
    split at hj
    · exact blk_cell hg _ _ (by simpa using hj)
    · cases hj
theorem needs_run {w : World} {a : Option Addr} {L : List NeedD} : NeedsM w a L ↔ RunM w a (L.flatMap needV3) := by
  have h3 : ∀ x, (needV3 x).length = 3 := fun _ => rfl
  constructor
  · rintro (h | ⟨g, off, ha, hg, hc⟩)
    · left; rw [h]; rfl
    · refine Or.inr ⟨g, off, ha, hg, fun j u hj => ?_⟩
      have hjl := (List.getElem?_eq_some_iff.1 hj).1
      rw [flat_lenm h3] at hjl
      have hi : j / 3 < L.length := by omega
      have e := flat_at h3 L (j / 3) (j % 3) hi (by omega)
      have ej : j / 3 * 3 + j % 3 = j := by omega
      rw [ej, hj] at e
      obtain ⟨c0, c1, c2⟩ := hc (j / 3) hi
      have eL : L.getD (j / 3) nz = L[j / 3] := by simp [hi]
      rw [eL] at c0 c1 c2
      have hr : j % 3 = 0 ∨ j % 3 = 1 ∨ j % 3 = 2 := by omega
      rcases hr with hr | hr | hr
      · rw [hr] at e; have e : u = _ := Option.some.inj e
        rw [e, show off + j = off + j / 3 * 3 by omega]; exact c0
      · rw [hr] at e; have e : u = _ := Option.some.inj e
        rw [e, show off + j = off + j / 3 * 3 + 1 by omega]; exact c1
      · rw [hr] at e; have e : u = _ := Option.some.inj e
        rw [e, show off + j = off + j / 3 * 3 + 2 by omega]; exact c2
  · rintro (h | ⟨g, off, ha, hg, hc⟩)
    · left
      have := flat_lenm h3 L
      rw [h] at this
      exact List.eq_nil_of_length_eq_zero (by simp at this; omega)
    · refine Or.inr ⟨g, off, ha, hg, fun i hi => ?_⟩
      have eL : L.getD i nz = L[i] := by simp [hi]
      rw [eL]
      refine ⟨?_, ?_, ?_⟩
      · exact hc (i * 3) _ (flat_at h3 L i 0 hi (by omega))
      · exact hc (i * 3 + 1) _ (flat_at h3 L i 1 hi (by omega))
      · exact hc (i * 3 + 2) _ (flat_at h3 L i 2 hi (by omega))
theorem filesE_run {w : World} {a : Option Addr} {L : List FileD} : FilesE w a L ↔ RunM w a (L.flatMap fileV3) := by
  have h3 : ∀ x, (fileV3 x).length = 3 := fun _ => rfl
  constructor
  · rintro (h | ⟨g, off, ha, hg, hc⟩)
    · left; rw [h]; rfl
    · refine Or.inr ⟨g, off, ha, hg, fun j u hj => ?_⟩
      have hjl := (List.getElem?_eq_some_iff.1 hj).1
      rw [flat_lenm h3] at hjl
      have hi : j / 3 < L.length := by omega
      have e := flat_at h3 L (j / 3) (j % 3) hi (by omega)
      have ej : j / 3 * 3 + j % 3 = j := by omega
      rw [ej, hj] at e
      obtain ⟨c0, c1, c2⟩ := hc (j / 3) hi
      have eL : L.getD (j / 3) fz = L[j / 3] := by simp [hi]
      rw [eL] at c0 c1 c2
      have hr : j % 3 = 0 ∨ j % 3 = 1 ∨ j % 3 = 2 := by omega
      rcases hr with hr | hr | hr
      · rw [hr] at e; have e : u = _ := Option.some.inj e
        rw [e, show off + j = off + j / 3 * 3 by omega]; exact c0
      · rw [hr] at e; have e : u = _ := Option.some.inj e
        rw [e, show off + j = off + j / 3 * 3 + 1 by omega]; exact c1
      · rw [hr] at e; have e : u = _ := Option.some.inj e
        rw [e, show off + j = off + j / 3 * 3 + 2 by omega]; exact c2
  · rintro (h | ⟨g, off, ha, hg, hc⟩)
    · left
      have := flat_lenm h3 L
      rw [h] at this
      exact List.eq_nil_of_length_eq_zero (by simp at this; omega)
    · refine Or.inr ⟨g, off, ha, hg, fun i hi => ?_⟩
      have eL : L.getD i fz = L[i] := by simp [hi]
      rw [eL]
      refine ⟨?_, ?_, ?_⟩
      · exact hc (i * 3) _ (flat_at h3 L i 0 hi (by omega))
      · exact hc (i * 3 + 1) _ (flat_at h3 L i 1 hi (by omega))
      · exact hc (i * 3 + 2) _ (flat_at h3 L i 2 hi (by omega))
theorem strs_run {w : World} {a : Option Addr} {L : List By} : Strs w a L ↔ RunM w a (textV L) := by
  constructor
  · rintro (h | ⟨g, off, ha, hg, hc⟩)
    · left; rw [h]; rfl
    · refine Or.inr ⟨g, off, ha, hg, fun j u hj => ?_⟩
      have hjl := (List.getElem?_eq_some_iff.1 hj).1
      rw [textV_len] at hjl
      rw [textV_at hjl] at hj
      rw [hc j hjl]; exact hj
  · rintro (h | ⟨g, off, ha, hg, hc⟩)
    · left
      have := textV_len L
      rw [h] at this
      exact List.eq_nil_of_length_eq_zero (by simp at this; omega)
    · exact Or.inr ⟨g, off, ha, hg, fun i hi => hc i _ (textV_at hi)⟩
theorem info_entneed : (Tryz.prog.info? 68).map (fun i => (i.zero, i.size, i.bytes)) = some (some (.agg #[.string ⟨#[]⟩, .int .i64 0, .string ⟨#[]⟩]), 3, 40) := by kernel_rfl
theorem info_entfile : (Tryz.prog.info? 71).map (fun i => (i.zero, i.size, i.bytes)) = some (some (.agg #[.string ⟨#[]⟩, .bool false, .int .u32 0]), 3, 24) := by kernel_rfl
/-- What a clone is. -/
def CloneR (n : Nat) (us : List Value) (w : World) (e : Ending) (w' : World) : Prop := ∃ a c, e = .returned (.slice a n c) ∧ n ≤ c ∧ RunM w' a us ∧ Fresh w.heap.size a ∧ Ext w w'
theorem RunM.ext {w w' : World} {a : Option Addr} {us : List Value} (h : RunM w a us) (k : Ext w w') : RunM w' a us := by
  rcases h with h | ⟨g, off, ha, hg, hc⟩
  · exact Or.inl h
  · exact Or.inr ⟨g, off, ha, Nat.lt_of_lt_of_le hg k.size, fun j u hj => k.cell (hc j u hj)⟩
theorem RunM.plain {w : World} {ad : Addr} {us : List Value} (h : RunM w (some ad) us) : ∀ j u, us[j]? = some u → w.cell? (ad.add j) = some u := by
  intro j u hj
  rcases h with h | ⟨g, off, ha, _, hc⟩
  · rw [h] at hj; simp at hj
  · have ha := Option.some.inj ha
    subst ha
    have e : (⟨g, off, none⟩ : Addr).add j = ⟨g, off + j, none⟩ := by
      unfold Addr.add; split
      · rename_i h0; subst h0; rfl
      · rfl
    rw [e]; exact hc j u hj
set_option maxRecDepth 100000 in
set_option maxHeartbeats 1600000 in
theorem clone_n (a : Option Addr) (n c : Nat) (us : List Value) (w : World) (hn : us.length = n * 3) (h : RunM w a us) (h1 : ∀ u ∈ us, u.oneCell' = true) (hl : n ≤ 100000) :
    Calls Tryz.prog 40 #[.slice a n c] w (CloneR n us w) := by
  obtain ⟨R, hR⟩ : ∃ R, R = CloneR n us w := ⟨_, rfl⟩
  rw [← hR]
  have HR := Lib.hid hR; clear hR
  have q24 : ∀ (w : World) (a : Option Addr) (n c n' c' : Nat), (binOp .eql 27 (.slice a n c) (.slice none n' c')).run Tryz.prog w = .ok (.bool a.isNone) w := fun w a n c n' c' => Lib.run_eql_slice_nil w _ _ a n c n' c' Tryz.underlying27
  have HH := Lib.hid h; clear h
  have HN := Lib.hid hn; clear hn
  cases a with
  | none =>
    go_enter Tryz.func40, Tryz.ntmps40
    go_wp2
    rw [HR.out]
    have hn0 : us = [] := by
      rcases HH.out with h | ⟨_, _, ha, _⟩
      · exact h
      · cases ha
    have hz : n = 0 := by have := HN.out; rw [hn0] at this; simp at this; omega
    subst hz
    exact ⟨none, 0, rfl, Nat.le_refl _, Or.inl hn0, fun ad h => (by cases h), Ext.refl _⟩
  | some ad =>
    obtain ⟨i0, hi, hz, hsz, hby⟩ := info_parts info_entneed
    have HI := Lib.hid hi; clear hi
    have HZ := Lib.hid hz; clear hz
    have HS := Lib.hid hsz; clear hsz
    have HB := Lib.hid hby; clear hby
    have hpl := (HH.out.ext (Ext.alloc w (.cells #[] 68))).plain
    have HP := Lib.hid hpl; clear hpl
    go_enter Tryz.func40, Tryz.ntmps40
    go_wp2_with (at_builtin; (refine wpList_append_own _ rfl _ _ 27 rfl w.heap.size 68 i0 (.agg #[.string ⟨#[]⟩, .int .i64 0, .string ⟨#[]⟩]) 3 40 Tryz.underlying27 HI.out HZ.out HS.out HB.out rfl (by decide) (.slice (some ⟨w.heap.size, 0, none⟩) 0 0) 0 [] rfl (World.ownsRow_made w #[] 0 (Nat.le_refl _) (Nat.zero_le _) rfl) ad n c us rfl HN.out HP.out h1 (by unfold maxLen; omega) (by omega) (by simp) ?_); intro v' w1 hown hgrow hnil)
    obtain ⟨a', c', rfl, hc', hrun, hfr⟩ := run_of_row hown
    have HX := Lib.hid (((Below.refl _ w).alloc (Nat.le_refl _) _).grown hgrow (by simp) (by intro k hk; simp [Value.ownBlock] at hk; omega))
    rw [HR.out]
    simp only [Nat.zero_add, List.nil_append] at hc' hrun
    refine ⟨a', c', ?_, hc', hrun, hfr, HX.out⟩
    simp only [Nat.zero_add]
    rfl
set_option maxRecDepth 100000 in
set_option maxHeartbeats 1600000 in
theorem clone_f (a : Option Addr) (n c : Nat) (us : List Value) (w : World) (hn : us.length = n * 3) (h : RunM w a us) (h1 : ∀ u ∈ us, u.oneCell' = true) (hl : n ≤ 100000) :
    Calls Tryz.prog 59 #[.slice a n c] w (CloneR n us w) := by
  obtain ⟨R, hR⟩ : ∃ R, R = CloneR n us w := ⟨_, rfl⟩
  rw [← hR]
  have HR := Lib.hid hR; clear hR
  have q24 : ∀ (w : World) (a : Option Addr) (n c n' c' : Nat), (binOp .eql 35 (.slice a n c) (.slice none n' c')).run Tryz.prog w = .ok (.bool a.isNone) w := fun w a n c n' c' => Lib.run_eql_slice_nil w _ _ a n c n' c' Tryz.underlying35
  have HH := Lib.hid h; clear h
  have HN := Lib.hid hn; clear hn
  cases a with
  | none =>
    go_enter Tryz.func59, Tryz.ntmps59
    go_wp2
    rw [HR.out]
    have hn0 : us = [] := by
      rcases HH.out with h | ⟨_, _, ha, _⟩
      · exact h
      · cases ha
    have hz : n = 0 := by have := HN.out; rw [hn0] at this; simp at this; omega
    subst hz
    exact ⟨none, 0, rfl, Nat.le_refl _, Or.inl hn0, fun ad h => (by cases h), Ext.refl _⟩
  | some ad =>
    obtain ⟨i0, hi, hz, hsz, hby⟩ := info_parts info_entfile
    have HI := Lib.hid hi; clear hi
    have HZ := Lib.hid hz; clear hz
    have HS := Lib.hid hsz; clear hsz
    have HB := Lib.hid hby; clear hby
    have hpl := (HH.out.ext (Ext.alloc w (.cells #[] 71))).plain
    have HP := Lib.hid hpl; clear hpl
    go_enter Tryz.func59, Tryz.ntmps59
    go_wp2_with (at_builtin; (refine wpList_append_own _ rfl _ _ 35 rfl w.heap.size 71 i0 (.agg #[.string ⟨#[]⟩, .bool false, .int .u32 0]) 3 24 Tryz.underlying35 HI.out HZ.out HS.out HB.out rfl (by decide) (.slice (some ⟨w.heap.size, 0, none⟩) 0 0) 0 [] rfl (World.ownsRow_made w #[] 0 (Nat.le_refl _) (Nat.zero_le _) rfl) ad n c us rfl HN.out HP.out h1 (by unfold maxLen; omega) (by omega) (by simp) ?_); intro v' w1 hown hgrow hnil)
    obtain ⟨a', c', rfl, hc', hrun, hfr⟩ := run_of_row hown
    have HX := Lib.hid (((Below.refl _ w).alloc (Nat.le_refl _) _).grown hgrow (by simp) (by intro k hk; simp [Value.ownBlock] at hk; omega))
    rw [HR.out]
    simp only [Nat.zero_add, List.nil_append] at hc' hrun
    refine ⟨a', c', ?_, hc', hrun, hfr, HX.out⟩
    simp only [Nat.zero_add]
    rfl
set_option maxRecDepth 100000 in
set_option maxHeartbeats 1600000 in
theorem clone_s (a : Option Addr) (n c : Nat) (us : List Value) (w : World) (hn : us.length = n * 1) (h : RunM w a us) (h1 : ∀ u ∈ us, u.oneCell' = true) (hl : n ≤ 100000) :
    Calls Tryz.prog 41 #[.slice a n c] w (CloneR n us w) := by
  obtain ⟨R, hR⟩ : ∃ R, R = CloneR n us w := ⟨_, rfl⟩
  rw [← hR]
  have HR := Lib.hid hR; clear hR
  have q24 : ∀ (w : World) (a : Option Addr) (n c n' c' : Nat), (binOp .eql 28 (.slice a n c) (.slice none n' c')).run Tryz.prog w = .ok (.bool a.isNone) w := fun w a n c n' c' => Lib.run_eql_slice_nil w _ _ a n c n' c' Tryz.underlying28
  have HH := Lib.hid h; clear h
  have HN := Lib.hid hn; clear hn
  cases a with
  | none =>
    go_enter Tryz.func41, Tryz.ntmps41
    go_wp2
    rw [HR.out]
    have hn0 : us = [] := by
      rcases HH.out with h | ⟨_, _, ha, _⟩
      · exact h
      · cases ha
    have hz : n = 0 := by have := HN.out; rw [hn0] at this; simp at this; omega
    subst hz
    exact ⟨none, 0, rfl, Nat.le_refl _, Or.inl hn0, fun ad h => (by cases h), Ext.refl _⟩
  | some ad =>
    obtain ⟨i0, hi, hz, hsz, hby⟩ := info_parts info_string
    have HI := Lib.hid hi; clear hi
    have HZ := Lib.hid hz; clear hz
    have HS := Lib.hid hsz; clear hsz
    have HB := Lib.hid hby; clear hby
    have hpl := (HH.out.ext (Ext.alloc w (.cells #[] 9))).plain
    have HP := Lib.hid hpl; clear hpl
    go_enter Tryz.func41, Tryz.ntmps41
    go_wp2_with (at_builtin; (refine wpList_append_own _ rfl _ _ 28 rfl w.heap.size 9 i0 (.string ⟨#[]⟩) 1 16 Tryz.underlying28 HI.out HZ.out HS.out HB.out rfl (by decide) (.slice (some ⟨w.heap.size, 0, none⟩) 0 0) 0 [] rfl (World.ownsRow_made w #[] 0 (Nat.le_refl _) (Nat.zero_le _) rfl) ad n c us rfl HN.out HP.out h1 (by unfold maxLen; omega) (by omega) (by simp) ?_); intro v' w1 hown hgrow hnil)
    obtain ⟨a', c', rfl, hc', hrun, hfr⟩ := run_of_row hown
    have HX := Lib.hid (((Below.refl _ w).alloc (Nat.le_refl _) _).grown hgrow (by simp) (by intro k hk; simp [Value.ownBlock] at hk; omega))
    rw [HR.out]
    simp only [Nat.zero_add, List.nil_append] at hc' hrun
    refine ⟨a', c', ?_, hc', hrun, hfr, HX.out⟩
    simp only [Nat.zero_add]
    rfl
end Go.Proofs.YtnclibfhbngkjaaGreatDoor
