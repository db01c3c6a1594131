/- A unit's text says it. No program in sight. -/
import Derived.Test.YtedfpoidggpkdaaDoorUnitLaws
namespace Go.Proofs.YtedfpoidggpkdaaDoor
theorem signs_no {c : UInt8} (hc : signB (c.toNat : Int) = false) {l : Bs} (h : signs l = true) : c ∉ l := by
  intro hm
  have := (List.all_eq_true.1 h) c hm
  rw [hc] at this
  cases this
theorem nameL_no {c : UInt8} (hc : signB (c.toNat : Int) = false) {l : Bs} (h : nameL l = true) : c ∉ l := by
  unfold nameL at h; simp only [Bool.and_eq_true] at h; exact signs_no hc h.2
theorem rightL_no {c : UInt8} (hc : signB (c.toNat : Int) = false) (h47 : c ≠ 47) {l : Bs} (h : rightL l = true) : c ∉ l := by
  unfold rightL at h
  split at h
  · rename_i L hL
    obtain ⟨_, hall, _, hh⟩ := pathL_facts hL
    rcases hh with ⟨h1, _⟩ | ⟨_, _, hg, _⟩
    · rw [h1]; simp [h47]
    · rw [← hg]
      intro hm
      simp only [glue, List.mem_flatten, List.mem_map] at hm
      obtain ⟨x, ⟨p, hp, rfl⟩, hx⟩ := hm
      rcases List.mem_cons.1 hx with e | e
      · exact h47 e
      · exact nameL_no hc ((List.all_eq_true.1 hall) p hp) e
  · cases h
theorem put_put (u : UnitD) (f : Nat) (x y : List Bs) (h1 : 1 ≤ f) (h6 : f ≤ 6) : (u.put f x).put f y = u.put f y := by
  have hf : f = 1 ∨ f = 2 ∨ f = 3 ∨ f = 4 ∨ f = 5 ∨ f = 6 := by omega
  rcases hf with rfl | rfl | rfl | rfl | rfl | rfl <;> rfl
theorem put_row (u : UnitD) (f : Nat) (h1 : 1 ≤ f) (h6 : f ≤ 6) : u.put f (u.row f) = u := by
  have hf : f = 1 ∨ f = 2 ∨ f = 3 ∨ f = 4 ∨ f = 5 ∨ f = 6 := by omega
  rcases hf with rfl | rfl | rfl | rfl | rfl | rfl <;> rfl
def lnT (p : Bs × Bs) : Bs := p.1 ++ 32 :: p.2
theorem split_lines : ∀ (P : List (Bs × Bs)), (∀ p ∈ P, 10 ∉ lnT p) → splitOn 10 (P.flatMap fun p => lineT p.1 p.2) = P.map lnT ++ [[]]
  | [], _ => rfl
  | p :: P, h => by
    have h1 := h p (by simp)
    have e : lineT p.1 p.2 = lnT p ++ [10] := by simp [lineT, lnT]
    rw [List.flatMap_cons, e, List.append_assoc, List.singleton_append, splitOn_append 10 _ _ h1, split_lines P (fun q hq => h q (by simp [hq]))]
    rfl
theorem lineU_word (u : UnitD) (f : Nat) (s : Bs) (h1 : 1 ≤ f) (h6 : f ≤ 6) (hs : if f = 1 then rightL s = true else nameL s = true) : lineU u (wordOf f) s = addU u f s := by
  have hf : f = 1 ∨ f = 2 ∨ f = 3 ∨ f = 4 ∨ f = 5 ∨ f = 6 := by omega
  unfold lineU
  rcases hf with rfl | rfl | rfl | rfl | rfl | rfl
  · rw [if_neg (by decide), if_pos (show wordOf 1 = wFile from rfl), if_neg (by simpa using hs)]
  all_goals
    rw [if_neg (by decide), if_neg (by decide), if_neg (by decide), if_neg (by decide), if_neg (by simpa using hs)]
    rfl
theorem idle_ln {w : Bs} {s : Bs} (hw : w ≠ []) (h : w.head? ≠ some 35) : idle (lnT (w, s)) = false := by
  cases w with
  | nil => exact absurd rfl hw
  | cons x w =>
    have hx : x ≠ 35 := by simpa using h
    simp [idle, lnT, hx]
theorem cutW_ln {w : Bs} {s : Bs} (hw : 32 ∉ w) : cutW (lnT (w, s)) = (w, s) := by
  unfold cutW lnT
  rw [cut_some s hw]
/-- The lines of a list. -/
theorem lines_row (f : Nat) (h1 : 1 ≤ f) (h6 : f ≤ 6) : ∀ (L : List Bs) (i : Nat) (u : UnitD), rowR f (u.row f ++ L) → linesU ((L.map fun s => (wordOf f, s)).map lnT) i u = .inl (u.put f (u.row f ++ L)) := by
  have hw : wordOf f ≠ [] ∧ (wordOf f).head? ≠ some 35 ∧ 32 ∉ wordOf f := by
    have hf : f = 1 ∨ f = 2 ∨ f = 3 ∨ f = 4 ∨ f = 5 ∨ f = 6 := by omega
    rcases hf with rfl | rfl | rfl | rfl | rfl | rfl <;> decide
  intro L
  induction L with
  | nil => intro i u _; simp only [List.map_nil, linesU, List.append_nil]; rw [put_row u f h1 h6]
  | cons s L ih =>
    intro i u hr
    obtain ⟨r1, r2, r3⟩ := hr
    simp only [List.map_cons, linesU]
    rw [idle_ln hw.1 hw.2.1, cutW_ln hw.2.2]
    have hs := r3 s (by simp)
    rw [lineU_word u f s h1 h6 hs]
    have hadd : addU u f s = (u.put f (u.row f ++ [s]), 0) := by
      unfold addU
      rw [if_neg, if_neg]
      · simp at r1; omega
      · intro hm
        rw [List.nodup_append] at r2
        exact r2.2.2 s hm s (by simp) rfl
    rw [hadd]
    simp only [if_true]
    have e : (u.put f (u.row f ++ [s])).row f = u.row f ++ [s] := by rw [row_put u f f _ h1 h6 h1 h6, if_pos rfl]
    have := ih (i + 1) (u.put f (u.row f ++ [s])) (by rw [e, List.append_assoc]; exact ⟨r1, r2, r3⟩)
    rw [e, put_put _ _ _ _ h1 h6, List.append_assoc] at this
    simpa using this
theorem itoa_dig (n : Int) (h0 : 0 ≤ n) (h3 : n ≤ 3) : digN (Lib.itoa n) = some n.toNat ∧ Lib.itoa n = [UInt8.ofNat (48 + n.toNat)] := by
  have hn : n = 0 ∨ n = 1 ∨ n = 2 ∨ n = 3 := by omega
  rcases hn with rfl | rfl | rfl | rfl <;> exact ⟨by decide +kernel, by decide +kernel⟩
/-- What a unit's text says, parsed, is it. -/
theorem parse_text (u : UnitD) (h : GoodU u) : parseU (textU u) = (u, 0, 0) := by
  obtain ⟨nm, fs, af, be, rq, wa, po, rt⟩ := u
  have hn := h.name
  have hf := h.files
  have hr := h.retry
  have r1 : rowR 1 fs := h.rows 1 (by omega) (by omega)
  have r2 : rowR 2 af := h.rows 2 (by omega) (by omega)
  have r3 : rowR 3 be := h.rows 3 (by omega) (by omega)
  have r4 : rowR 4 rq := h.rows 4 (by omega) (by omega)
  have r5 : rowR 5 wa := h.rows 5 (by omega) (by omega)
  have r6 : rowR 6 po := h.rows 6 (by omega) (by omega)
  simp only at hn hf hr
  obtain ⟨d1, d2⟩ := itoa_dig rt hr.1 hr.2
  have no10 : ∀ p ∈ linesT ⟨nm, fs, af, be, rq, wa, po, rt⟩, 10 ∉ lnT p := by
    intro p hp
    have key : ∀ (w s : Bs), 10 ∉ w → 10 ∉ s → 10 ∉ lnT (w, s) := by
      intro w s hw hs hm
      unfold lnT at hm
      rcases List.mem_append.1 hm with hm | hm
      · exact hw hm
      · rcases List.mem_cons.1 hm with hm | hm
        · cases hm
        · exact hs hm
    have nm10 : ∀ s : Bs, nameL s = true → 10 ∉ s := fun s hs => nameL_no (by decide) hs
    have row10 : ∀ (f : Nat) (w : Bs) (L : List Bs), f ≠ 1 → 10 ∉ w → rowR f L → ∀ q ∈ L.map (fun s => (w, s)), 10 ∉ lnT q := by
      intro f w L hf1 hw hL q hq
      simp only [List.mem_map] at hq
      obtain ⟨s, hs, rfl⟩ := hq
      have := hL.2.2 s hs
      rw [if_neg hf1] at this
      exact key _ _ hw (nm10 s this)
    simp only [linesT, List.mem_cons, List.mem_append, List.not_mem_nil, or_false] at hp
    rcases hp with rfl | hp | hp | hp | hp | hp | hp | rfl
    · exact key _ _ (by decide) (nm10 _ hn)
    · simp only [List.mem_map] at hp
      obtain ⟨s, hs, rfl⟩ := hp
      have := r1.2.2 s hs
      rw [if_pos rfl] at this
      exact key _ _ (by decide) (rightL_no (by decide) (by decide) this)
    · exact row10 2 _ _ (by decide) (by decide) r2 p hp
    · exact row10 3 _ _ (by decide) (by decide) r3 p hp
    · exact row10 4 _ _ (by decide) (by decide) r4 p hp
    · exact row10 5 _ _ (by decide) (by decide) r5 p hp
    · exact row10 6 _ _ (by decide) (by decide) r6 p hp
    · refine key _ _ (by decide) ?_
      rw [d2]
      have hn : rt = 0 ∨ rt = 1 ∨ rt = 2 ∨ rt = 3 := by omega
      rcases hn with rfl | rfl | rfl | rfl <;> decide
  unfold parseU textU
  rw [split_lines _ no10]
  have e1 : ∀ i, linesU ([lnT (wUnit, nm)]) i u0 = .inl { u0 with name := nm } := by
    intro i
    simp only [linesU]
    rw [idle_ln (by decide) (by decide), cutW_ln (by decide)]
    have : lineU u0 wUnit nm = ({ u0 with name := nm }, 0) := by
      unfold lineU
      rw [if_pos rfl, if_neg (by rw [hn]; decide), if_neg (by decide)]
    rw [this]
    rfl
  have e8 : ∀ i, linesU ([lnT (wRetry, Lib.itoa rt)] ++ [[]]) i ⟨nm, fs, af, be, rq, wa, po, -1⟩ = .inl ⟨nm, fs, af, be, rq, wa, po, rt⟩ := by
    intro i
    have : lineU ⟨nm, fs, af, be, rq, wa, po, -1⟩ wRetry (Lib.itoa rt) = (⟨nm, fs, af, be, rq, wa, po, rt⟩, 0) := by
      unfold lineU
      rw [if_neg (by decide), if_neg (by decide), if_pos rfl, d1]
      simp only
      rw [if_neg (by omega)]
      have : ((rt.toNat : Nat) : Int) = rt := by omega
      rw [this]
    simp only [List.singleton_append, linesU]
    rw [idle_ln (by decide) (by decide), cutW_ln (by decide), this]
    simp [idle_nil]
  have main : linesU ((linesT ⟨nm, fs, af, be, rq, wa, po, rt⟩).map lnT ++ [[]]) 0 u0 = .inl ⟨nm, fs, af, be, rq, wa, po, rt⟩ := by
    have el : (linesT ⟨nm, fs, af, be, rq, wa, po, rt⟩).map lnT ++ [[]] = [lnT (wUnit, nm)] ++ ((fs.map fun s => (wordOf 1, s)).map lnT ++ ((af.map fun s => (wordOf 2, s)).map lnT ++ ((be.map fun s => (wordOf 3, s)).map lnT ++ ((rq.map fun s => (wordOf 4, s)).map lnT ++ ((wa.map fun s => (wordOf 5, s)).map lnT ++ ((po.map fun s => (wordOf 6, s)).map lnT ++ ([lnT (wRetry, Lib.itoa rt)] ++ [[]]))))))) := by
      simp [linesT, wordOf]
    rw [el, lines_app, e1]
    simp only
    rw [lines_app, lines_row 1 (by omega) (by omega) fs _ _ (by simpa [UnitD.row, u0] using r1)]
    simp only
    rw [lines_app, lines_row 2 (by omega) (by omega) af _ _ (by simpa [UnitD.row, UnitD.put, u0] using r2)]
    simp only
    rw [lines_app, lines_row 3 (by omega) (by omega) be _ _ (by simpa [UnitD.row, UnitD.put, u0] using r3)]
    simp only
    rw [lines_app, lines_row 4 (by omega) (by omega) rq _ _ (by simpa [UnitD.row, UnitD.put, u0] using r4)]
    simp only
    rw [lines_app, lines_row 5 (by omega) (by omega) wa _ _ (by simpa [UnitD.row, UnitD.put, u0] using r5)]
    simp only
    rw [lines_app, lines_row 6 (by omega) (by omega) po _ _ (by simpa [UnitD.row, UnitD.put, u0] using r6)]
    simp only
    have := e8
    simpa [UnitD.row, UnitD.put, u0] using this _
  rw [main]
  unfold endU
  simp only
  have hnn : nm ≠ [] := by intro e; rw [e] at hn; exact absurd hn (by decide)
  rw [if_neg (by intro e; rcases e with e | e; exact hnn e; exact hf e), if_neg (by omega)]
end Go.Proofs.YtedfpoidggpkdaaDoor
