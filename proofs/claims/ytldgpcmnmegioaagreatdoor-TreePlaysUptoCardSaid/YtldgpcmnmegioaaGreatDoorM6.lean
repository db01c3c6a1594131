/- Several texts of mine, one behind the other: Ref06Step, PlaysLaw, TreeAliveLaw, TreeLinksLaw. -/
import Derived.Test.YtldgpcmnmegioaaGreatDoorRef06StepA
import Derived.Test.YtldgpcmnmegioaaGreatDoorRef06StepB
import Derived.Test.YtldgpcmnmegioaaGreatDoorRef06StepC
import Derived.Test.YtldgpcmnmegioaaGreatDoorRef06StepD
import Derived.Test.YtldgpcmnmegioaaGreatDoorAgree06
import Derived.Test.YtldgpcmnmegioaaGreatDoorTreeLaws
namespace Go.Proofs.YtldgpcmnmegioaaGreatDoor
open Go.RowKit
theorem ref_step (m : RefD) (A : RefA) (kd : Int) (pt ds dt : By) (oa : Option Addr) (oc : Nat) (w : World) (hM : RefM w m A) (hB : Bytes w oa dt) (hdl : dt.length ≤ 100000000000) (hl : m.list.length ≤ 1000000000) (hf : m.files.length ≤ 1000000000) (hnx : -1000000000000 ≤ m.next ∧ m.next ≤ 1000000000000) (hp : pt.length ≤ 100000) (hs : ∀ e ∈ m.list, e.path.length ≤ 100000) :
    Calls Tryz.prog 9 #[refV m A, .int .i64 kd, .string (bs pt), .string (bs ds), .slice oa dt.length oc] w (RefE (stepM m ⟨kd, pt, ds, dt⟩).1 (stepM m ⟨kd, pt, ds, dt⟩).2 w) := by
  by_cases h1 : kd = 1
  · exact ref_stepB m A kd pt ds dt oa oc w hM hB hdl hl hf hnx hp hs h1
  · by_cases h3 : kd = 3
    · exact ref_stepC m A kd pt ds dt oa oc w hM hB hdl hl hf hnx hp hs h3
    · by_cases h4 : kd = 4 ∨ kd = 5 ∨ kd = 6
      · exact ref_stepD m A kd pt ds dt oa oc w hM hB hdl hl hf hnx hp hs h4
      · exact ref_stepA m A kd pt ds dt oa oc w hM hB hdl hl hf hnx hp hs (by omega)
end Go.Proofs.YtldgpcmnmegioaaGreatDoor
namespace Go.Proofs.YtldgpcmnmegioaaGreatDoor
open Go.RowKit
/-! ### Memory -/
theorem EntsR.keep_ne {w w' : World} {a : Option Addr} {L : List EntD} {b : Nat} (h : EntsR w a L) (k : Keep (· ≠ b) w w') (hs : ∀ o s, w.cell? ⟨b, o, none⟩ ≠ some (.string s)) : EntsR w' a L := by
  rcases h with h | ⟨g, off, ha, hg, hc⟩
  · exact Or.inl h
  · cases L with
    | nil => exact Or.inl rfl
    | cons e L =>
      have h0 := hc 0 (.string (bs e.path)) rfl
      have hne : g ≠ b := fun eg => by rw [eg] at h0; exact hs _ _ h0
      exact Or.inr ⟨g, off, ha, Nat.lt_of_lt_of_le hg k.size, fun j u hj => k.cell hne (hc j u hj)⟩
theorem FilsR.keep_ne {w w' : World} {a : Option Addr} {F : List (FilD × OpA)} {b : Nat} (h : FilsR w a F) (k : Keep (· ≠ b) w w') (hi : ∀ o i v1 v2 v3, w.cell? ⟨b, o, none⟩ = some (.int .i64 i) → w.cell? ⟨b, o + 1, none⟩ ≠ some (.slice v1 v2 v3)) (hD : Datas (· ≠ b) w) : FilsR w' a F := by
  refine ⟨?_, fun x hx => ⟨(h.dat x hx).1.keep k hD, (h.dat x hx).2⟩⟩
  rcases h.run with h1 | ⟨g, off, ha, hg, hc⟩
  · exact Or.inl h1
  · cases F with
    | nil => exact Or.inl rfl
    | cons e F =>
      have h0 := hc 0 (.int .i64 e.1.id) rfl
      have h1 := hc 1 (.slice e.2.oa e.1.data.length e.2.oc) rfl
      have hne : g ≠ b := fun eg => by rw [eg] at h0 h1; exact hi _ _ _ _ _ h0 h1
      exact Or.inr ⟨g, off, ha, Nat.lt_of_lt_of_le hg k.size, fun j u hj => k.cell hne (hc j u hj)⟩
theorem RefM.keep_ne {w w' : World} {m : RefD} {A : RefA} {b : Nat} (h : RefM w m A) (k : Keep (· ≠ b) w w') (hs : ∀ o s, w.cell? ⟨b, o, none⟩ ≠ some (.string s))
    (hi : ∀ o i v1 v2 v3, w.cell? ⟨b, o, none⟩ = some (.int .i64 i) → w.cell? ⟨b, o + 1, none⟩ ≠ some (.slice v1 v2 v3)) (hD : Datas (· ≠ b) w) : RefM w' m A :=
  ⟨h.ents.keep_ne k hs, h.elen, h.fils.keep_ne k hi hD, h.flen, h.fmap⟩
theorem cell_blk {w : World} {b o : Nat} {cs : Array Value} {t : TypeId} (hb : w.heap[b]? = some (.cells cs t (0, 0))) : w.cell? ⟨b, o, none⟩ = cs[o]? := by simp [World.cell?, hb]
/-- A tree's own block is turned. -/
theorem RefM.keep_tree {w w' : World} {m : RefD} {A : RefA} {b : Nat} {x : Option Nat} {i j : Int} (h : RefM w m A) (k : Keep (· ≠ b) w w') (hb : w.heap[b]? = some (.cells #[.map x, .int .i64 i, .int .i64 j] 74 (0, 0))) : RefM w' m A := by
  refine h.keep_ne k (fun o s => ?_) (fun o z v1 v2 v3 h0 => ?_) (datas_cells hb (by decide))
  · rw [cell_blk hb]
    match o with
    | 0 => simp
    | 1 => simp
    | 2 => simp
    | o + 3 => simp
  · rw [cell_blk hb] at h0 ⊢
    match o with
    | 0 => simp at h0
    | 1 => simp
    | 2 => simp
    | o + 3 => simp at h0
/-- A variable that holds the document's tree is turned. -/
theorem RefM.keep_var {w w' : World} {m : RefD} {A : RefA} {b : Nat} {a1 a2 : Option Addr} {n1 c1 n2 c2 : Nat} {i j : Int} (h : RefM w m A) (k : Keep (· ≠ b) w w') (hb : w.heap[b]? = some (.cells #[.slice a1 n1 c1, .slice a2 n2 c2, .int .i64 i, .int .i64 j] 30 (0, 0))) : RefM w' m A := by
  refine h.keep_ne k (fun o s => ?_) (fun o z v1 v2 v3 h0 => ?_) (datas_cells hb (by decide))
  · rw [cell_blk hb]
    match o with
    | 0 => simp
    | 1 => simp
    | 2 => simp
    | 3 => simp
    | o + 4 => simp
  · rw [cell_blk hb] at h0 ⊢
    match o with
    | 0 => simp at h0
    | 1 => simp at h0
    | 2 => simp
    | 3 => simp
    | o + 4 => simp at h0
/-- A map is turned. -/
theorem RefM.keep_map {w w' : World} {m : RefD} {A : RefA} {b : Nat} {es : Array MapEntry} {cl : Nat} (h : RefM w m A) (k : Keep (· ≠ b) w w') (hb : w.heap[b]? = some (.map es cl)) : RefM w' m A := by
  have hno : ∀ o v, w.cell? ⟨b, o, none⟩ ≠ some v := fun o v hc => by
    obtain ⟨cs, t, fr, hg⟩ := blk_of_cell hc
    rw [hb] at hg; cases hg
  exact h.keep_ne k (fun o s => hno o _) (fun o z v1 v2 v3 h0 => absurd h0 (hno o _)) (datas_map hb)
theorem TreeAt.keep_var {w w' : World} {base tb N : Nat} {T : TreeD} {b : Nat} {cur : Array Value} (h : TreeAt w base tb N T) (hb : w.heap[b]? = some (.cells cur 30 (0, 0))) (k : Keep (· ≠ b) w w') : TreeAt w' base tb N T := by
  obtain ⟨h1, h2, mb, A, h3⟩ := h
  have hne : ∀ {cs : Array Value} {t : TypeId} {g : Nat}, w.heap[g]? = some (.cells cs t (0, 0)) → t ≠ 30 → g ≠ b := fun hg ht e => by
    rw [e, hb] at hg
    injection (Option.some.inj hg) with _ h5
    exact ht h5.symm
  exact ⟨h1, h2, mb, A, h3.keep k (datas_cells hb (by decide)) (hne h3.top (by decide)) (h3.map_ne hb) fun i hi => ⟨hne (h3.node i hi).1 (by decide), fun b' hb' => h3.kid_ne hi hb' hb⟩⟩
theorem TreeAt.mono {w : World} {base tb N M : Nat} {T : TreeD} (h : TreeAt w base tb N T) (k : N ≤ M) : TreeAt w base tb M T := by
  obtain ⟨h1, h2, mb, A, h3⟩ := h
  exact ⟨h1, h2.mono k, mb, A, h3.mono k⟩
theorem TreeAt.top {w : World} {base tb N : Nat} {T : TreeD} (h : TreeAt w base tb N T) : ∃ mb, w.heap[tb]? = some (.cells #[.map (some mb), .int .i64 T.next, .int .i64 T.quota] 74 (0, 0)) := by
  obtain ⟨_, _, mb, A, h3⟩ := h
  exact ⟨mb, h3.top⟩
/-! ### Loose files -/
def reapsM (m : RefD) (X : List Int) : RefD := X.foldl reapM m
theorem reapsM_take (m : RefD) {X : List Int} {k : Nat} (hk : k < X.length) : reapsM m (X.take (k + 1)) = reapM (reapsM m (X.take k)) (X.getD k 0) := by
  unfold reapsM
  rw [List.take_succ_eq_append_getElem hk, List.foldl_append]
  simp [List.getD_eq_getElem?_getD, List.getElem?_eq_getElem hk]
theorem Like.reap' {T : TreeD} {m : RefD} (h : Like T m) (i : Int) : Like (reapT T i) (reapM m i) := by
  have e : reapT T i = if i ∈ T.ids ∧ (T.node i).links = 0 then delT T i else T := by
    unfold reapT
    by_cases hc : i ∈ T.ids ∧ (T.node i).links = 0
    · simp only [if_pos hc]
    · simp only [if_neg hc]
  rw [e]
  exact h.reap i
theorem Like.reaps : ∀ (X : List Int) {T : TreeD} {m : RefD}, Like T m → Like (reapsT T X) (reapsM m X)
  | [], _, _, h => h
  | i :: X, _, _, h => Like.reaps X (h.reap' i)
theorem reapT_fit {T : TreeD} {K : Nat} (h : FitT T K) (i : Int) : FitT (reapT T i) K := by
  unfold reapT; split
  · exact h.del i
  · exact h
theorem reapsT_fit : ∀ (X : List Int) {T : TreeD} {K : Nat}, FitT T K → FitT (reapsT T X) K
  | [], _, _, h => h
  | i :: X, _, _, h => reapsT_fit X (reapT_fit h i)
theorem reapT_count (T : TreeD) (i : Int) : (reapT T i).ids.length ≤ T.ids.length := by
  unfold reapT; split
  · exact List.length_filter_le _ _
  · exact Nat.le_refl _
theorem reapsT_count : ∀ (X : List Int) (T : TreeD), (reapsT T X).ids.length ≤ T.ids.length
  | [], _ => Nat.le_refl _
  | i :: X, T => Nat.le_trans (reapsT_count X (reapT T i)) (reapT_count T i)
theorem reapM_list (m : RefD) (i : Int) : (reapM m i).list = m.list := by unfold reapM; split <;> rfl
theorem reapM_files (m : RefD) (i : Int) : (reapM m i).files.length ≤ m.files.length := by
  unfold reapM; split
  · exact Nat.le_refl _
  · exact List.length_filter_le _ _
theorem reapM_quota (m : RefD) (i : Int) : (reapM m i).quota = m.quota := by unfold reapM; split <;> rfl
theorem reapsM_facts : ∀ (X : List Int) (m : RefD), (reapsM m X).list = m.list ∧ (reapsM m X).files.length ≤ m.files.length ∧ (reapsM m X).quota = m.quota
  | [], _ => ⟨rfl, Nat.le_refl _, rfl⟩
  | i :: X, m => by
    obtain ⟨h1, h2, h3⟩ := reapsM_facts X (reapM m i)
    exact ⟨h1.trans (reapM_list m i), Nat.le_trans h2 (reapM_files m i), h3.trans (reapM_quota m i)⟩
theorem at_Reap {w : World} {base tb N : Nat} {T : TreeD} (X : List Int) (ra : Option Addr) (rc : Nat) (h : TreeAt w base tb N T) (hg : GoodT (reapsT T X)) (hX : RunM w ra (intV X)) (hr : ∀ x ∈ X, -9223372036854775808 ≤ x ∧ x ≤ 9223372036854775807) (hl : X.length ≤ 1099511627776) :
    Calls Tryz.prog 15 #[.pointer (some ⟨tb, 0, none⟩), .slice ra X.length rc] w fun e w' => e = .returned (.tuple #[]) ∧ TreeAt w' base tb N (reapsT T X) ∧ ∃ mb es cl, w.heap[mb]? = some (.map es cl) ∧ base ≤ mb ∧ Keep (· ≠ mb) w w' := by
  obtain ⟨h1, h2, mb, A, h3⟩ := h
  refine (tree_Reap X ra rc w h3 hX hr hl).mono ?_
  rintro e w' ⟨he, hm, hk⟩
  obtain ⟨es, cl, hmb⟩ := h3.map.block
  exact ⟨he, ⟨hg, reapsT_fit X h2, mb, A, hm⟩, mb, es, cl, hmb, h3.low.2.1, hk⟩
/-! ### Operations one by one -/
theorem runM_take (m : RefD) : ∀ (L : List OpD) (o : OpD), runM m (L ++ [o]) = if (runM m L).2 = 0 then stepM (runM m L).1 o else runM m L := by
  intro L
  induction L generalizing m with
  | nil =>
    intro o
    show runM m [o] = if (0 : Int) = 0 then stepM m o else _
    rw [if_pos rfl]
    unfold runM
    split
    · rename_i h; unfold runM; rw [← h]
    · rfl
  | cons x L ih =>
    intro o
    have e1 : runM m (x :: L ++ [o]) = if (stepM m x).2 = 0 then runM (stepM m x).1 (L ++ [o]) else stepM m x := rfl
    have e2 : runM m (x :: L) = if (stepM m x).2 = 0 then runM (stepM m x).1 L else stepM m x := rfl
    rw [e1, e2]
    split
    · exact ih _ o
    · rename_i h; first | rfl | rw [if_neg h]
theorem stepM_facts (m : RefD) (o : OpD) : (stepM m o).1.list.length ≤ m.list.length + 1 ∧ (stepM m o).1.quota = m.quota := by
  have same : ∀ code, stepM m o = (m, code) → (stepM m o).1.list.length ≤ m.list.length + 1 ∧ (stepM m o).1.quota = m.quota := fun code e => by rw [e]; exact ⟨Nat.le_succ _, rfl⟩
  have hle : ∀ p, (m.list.eraseP (isP p)).length ≤ m.list.length := fun p => List.eraseP_sublist.length_le
  have hle2 : ∀ p r, ((m.list.eraseP (isP p)).eraseP (isP r)).length ≤ m.list.length := fun p r => Nat.le_trans List.eraseP_sublist.length_le (hle p)
  by_cases c1 : o.kind < 0 ∨ 6 < o.kind
  · exact same 1 (by unfold stepM; rw [if_pos c1])
  by_cases c2 : placeM m o.path ≠ 0
  · exact same _ (by unfold stepM; rw [if_neg c1, if_pos c2])
  by_cases c3 : 3500 < o.data.length
  · exact same _ (by unfold stepM; rw [if_neg c1, if_neg c2, if_pos c3])
  by_cases c4 : o.kind = 0 ∨ o.kind = 2
  · cases he : entM m o.path with
    | some e => exact same 9 (by unfold stepM; rw [if_neg c1, if_neg c2, if_neg c3, if_pos c4, he])
    | none =>
      have e : stepM m o = (⟨m.list ++ [⟨o.path, m.next, decide (o.kind = 0)⟩], if o.kind = 2 then m.files ++ [⟨m.next, o.data⟩] else m.files, m.next + 1, m.quota⟩, 0) := by
        unfold stepM; rw [if_neg c1, if_neg c2, if_neg c3, if_pos c4, he]
      rw [e]
      exact ⟨by simp, rfl⟩
  cases he : entM m o.path with
  | none => exact same 8 (by unfold stepM; rw [if_neg c1, if_neg c2, if_neg c3, if_neg c4, he])
  | some x =>
    have e0 : stepM m o = (if o.kind = 1 then
      if x.dir = false then (m, 11)
      else if m.list.any (fun e => belowP o.path e.path) = true then (m, 12)
      else (lessM m o.path, 0)
    else if x.dir = true then (m, 10)
    else if o.kind = 3 then ({ m with files := m.files.map (wroteF x.id o.data) }, 0)
    else if o.kind = 6 then (lessM m o.path, 0)
    else if placeM m o.dest ≠ 0 then (m, placeM m o.dest)
    else match entM m o.dest with
      | some j =>
        if o.kind = 4 then (m, 9)
        else if j.dir = true then (m, 10)
        else if j.id = x.id then (m, 0)
        else (moreM (lessM (lessM m o.dest) o.path) ⟨o.dest, x.id, false⟩, 0)
      | none =>
        if o.kind = 4 then (moreM m ⟨o.dest, x.id, false⟩, 0)
        else (moreM (lessM m o.path) ⟨o.dest, x.id, false⟩, 0)) := by
      unfold stepM; rw [if_neg c1, if_neg c2, if_neg c3, if_neg c4, he]; rfl
    rw [e0]
    clear e0 same
    have l1 : ∀ p, (lessM m p).list.length ≤ m.list.length + 1 ∧ (lessM m p).quota = m.quota := fun p => ⟨Nat.le_succ_of_le (hle p), rfl⟩
    have h0 : m.list.length ≤ m.list.length + 1 ∧ m.quota = m.quota := ⟨Nat.le_succ _, rfl⟩
    by_cases k1 : o.kind = 1
    · rw [if_pos k1]
      by_cases k2 : x.dir = false
      · rw [if_pos k2]; exact h0
      · rw [if_neg k2]
        by_cases k3 : m.list.any (fun e => belowP o.path e.path) = true
        · rw [if_pos k3]; exact h0
        · rw [if_neg k3]; exact l1 _
    rw [if_neg k1]
    by_cases k2 : x.dir = true
    · rw [if_pos k2]; exact h0
    rw [if_neg k2]
    by_cases k3 : o.kind = 3
    · rw [if_pos k3]; exact h0
    rw [if_neg k3]
    by_cases k6 : o.kind = 6
    · rw [if_pos k6]; exact l1 _
    rw [if_neg k6]
    by_cases k7 : placeM m o.dest ≠ 0
    · rw [if_pos k7]; exact h0
    rw [if_neg k7]
    cases entM m o.dest with
    | some j =>
      show (if o.kind = 4 then (m, (9 : Int)) else _).1.list.length ≤ _ ∧ (if o.kind = 4 then (m, (9 : Int)) else _).1.quota = _
      by_cases k4 : o.kind = 4
      · rw [if_pos k4]; exact h0
      rw [if_neg k4]
      by_cases k8 : j.dir = true
      · rw [if_pos k8]; exact h0
      rw [if_neg k8]
      by_cases k9 : j.id = x.id
      · rw [if_pos k9]; exact h0
      rw [if_neg k9]
      refine ⟨?_, rfl⟩
      show ((m.list.eraseP (isP o.dest)).eraseP (isP o.path) ++ [_]).length ≤ _
      rw [List.length_append]
      exact Nat.succ_le_succ (hle2 _ _)
    | none =>
      show (if o.kind = 4 then (moreM m ⟨o.dest, x.id, false⟩, (0 : Int)) else _).1.list.length ≤ _ ∧ (if o.kind = 4 then (moreM m ⟨o.dest, x.id, false⟩, (0 : Int)) else _).1.quota = _
      by_cases k4 : o.kind = 4
      · rw [if_pos k4]
        refine ⟨?_, rfl⟩
        show (m.list ++ [_]).length ≤ _
        rw [List.length_append]
        exact Nat.le_refl _
      rw [if_neg k4]
      refine ⟨?_, rfl⟩
      show (m.list.eraseP (isP o.path) ++ [_]).length ≤ _
      rw [List.length_append]
      exact Nat.succ_le_succ (hle _)
theorem stepM_len (m : RefD) (o : OpD) : (stepM m o).1.list.length ≤ m.list.length + 1 := (stepM_facts m o).1
theorem runM_len : ∀ (L : List OpD) (m : RefD), (runM m L).1.list.length ≤ m.list.length + L.length
  | [], m => Nat.le_refl _
  | o :: L, m => by
    unfold runM
    have h1 := stepM_len m o
    split
    · have := runM_len L (stepM m o).1
      rw [List.length_cons]; omega
    · rw [List.length_cons]; omega
theorem doM_len (m : RefD) (L : List OpD) : (doM m L).1.list.length ≤ m.list.length + L.length := by
  unfold doM
  repeat' split
  · show m.list.length ≤ _; omega
  · show m.list.length ≤ _; omega
  · show m.list.length ≤ _; omega
  · exact runM_len L m
theorem stepM_quota (m : RefD) (o : OpD) : (stepM m o).1.quota = m.quota := (stepM_facts m o).2
theorem runM_quota : ∀ (L : List OpD) (m : RefD), (runM m L).1.quota = m.quota
  | [], m => rfl
  | o :: L, m => by
    unfold runM
    split
    · rw [runM_quota L, stepM_quota]
    · exact stepM_quota m o
theorem doM_quota (m : RefD) (L : List OpD) : (doM m L).1.quota = m.quota := by
  unfold doM
  repeat' split
  all_goals first | rfl | exact runM_quota L m
theorem Like.files_le {T : TreeD} {m : RefD} (h : Like T m) : m.files.length ≤ T.ids.length := by
  rw [h.nodes]; unfold nodesM; omega
end Go.Proofs.YtldgpcmnmegioaaGreatDoor
namespace Go.Proofs.YtldgpcmnmegioaaGreatDoor
def aOps1 : List OpD := [⟨0, [47, 97], [], []⟩, ⟨2, [47, 97, 47, 102], [], [111, 110, 101]⟩, ⟨4, [47, 97, 47, 102], [47, 103], []⟩]
def aOps2 : List OpD := [⟨2, [47, 104], [], [116, 119, 111]⟩, ⟨5, [47, 104], [47, 97, 47, 102], []⟩]
def aOps3 : List OpD := [⟨6, [47, 103], [], []⟩]
noncomputable def aT1 : TreeD := (doT (newT 10) aOps1).1
noncomputable def aT2 : TreeD := (doT aT1 aOps2).1
noncomputable def aT3 : TreeD := (doT aT2 aOps3).1
set_option maxRecDepth 100000 in
theorem alive_e1 : (doT (newT 10) aOps1).2 = 0 := by decide +kernel
set_option maxRecDepth 100000 in
theorem alive_e2 : (doT aT1 aOps2).2 = 0 := by decide +kernel
set_option maxRecDepth 100000 in
theorem alive_e3 : (doT aT2 aOps3).2 = 0 := by decide +kernel
set_option maxRecDepth 100000 in
theorem alive_r1 : findT aT2 [47, 97, 47, 102] = 4 ∧ (aT2.node 4).dir = false ∧ (aT2.node 4).data = [116, 119, 111] := by decide +kernel
set_option maxRecDepth 100000 in
theorem alive_r2 : findT aT2 [47, 103] = 3 ∧ (aT2.node 3).dir = false ∧ (aT2.node 3).data = [111, 110, 101] := by decide +kernel
set_option maxRecDepth 100000 in
theorem alive_r3 : aT3.ids = [1, 2, 3, 4] ∧ usedT aT3 = 6 ∧ (aT3.node 1).dir = true ∧ findT aT3 [47, 97] = 2 ∧ (aT3.node 2).dir = true ∧ looseT aT3 = [3] := by decide +kernel
set_option maxRecDepth 100000 in
theorem alive_k : (aT3.node 1).kids = lessK (lessK (withK (withK (withK noK [97] 2) [103] 3) [104] 4) [104]) [103] := by rfl
end Go.Proofs.YtldgpcmnmegioaaGreatDoor
namespace Go.Proofs.YtldgpcmnmegioaaGreatDoor
def pA : By := [47, 97]
def pB : By := [47, 98]
theorem upL_A : upL pA = some ([], [97]) := by decide +kernel
theorem upL_B : upL pB = some ([], [98]) := by decide +kernel
theorem pathL_A : pathL pA = some [[97]] := by decide +kernel
theorem pathL_B : pathL pB = some [[98]] := by decide +kernel
theorem placeA {T : TreeD} (h : (T.node 1).dir = true) : placeT T pA = .at 1 [97] := by
  unfold placeT; rw [upL_A]; simp [walkT, h]
theorem placeB {T : TreeD} (h : (T.node 1).dir = true) : placeT T pB = .at 1 [98] := by
  unfold placeT; rw [upL_B]; simp [walkT, h]
theorem findA {T : TreeD} (k : Int) (hk : kidT T 1 [97] = k) : findT T pA = k := by
  unfold findT; rw [pathL_A]
  show (if kidT T 1 [97] = 0 then 0 else kidT T 1 [97]) = k
  rw [hk]; split <;> simp_all
theorem findB {T : TreeD} (k : Int) (hk : kidT T 1 [98] = k) : findT T pB = k := by
  unfold findT; rw [pathL_B]
  show (if kidT T 1 [98] = 0 then 0 else kidT T 1 [98]) = k
  rw [hk]; split <;> simp_all
theorem findR {T : TreeD} : findT T [47] = 1 := by
  unfold findT; rw [pathL_root]; rfl
/-- The tree with one file: what its root has, its links, its bytes. -/
structure One (T : TreeD) (k : By → Option Int) (n : Int) (d : By) : Prop where
  ids : T.ids = [1, 2]
  root : T.node 1 = ⟨true, 1, [], k⟩
  file : T.node 2 = ⟨false, n, d, noK⟩
  quota : T.quota = 8000
def kA : By → Option Int := withK noK [97] 2
def kAB : By → Option Int := withK kA [98] 2
def kB : By → Option Int := lessK kAB [97]
def k0 : By → Option Int := lessK kB [98]
section
variable {T : TreeD} {k : By → Option Int} {n : Int} {d : By}
theorem One.used (h : One T k n d) : usedT T = d.length := by
  unfold usedT; rw [h.ids]; simp [h.root, h.file]
theorem One.kid (h : One T k n d) (x : By) : kidT T 1 x = (k x).getD 0 := by unfold kidT; rw [h.root]
theorem One.dir (h : One T k n d) : (T.node 1).dir = true := by rw [h.root]
theorem One.fdir (h : One T k n d) : (T.node 2).dir = false := by rw [h.file]
theorem kAB_a : (kAB [97]).getD 0 = 2 := by decide +kernel
theorem kAB_b : (kAB [98]).getD 0 = 2 := by decide +kernel
theorem kA_a : (kA [97]).getD 0 = 2 := by decide +kernel
theorem kA_b : (kA [98]).getD 0 = 0 := by decide +kernel
theorem kB_b : (kB [98]).getD 0 = 2 := by decide +kernel
/-- A step, alone. -/
theorem doT_one {o : OpD} {T' : TreeD} (h : stepT T o = (T', 0)) (h1 : T'.ids.length ≤ 128) (h2 : (usedT T' : Int) ≤ T.quota) : doT T [o] = (T', 0) := by
  have hr : runT T [o] = (T', 0) := by
    unfold runT
    rw [h]
    rfl
  unfold doT
  rw [hr]
  simp only
  rw [if_neg (by simp), if_neg (by omega), if_neg (by omega)]
theorem step_unlink {x : By} {o : OpD} (hk : o.kind = 6) (hl : o.data.length ≤ 3500) (hp : placeT T o.path = .at 1 x) (hx : kidT T 1 x = 2) (hf : (T.node 2).dir = false) : stepT T o = (linkT (cutT T 1 x) 2 (-1), 0) := by
  unfold stepT
  rw [hp]
  simp only [hk, hx, hf]
  rw [if_neg (by omega), if_neg (by omega), if_neg (by omega), if_neg (by omega), if_neg (by omega), if_neg (by simp)]
  unfold fileT
  rw [if_neg (by omega), if_pos hk]
theorem One.unlink (h : One T k n d) (x : By) : One (linkT (cutT T 1 x) 2 (-1)) (lessK k x) (n - 1) d := by
  refine ⟨h.ids, ?_, ?_, h.quota⟩
  · unfold linkT
    rw [setT_node, if_neg (by omega)]
    unfold cutT
    rw [setT_node, if_pos rfl, h.root]
  · unfold linkT
    rw [setT_node, if_pos rfl]
    unfold cutT
    rw [setT_node, if_neg (by omega), h.file]
    rfl
theorem one_unlink (h : One T k n d) (hd : d.length ≤ 3500) {x : By} {o : OpD} (hk : o.kind = 6) (hl : o.data.length ≤ 3500) (hp : placeT T o.path = .at 1 x) (hx : (k x).getD 0 = 2) :
    (doT T [o]).2 = 0 ∧ One (doT T [o]).1 (lessK k x) (n - 1) d := by
  have hs := step_unlink hk hl hp (by rw [h.kid]; exact hx) h.fdir
  have hn := h.unlink x
  rw [doT_one hs (by rw [hn.ids]; decide) (by rw [hn.used, h.quota]; omega)]
  exact ⟨rfl, hn⟩
theorem one_rename (h : One T kAB n d) (hd : d.length ≤ 3500) {o : OpD} (hk : o.kind = 5) (hl : o.data.length ≤ 3500) (hp : o.path = pA) (hq : o.dest = pB) : doT T [o] = (T, 0) := by
  have h2 : kidT T 1 [97] = 2 := by rw [h.kid]; exact kAB_a
  have h3 : kidT T 1 [98] = 2 := by rw [h.kid]; exact kAB_b
  have hs : stepT T o = (T, 0) := by
    unfold stepT
    rw [hp, placeA h.dir]
    simp only [hk, h2, h.fdir]
    rw [if_neg (by omega), if_neg (by omega), if_neg (by omega), if_neg (by omega), if_neg (by omega), if_neg (by simp)]
    unfold fileT
    rw [if_neg (by omega), if_neg (by omega), hq, placeB h.dir]
    simp only [h3, h.fdir]
    rw [if_neg (by omega), if_neg (by simp), if_pos trivial]
  exact doT_one hs (by rw [h.ids]; decide) (by rw [h.used, h.quota]; omega)
end
theorem one_made (a b : By) (ha : a.length ≤ 3500) (hb : b.length ≤ 3500) {o1 o2 o3 : OpD} (h1 : o1 = ⟨2, pA, [], a⟩) (h2 : o2 = ⟨4, pA, pB, []⟩) (h3 : o3 = ⟨3, pA, [], b⟩) :
    (doT (newT 8000) [o1, o2, o3]).2 = 0 ∧ One (doT (newT 8000) [o1, o2, o3]).1 kAB 2 b := by
  obtain ⟨T1, e1⟩ : ∃ T1, T1 = bindT (addT (newT 8000) (fileN a)) 1 [97] 2 := ⟨_, rfl⟩
  have hT1 : One T1 kA 1 a := by subst e1; exact ⟨rfl, rfl, rfl, rfl⟩
  have s1 : stepT (newT 8000) o1 = (T1, 0) := by
    unfold stepT
    rw [h1, placeA rfl]
    have hk : kidT (newT 8000) 1 [97] = 0 := rfl
    simp only [hk]
    rw [if_neg (by omega), if_neg (by omega), if_pos (Or.inr trivial), if_neg (by simp), if_neg (by omega), e1]
    rfl
  obtain ⟨T2, e2⟩ : ∃ T2, T2 = bindT (linkT T1 2 1) 1 [98] 2 := ⟨_, rfl⟩
  have hT2 : One T2 kAB 2 a := by
    subst e2
    refine ⟨hT1.ids, ?_, ?_, hT1.quota⟩
    · unfold bindT
      rw [setT_node, if_pos rfl]
      unfold linkT
      rw [setT_node, if_neg (by omega), hT1.root]
      rfl
    · unfold bindT
      rw [setT_node, if_neg (by omega)]
      unfold linkT
      rw [setT_node, if_pos rfl, hT1.file]
      rfl
  have s2 : stepT T1 o2 = (T2, 0) := by
    have k2 : kidT T1 1 [97] = 2 := by rw [hT1.kid]; exact kA_a
    have k3 : kidT T1 1 [98] = 0 := by rw [hT1.kid]; exact kA_b
    unfold stepT
    rw [h2, placeA hT1.dir]
    simp only [k2, hT1.fdir]
    rw [if_neg (by omega), if_neg (by simp), if_neg (by omega), if_neg (by omega), if_neg (by omega), if_neg (by simp)]
    unfold fileT
    simp only
    rw [if_neg (by omega), if_neg (by omega), placeB hT1.dir]
    simp only [k3]
    rw [if_neg (by simp), if_neg (by simp), if_neg (by omega), if_pos trivial, e2]
  obtain ⟨T3, e3⟩ : ∃ T3, T3 = setT T2 2 ⟨false, (T2.node 2).links, b, noK⟩ := ⟨_, rfl⟩
  have hT3 : One T3 kAB 2 b := by
    subst e3
    refine ⟨hT2.ids, ?_, ?_, hT2.quota⟩
    · rw [setT_node, if_neg (by omega), hT2.root]
    · rw [setT_node, if_pos rfl, hT2.file]
  have s3 : stepT T2 o3 = (T3, 0) := by
    have k2 : kidT T2 1 [97] = 2 := by rw [hT2.kid]; exact kAB_a
    unfold stepT
    rw [h3, placeA hT2.dir]
    simp only [k2, hT2.fdir]
    rw [if_neg (by omega), if_neg (by omega), if_neg (by omega), if_neg (by omega), if_neg (by omega), if_neg (by simp)]
    unfold fileT
    rw [if_pos rfl, e3]
  have hr : runT (newT 8000) [o1, o2, o3] = (T3, 0) := by
    unfold runT
    rw [s1]
    simp only [if_true]
    unfold runT
    rw [s2]
    simp only [if_true]
    unfold runT
    rw [s3]
    rfl
  have hd : doT (newT 8000) [o1, o2, o3] = (T3, 0) := by
    unfold doT
    rw [hr]
    simp only
    rw [if_neg (by simp), if_neg (by rw [hT3.ids]; decide), if_neg (by rw [hT3.used]; show ¬ (8000 : Int) < _; omega)]
  rw [hd]
  exact ⟨rfl, hT3⟩
theorem One.loose {T : TreeD} {k : By → Option Int} {n : Int} {d : By} (h : One T k n d) : looseT T = if n = 0 then [2] else [] := by
  unfold looseT
  rw [h.ids]
  by_cases hn : n = 0
  · subst hn; simp [h.root, h.file]
  · simp [h.root, h.file, hn]
end Go.Proofs.YtldgpcmnmegioaaGreatDoor
