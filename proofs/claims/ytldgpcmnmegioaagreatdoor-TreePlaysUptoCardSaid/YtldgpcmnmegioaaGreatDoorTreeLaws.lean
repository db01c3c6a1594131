/- Trees, in plain Lean: what operations keep. -/
import Derived.Test.YtldgpcmnmegioaaGreatDoorTreeSpec
namespace Go.Proofs.YtldgpcmnmegioaaGreatDoor
section
variable {T : TreeD}
theorem cutT_dir (d : Int) (x : By) (j : Int) : ((cutT T d x).node j).dir = (T.node j).dir := by
  unfold cutT; rw [setT_node]; split
  · rename_i e; rw [e]
  · rfl
theorem linkT_dir (i k j : Int) : ((linkT T i k).node j).dir = (T.node j).dir := by
  unfold linkT; rw [setT_node]; split
  · rename_i e; rw [e]
  · rfl
theorem bindT_dir (d : Int) (x : By) (i j : Int) : ((bindT T d x i).node j).dir = (T.node j).dir := by
  unfold bindT; rw [setT_node]; split
  · rename_i e; rw [e]
  · rfl
theorem cutT_kid (h : GoodT T) {d i : Int} {x : By} (hdi : d ∈ T.ids) (hx : (T.node d).kids x = some i) (hid : (T.node i).dir = true) : ∀ j ∈ T.ids, ∀ y, ((cutT T d x).node j).kids y ≠ some i := by
  intro j hj y hy
  unfold cutT at hy
  rw [setT_node] at hy
  split at hy
  · rename_i e
    subst e
    simp only [lessK] at hy
    split at hy
    · cases hy
    · rename_i hne
      exact hne (h.sole j hj j hj y x i hy hx hid).2
  · rename_i hne
    exact hne (h.sole j hj d hdi y x i hy hx hid).1
theorem addT_fresh (h : GoodT T) (n : NodeD) (hk : n.kids = noK) : ∀ j ∈ (addT T n).ids, ∀ y, ((addT T n).node j).kids y ≠ some T.next := by
  intro j hj y hy
  rw [addT_node] at hy
  split at hy
  · rw [hk] at hy; cases hy
  · rename_i hne
    have hj' : j ∈ T.ids := by
      have hj : j ∈ T.ids ++ [T.next] := hj
      rcases List.mem_append.1 hj with h | h
      · exact h
      · exact absurd (List.mem_singleton.1 h) hne
    have := (h.low _ (h.kid j hj' y _ hy).1).2
    omega
theorem makeT_good (h : GoodT T) {d : Int} {x : By} (hd : d ∈ T.ids) (hdd : (T.node d).dir = true) (n : NodeD) (hk : n.kids = noK) : GoodT (bindT (addT T n) d x T.next) := by
  have h1 := h.low 1 h.root
  exact (h.add n hk).bind (by rw [addT_old n h hd]; exact hdd) x (by show T.next ∈ T.ids ++ [T.next]; simp) (by omega) (fun _ => addT_fresh h n hk)
theorem bindF_good (h : GoodT T) {d i : Int} {y : By} (hd : (T.node d).dir = true) (hi : i ∈ T.ids) (hf : (T.node i).dir = false) : GoodT (bindT T d y i) :=
  h.bind hd y hi (fun e => by rw [e, h.rdir] at hf; cases hf) (fun e => by rw [hf] at e; cases e)
theorem fileT_good (h : GoodT T) (o : OpD) {d : Int} {x : By} {i : Int} (hdd : (T.node d).dir = true) (hi : i ∈ T.ids) (hf : (T.node i).dir = false) : GoodT (fileT T o d x i).1 := by
  unfold fileT
  split
  · exact h.setF _ rfl hf rfl
  · split
    · exact (h.cut hdd x).link (-1) hi (by rw [cutT_dir]; exact hf)
    · split
      · exact h
      · rename_i d2 y hp
        have hp := h.place_mem hp
        split
        · exact h
        · split
          · exact h
          · rename_i hnd
            split
            · exact h
            · split
              · exact bindF_good (h.link 1 hi hf) (by rw [linkT_dir]; exact hp.2.1) hi (by rw [linkT_dir]; exact hf)
              · split
                · rename_i hj
                  have hjm := h.kid_mem hp.1 hj
                  have hjf : (T.node (kidT T d2 y)).dir = false := by
                    rw [← Bool.not_eq_true]; exact fun e => hnd ⟨hj, e⟩
                  have h2 := (h.link (-1) hjm.1 hjf).cut (d := d) (by rw [linkT_dir]; exact hdd) x
                  exact bindF_good h2 (by rw [cutT_dir, linkT_dir]; exact hp.2.1) hi (by rw [cutT_dir, linkT_dir]; exact hf)
                · exact bindF_good (h.cut hdd x) (by rw [cutT_dir]; exact hp.2.1) hi (by rw [cutT_dir]; exact hf)
theorem stepT_good (h : GoodT T) (o : OpD) : GoodT (stepT T o).1 := by
  unfold stepT
  split
  · exact h
  · split
    · exact h
    · rename_i d x hp
      have hp := h.place_mem hp
      split
      · exact h
      · split
        · split
          · exact h
          · exact makeT_good h hp.1 hp.2.1 _ (by split <;> rfl)
        · split
          · exact h
          · rename_i hk
            have hkm := h.kid_mem hp.1 hk
            split
            · split
              · exact h
              · rename_i hid
                split
                · exact (h.cut hp.2.1 x).del hkm.2.2 (cutT_kid h hp.1 hkm.2.1 (by simpa using hid))
                · exact h
            · split
              · exact h
              · rename_i hid
                exact fileT_good h o hp.2.1 hkm.1 (by simpa using hid)
theorem runT_good : ∀ (l : List OpD) {T : TreeD}, GoodT T → GoodT (runT T l).1
  | [], _, h => h
  | o :: l, T, h => by
    unfold runT
    split
    · exact runT_good l (stepT_good h o)
    · exact stepT_good h o
theorem doT_good (h : GoodT T) (l : List OpD) : GoodT (doT T l).1 := by
  unfold doT
  split
  · exact h
  · split
    · exact h
    · split
      · exact h
      · exact runT_good l h
/-! ### How much there is -/
structure FitT (T : TreeD) (K : Nat) : Prop where
  next : T.next ≤ K
  count : T.ids.length ≤ K
  links : ∀ i ∈ T.ids, -K ≤ (T.node i).links ∧ (T.node i).links ≤ K
  data : ∀ i ∈ T.ids, (T.node i).data.length ≤ 3500
theorem FitT.mono {K L : Nat} (h : FitT T K) (k : K ≤ L) : FitT T L :=
  ⟨by have := h.next; omega, by have := h.count; omega, fun i hi => by have := h.links i hi; omega, h.data⟩
theorem newT_fit (q : Int) : FitT (newT q) 2 :=
  ⟨by simp [newT], by simp [newT], fun i _ => by simp [newT, newN], fun i _ => by simp [newT, newN]⟩
theorem FitT.set {K : Nat} (h : FitT T K) {i : Int} {n : NodeD} (hl : i ∈ T.ids → -K ≤ n.links ∧ n.links ≤ K) (hd : i ∈ T.ids → n.data.length ≤ 3500) : FitT (setT T i n) K := by
  refine ⟨h.next, h.count, fun j hj => ?_, fun j hj => ?_⟩
  · rw [setT_node]
    split
    · rename_i e; exact hl (e ▸ hj)
    · exact h.links j hj
  · rw [setT_node]
    split
    · rename_i e; exact hd (e ▸ hj)
    · exact h.data j hj
theorem FitT.bind {K : Nat} (h : FitT T K) (d : Int) (x : By) (i : Int) : FitT (bindT T d x i) K := h.set (h.links d) (h.data d)
theorem FitT.cut {K : Nat} (h : FitT T K) (d : Int) (x : By) : FitT (cutT T d x) K := h.set (h.links d) (h.data d)
theorem FitT.link {K : Nat} (h : FitT T K) (i : Int) {k : Int} (hk : -1 ≤ k ∧ k ≤ 1) : FitT (linkT T i k) (K + 1) :=
  (h.mono (Nat.le_succ K)).set (fun hi => by have := h.links i hi; show -((K + 1 : Nat) : Int) ≤ (T.node i).links + k ∧ (T.node i).links + k ≤ ((K + 1 : Nat) : Int); omega) (h.data i)
theorem FitT.add {K : Nat} (h : FitT T K) {n : NodeD} (hl : n.links = 1) (hd : n.data.length ≤ 3500) : FitT (addT T n) (K + 1) := by
  refine ⟨by have := h.next; show T.next + 1 ≤ ((K + 1 : Nat) : Int); omega, by have := h.count; show (T.ids ++ [T.next]).length ≤ K + 1; rw [List.length_append, List.length_singleton]; omega, fun j hj => ?_, fun j hj => ?_⟩
  · rw [addT_node]
    split
    · rw [hl]; omega
    · rename_i hne
      have hj : j ∈ T.ids ++ [T.next] := hj
      have := h.links j ((List.mem_append.1 hj).resolve_right (fun e => hne (List.mem_singleton.1 e)))
      omega
  · rw [addT_node]
    split
    · exact hd
    · rename_i hne
      have hj : j ∈ T.ids ++ [T.next] := hj
      exact h.data j ((List.mem_append.1 hj).resolve_right (fun e => hne (List.mem_singleton.1 e)))
theorem FitT.del {K : Nat} (h : FitT T K) (i : Int) : FitT (delT T i) K := by
  have hmem : ∀ j, j ∈ (delT T i).ids → j ∈ T.ids := by intro j hj; exact (List.mem_filter.1 hj).1
  exact ⟨h.next, Nat.le_trans (List.length_filter_le _ _) h.count, fun j hj => h.links j (hmem j hj), fun j hj => h.data j (hmem j hj)⟩
theorem fileT_fit {K : Nat} (h : FitT T K) (o : OpD) (ho : o.data.length ≤ 3500) (d : Int) (x : By) (i : Int) : FitT (fileT T o d x i).1 (K + 1) := by
  have h1 := h.mono (Nat.le_succ K)
  unfold fileT
  split
  · exact h1.set (h1.links i) (fun _ => ho)
  · split
    · exact (h.cut d x).link i (by omega)
    · split
      · exact h1
      · split
        · exact h1
        · split
          · exact h1
          · split
            · exact h1
            · split
              · exact (h.link i (by omega)).bind _ _ _
              · split
                · exact ((h.link _ (by omega)).cut _ _).bind _ _ _
                · exact (h1.cut _ _).bind _ _ _
theorem stepT_fit {K : Nat} (h : FitT T K) (o : OpD) : FitT (stepT T o).1 (K + 1) := by
  have h1 := h.mono (Nat.le_succ K)
  unfold stepT
  split
  · exact h1
  · split
    · exact h1
    · split
      · exact h1
      · rename_i hl
        split
        · split
          · exact h1
          · exact (h.add (by split <;> rfl) (by split; exact Nat.zero_le _; (show o.data.length ≤ 3500; omega))).bind _ _ _
        · split
          · exact h1
          · split
            · split
              · exact h1
              · split
                · exact (h1.cut _ _).del _
                · exact h1
            · split
              · exact h1
              · exact fileT_fit h o (by omega) _ _ _
theorem runT_fit : ∀ (l : List OpD) {T : TreeD} {K : Nat}, FitT T K → FitT (runT T l).1 (K + l.length)
  | [], _, _, h => h
  | o :: l, T, K, h => by
    unfold runT
    split
    · exact (runT_fit l (stepT_fit h o)).mono (by rw [List.length_cons]; omega)
    · exact (stepT_fit h o).mono (by rw [List.length_cons]; omega)
theorem doT_fit {K : Nat} (h : FitT T K) (l : List OpD) : FitT (doT T l).1 (K + l.length) := by
  have h1 := h.mono (Nat.le_add_right K l.length)
  unfold doT
  split
  · exact h1
  · split
    · exact h1
    · split
      · exact h1
      · exact runT_fit l h
theorem doT_count (h : T.ids.length ≤ 128) (l : List OpD) : (doT T l).1.ids.length ≤ 128 := by
  unfold doT
  split
  · exact h
  · split
    · exact h
    · split
      · exact h
      · show (runT T l).1.ids.length ≤ 128; omega
end
end Go.Proofs.YtldgpcmnmegioaaGreatDoor
