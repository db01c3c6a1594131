/- A drawn region that loads cells, and stores into them behind all loads: the loads may be taken first, though the stores turn what they read. -/
import Derived.Test.YtldgpcmnmegioaaGreatDoorM3
import Derived.OrdersHeld
import Derived.Deep.RegionHeld3
namespace Go.Proofs.YtldgpcmnmegioaaGreatDoor
open Go
section
variable {P : Program} {ops : Array Oper} {Q : Exit → Act → World → Prop} {md : Region.Mode} {S : World → Prop} {I : List Nat}
/-- Does an operation wait for each of the operations I? -/
def waitsAll (md : Region.Mode) (ops : Array Oper) (I : List Nat) (j : Nat) : Bool :=
  I.all fun i => match ops[j]? with | some o => o.after.any (fun e => Region.binds md e && e.on == i) | none => false
/-- Whatever order is picked from here on; as long as b stands the condition S holds; an operation that doesn't wait for all of I lets it stand. -/
def wpAnyK (P : Program) (md : Region.Mode) (ops : Array Oper) (Q : Exit → Act → World → Prop) (S : World → Prop) (I : List Nat) : Nat → Array Bool → Bool → Act → World → Prop
  | 0, listed, _, a, w => Region.ready md ops listed = [] ∧ Q .normal a w
  | fuel + 1, listed, b, a, w =>
    (Region.ready md ops listed = [] → Q .normal a w) ∧
    ∀ i ∈ Region.ready md ops listed, wpOp P ops Q i (fun a' w' => ∃ b' : Bool, (b' = true → S w') ∧ ((b = true ∧ waitsAll md ops I i = false) → b' = true) ∧ wpAnyK P md ops Q S I fuel (listed.setIfInBounds i true) b' a' w') a w
theorem wpAny_of_K : ∀ (fuel : Nat) (listed : Array Bool) (b : Bool) (a : Act) (w : World), wpAnyK P md ops Q S I fuel listed b a w → wpAny P md ops Q fuel listed a w
  | 0, _, _, _, _, h => h
  | fuel + 1, _, _, _, _, h => ⟨h.1, fun i hi => wpOp_mono (fun a' w' h' => by obtain ⟨b', _, _, h3⟩ := h'; exact wpAny_of_K fuel _ b' a' w' h3) (h.2 i hi)⟩
theorem waits_not {i j : Nat} {oj : Oper} (hi : i ∈ I) (hj : ops[j]? = some oj) (hno : ∀ e ∈ oj.after, Region.binds md e = true → e.on ≠ i) : waitsAll md ops I j = false := by
  cases h : waitsAll md ops I j
  · rfl
  · unfold waitsAll at h
    have := (List.all_eq_true.1 h) i hi
    rw [hj] at this
    simp only at this
    obtain ⟨e, he, hb⟩ := Array.any_eq_true'.1 this
    simp only [Bool.and_eq_true, beq_iff_eq] at hb
    exact absurd hb.2 (hno e he hb.1)
theorem wpAnyK_first {c : Bool} {i : Nat} {oi : Oper} {v : Value} (hi : ops[i]? = some oi) (hsel : ∀ (j : Nat) (o : Oper) cs b, ops[j]? = some o → o.op ≠ .select cs b)
    (hQ : ∀ c a w, Q (.panic c) (a.put oi.dst v) w → Q (.panic c) a w) (hI : c = true → i ∈ I) :
    ∀ (fuel : Nat) (listed : Array Bool) (b : Bool) (a : Act) (w : World),
      (∀ j oj, ops[j]? = some oj → j ≠ i → listed.getD j true = false → (∀ e ∈ oj.after, Region.binds md e = true → e.on ≠ i) → oi.apart ops oj = true) →
      i ∈ Region.ready md ops listed → YieldsIf P ops (fun w => c = true → S w) oi v a → (c = true → b = true) → (b = true → S w) →
      wpAnyK P md ops Q S I fuel (listed.setIfInBounds i true) b (a.put oi.dst v) w → wpAnyK P md ops Q S I (fuel + 1) listed b a w := by
  intro fuel
  induction fuel with
  | zero =>
    intro listed b a w _ hr hy hc hS H
    refine ⟨fun h => (by rw [h] at hr; cases hr), fun j hj => ?_⟩
    by_cases hji : j = i
    · subst hji; exact hy.wpOp hi (fun hcc => hS (hc hcc)) ⟨b, hS, fun h => h.1, H⟩
    · have := ready_mono hj hji
      rw [H.1] at this
      cases this
  | succ fuel ih =>
    intro listed b a w hfree hr hy hc hS H
    refine ⟨fun h => (by rw [h] at hr; cases hr), fun j hj => ?_⟩
    by_cases hji : j = i
    · subst hji; exact hy.wpOp hi (fun hcc => hS (hc hcc)) ⟨b, hS, fun h => h.1, H⟩
    · have h1 := H.2 j (ready_mono hj hji)
      obtain ⟨hjun, oj, hoj, hall⟩ := mem_ready.1 hj
      have hnot : ∀ e ∈ oj.after, Region.binds md e = true → e.on ≠ i := fun e he hb heq => by
        have h1 := hall e he hb
        have h0 := (mem_ready.1 hr).1
        rw [heq] at h1
        rcases Nat.lt_or_ge i listed.size with h' | h'
        · simp [h'] at h0 h1; rw [h0] at h1; cases h1
        · simp [Array.getElem?_eq_none h'] at h1
      have h2 := wpOp_putIf hoj (hfree j oj hoj hji hjun hnot) (fun cs b => hsel i oi cs b hi) (fun cs b => hsel j oj cs b hoj) hQ hy h1
      have hfree' : ∀ k ok, ops[k]? = some ok → k ≠ i → (listed.setIfInBounds j true).getD k true = false →
          (∀ e ∈ ok.after, Region.binds md e = true → e.on ≠ i) → oi.apart ops ok = true := fun k ok hk hki hun hno => by
        refine hfree k ok hk hki ?_ hno
        by_cases hjk : j = k
        · subst hjk; exact hjun
        · rw [getD_set_ne true hjk] at hun; exact hun
      refine wpOp_mono (fun a' w' h3 => ?_) h2
      obtain ⟨hy', b', hb1, hb2, hH⟩ := h3
      refine ⟨b', hb1, hb2, ih (listed.setIfInBounds j true) b' a' w' hfree' (ready_mono hr (Ne.symm hji)) hy' (fun hcc => hb2 ⟨hc hcc, waits_not (hI hcc) hoj hnot⟩) hb1 ?_⟩
      rw [Array.setIfInBounds_comm _ _ hji]
      exact hH
/-- A load is taken first. -/
theorem wpAnyK_load {i : Nat} {oi : Oper} {v : Value} {fuel : Nat} {listed : Array Bool} {a : Act} {w : World} (hi : ops[i]? = some oi)
    (hs : Region.noSelect ops = true) (hf : Region.free md ops listed i = true) (hr : (Region.ready md ops listed).contains i = true)
    (hQ : ∀ c a w, Q (.panic c) (a.put oi.dst v) w → Q (.panic c) a w) (hI : I.contains i = true) (hw : Region.wanted oi (yielded ops a.tmps) = true) (hy : ∀ w, S w → (execOp a.eval oi).run P w = .ok (.value v) w) (hS : S w)
    (h : wpAnyK P md ops Q S I fuel (listed.setIfInBounds i true) true (a.put oi.dst v) w) : wpAnyK P md ops Q S I (fuel + 1) listed true a w :=
  wpAnyK_first (c := true) hi (Region.noSelect_spec hs) hQ (fun _ => by simpa using hI) fuel listed true a w (Region.free_spec hi hf) (by simpa using hr) (Or.inl ⟨hw, fun w' h' => hy w' (h' rfl)⟩) (fun _ => rfl) (fun _ => hS) h
/-- What yields in whatever world is taken first. -/
theorem wpAnyK_free {i : Nat} {oi : Oper} {v : Value} {fuel : Nat} {listed : Array Bool} {b : Bool} {a : Act} {w : World} (hi : ops[i]? = some oi)
    (hs : Region.noSelect ops = true) (hf : Region.free md ops listed i = true) (hr : (Region.ready md ops listed).contains i = true)
    (hQ : ∀ c a w, Q (.panic c) (a.put oi.dst v) w → Q (.panic c) a w) (hw : Region.wanted oi (yielded ops a.tmps) = true) (hy : ∀ w, (execOp a.eval oi).run P w = .ok (.value v) w) (hS : b = true → S w)
    (h : wpAnyK P md ops Q S I fuel (listed.setIfInBounds i true) b (a.put oi.dst v) w) : wpAnyK P md ops Q S I (fuel + 1) listed b a w :=
  wpAnyK_first (c := false) hi (Region.noSelect_spec hs) hQ (fun h => by cases h) fuel listed b a w (Region.free_spec hi hf) (by simpa using hr) (Or.inl ⟨hw, fun w' _ => hy w'⟩) (fun h => by cases h) hS h
/-- One operation alone may come up: it is carried out; S is shown anew. -/
theorem wpAnyK_one {i : Nat} {o : Oper} {fuel : Nat} {listed : Array Bool} {a : Act} {w : World} (hr : Region.ready md ops listed = [i]) (ho : ops[i]? = some o)
    (h : ∀ K' : Act → World → Prop, Shut (∀ a w, S w → wpAnyK P md ops Q S I fuel (listed.setIfInBounds i true) true a w → K' a w) → if Region.wanted o (yielded ops a.tmps) = true then Oper.wp P o a w K' Q else K' (a.put o.dst undef) w) :
    wpAnyK P md ops Q S I (fuel + 1) listed true a w := by
  refine ⟨fun h0 => (by rw [hr] at h0; cases h0), fun j hj => ?_⟩
  rw [hr] at hj
  obtain rfl := List.mem_singleton.1 hj
  exact wpOp_step ho (fun K' hK => h K' (fun a w hS hW => hK a w ⟨true, fun _ => hS, fun _ => rfl, hW⟩))
/-- One operation alone may come up, which waits for all: S is no longer wanted. -/
theorem wpAnyK_last {i : Nat} {o : Oper} {fuel : Nat} {listed : Array Bool} {b : Bool} {a : Act} {w : World} (hr : Region.ready md ops listed = [i]) (ho : ops[i]? = some o) (hwt : waitsAll md ops I i = true)
    (h : ∀ K' : Act → World → Prop, Shut (∀ a w, wpAnyK P md ops Q S I fuel (listed.setIfInBounds i true) false a w → K' a w) → if Region.wanted o (yielded ops a.tmps) = true then Oper.wp P o a w K' Q else K' (a.put o.dst undef) w) :
    wpAnyK P md ops Q S I (fuel + 1) listed b a w := by
  refine ⟨fun h0 => (by rw [hr] at h0; cases h0), fun j hj => ?_⟩
  rw [hr] at hj
  obtain rfl := List.mem_singleton.1 hj
  exact wpOp_step ho (fun K' hK => h K' (fun a w hW => hK a w ⟨false, fun h => (by cases h), fun h => (by rw [hwt] at h; cases h.2), hW⟩))
theorem wpAnyK_done {listed : Array Bool} {b : Bool} {a : Act} {w : World} (hr : Region.ready md ops listed = []) (h : Q .normal a w) : ∀ fuel, wpAnyK P md ops Q S I fuel listed b a w
  | 0 => ⟨hr, h⟩
  | _ + 1 => ⟨fun _ => h, by rw [hr]; simp⟩
/-- The beginning: S is shown of the world behind the draw. -/
theorem wp_region_K {id : Nat} {a : Act} {w : World} (hm : P.follows .mixedOrders = true) (hS : S w.drew)
    (h : S w.drew → wpAnyK P .any ops Q S I ops.size (Array.replicate ops.size false) true a w.drew) : (Code.region id ops true).wp P Q a w :=
  wp_region_any hm (wpAny_of_K _ _ _ _ _ (h hS))
end
end Go.Proofs.YtldgpcmnmegioaaGreatDoor
