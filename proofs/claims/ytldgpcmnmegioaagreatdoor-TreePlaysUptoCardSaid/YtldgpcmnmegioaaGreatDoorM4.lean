/- Several texts of mine, one behind the other: OrdersKA, Ref06StepH. -/
import Derived.Test.YtldgpcmnmegioaaGreatDoorOrdersK
import Derived.Test.YtldgpcmnmegioaaGreatDoorRef06Place
import Derived.Test.YtldgpcmnmegioaaGreatDoorRef06Reap
import Derived.Test.YtldgpcmnmegioaaGreatDoorRef06Lists
import Derived.Deep.CutRange
import Derived.BigQuiet
import Derived.Deep.QuietTactic
namespace Go.Proofs.YtldgpcmnmegioaaGreatDoor
open Go
section
variable {P : Program} {ops : Array Oper} {Q : Exit → Act → World → Prop} {md : Region.Mode} {S : World → Prop} {I : List Nat}
def AllReadyK (P : Program) (md : Region.Mode) (ops : Array Oper) (Q : Exit → Act → World → Prop) (S : World → Prop) (I : List Nat) (fuel : Nat) (listed : Array Bool) (a : Act) (w : World) (rs : List Nat) : Prop :=
  ∀ i ∈ rs, wpOp P ops Q i (fun a' w' => S w' ∧ wpAnyK P md ops Q S I fuel (listed.setIfInBounds i true) true a' w') a w
theorem AllReadyK.nil {fuel : Nat} {listed : Array Bool} {a : Act} {w : World} : AllReadyK P md ops Q S I fuel listed a w [] := fun _ h => by cases h
theorem AllReadyK.cons {fuel : Nat} {listed : Array Bool} {a : Act} {w : World} {i : Nat} {o : Oper} {rs : List Nat} (ho : ops[i]? = some o)
    (h : ∀ K' : Act → World → Prop, Shut (∀ a w, S w → (S w → wpAnyK P md ops Q S I fuel (listed.setIfInBounds i true) true a w) → K' a w) → if Region.wanted o (yielded ops a.tmps) = true then Oper.wp P o a w K' Q else K' (a.put o.dst undef) w)
    (hs : AllReadyK P md ops Q S I fuel listed a w rs) : AllReadyK P md ops Q S I fuel listed a w (i :: rs) := fun j hj => by
  rcases List.mem_cons.1 hj with rfl | hj
  · exact wpOp_step ho (fun K' hK => h K' (fun a w hS hW => hK a w ⟨hS, hW hS⟩))
  · exact hs j hj
theorem wpAnyK_ready {rs : List Nat} {fuel : Nat} {listed : Array Bool} {a : Act} {w : World} (hr : Region.ready md ops listed = rs) (hne : rs ≠ [])
    (h : AllReadyK P md ops Q S I fuel listed a w rs) : wpAnyK P md ops Q S I (fuel + 1) listed true a w := by
  refine ⟨fun h0 => absurd (hr.symm.trans h0) hne, fun j hj => ?_⟩
  rw [hr] at hj
  exact wpOp_mono (fun a' w' h' => ⟨true, fun _ => h'.1, fun _ => rfl, h'.2⟩) (h j hj)
end
end Go.Proofs.YtldgpcmnmegioaaGreatDoor
namespace Go.Proofs.YtldgpcmnmegioaaGreatDoor
open Go.RowKit
attribute [local go_sem ↓] Go.wp_at_zero Go.wp_at_succ
/-- A tree of the document's, and an error's number. -/
def RefE (m : RefD) (code : Int) (w : World) (e : Ending) (w' : World) : Prop := ∃ A, e = .returned (.tuple #[refV m A, .int .i64 code]) ∧ RefM w' m A ∧ Ext w w'
theorem erase_idx {L : List EntD} {p : By} {k : Nat} (hk : k < L.length) (h : findI L p = k) : L.take k ++ L.drop (k + 1) = L.eraseP (isP p) := by
  unfold findI idxM at h
  cases hi : L.findIdx? (isP p) with
  | none => rw [hi] at h; have h : (-1 : Int) = k := h; omega
  | some i =>
    rw [hi] at h
    have h : (i : Int) = k := h
    obtain rfl : i = k := by omega
    rw [List.eraseP_eq_eraseIdx, hi]
    show _ = L.eraseIdx i
    rw [List.eraseIdx_eq_take_drop_succ]
theorem filV_set : ∀ (Z : List (FilD × OpA)) (i : Nat) (x : FilD × OpA), i < Z.length → ((Z.flatMap filV).set (i * 2) (.int .i64 x.1.id)).set (i * 2 + 1) (.slice x.2.oa x.1.data.length x.2.oc) = (Z.set i x).flatMap filV
  | [], _, _, h => by simp at h
  | z :: Z, 0, x, _ => by simp [filV]
  | z :: Z, i + 1, x, h => by
    have ih := filV_set Z i x (by simpa using h)
    rw [List.set_cons_succ, List.flatMap_cons, List.flatMap_cons, ← ih]
    have hl : (filV z).length = 2 := rfl
    rw [List.set_append_right _ _ (by rw [hl]; omega), List.set_append_right _ _ (by rw [hl]; omega), hl]
    have e1 : (i + 1) * 2 - 2 = i * 2 := by omega
    have e2 : (i + 1) * 2 + 1 - 2 = i * 2 + 1 := by omega
    rw [e1, e2]
/-- A file in a row of the call's own is written. -/
theorem own_set2 {w : World} {base : Nat} {a : Option Addr} {n c : Nat} {Z : List (FilD × OpA)} (h : w.ownsRow base 77 2 (.slice a n c) n (Z.flatMap filV)) {i : Nat} (hi : i < n) {fz : FilD × OpA} (hz : i < Z.length) :
    ∃ g cur, a = some ⟨g, 0, none⟩ ∧ base ≤ g ∧ w.heap[g]? = some (.cells cur 77 (0, 0)) ∧ w.cell? ⟨g, i * 2, none⟩ = some (.int .i64 (Z.getD i fz).1.id) ∧ w.cell? ⟨g, i * 2 + 1, none⟩ = some (.slice (Z.getD i fz).2.oa (Z.getD i fz).1.data.length (Z.getD i fz).2.oc) ∧ w.frozen? ⟨g, i * 2, none⟩ = false ∧ w.frozen? ⟨g, i * 2 + 1, none⟩ = false ∧
      ∀ x : FilD × OpA, ((w.setCell ⟨g, i * 2, none⟩ (.int .i64 x.1.id)).setCell ⟨g, i * 2 + 1, none⟩ (.slice x.2.oa x.1.data.length x.2.oc)).ownsRow base 77 2 (.slice a n c) n ((Z.set i x).flatMap filV) ∧ But g w ((w.setCell ⟨g, i * 2, none⟩ (.int .i64 x.1.id)).setCell ⟨g, i * 2 + 1, none⟩ (.slice x.2.oa x.1.data.length x.2.oc)) := by
  have hl := h.1
  have hcell := run_of_row h
  obtain ⟨a', c', hv, _, hrun, _⟩ := hcell
  cases hv
  rcases h.2 with ⟨h1, h2⟩ | ⟨g, c', cur, h1, hbg, hg, hn, hm, hs, ht⟩
  · omega
  · obtain ⟨rfl, rfl⟩ : a = some ⟨g, 0, none⟩ ∧ c = c' := by cases h1; exact ⟨rfl, rfl⟩
    have hc := of_runM (m := 2) (F := filV) (fun _ => rfl) (by omega) hrun
    have e : Z.getD i fz = Z[i] := by simp [List.getD_eq_getElem?_getD, List.getElem?_eq_getElem hz]
    rw [e]
    rcases hc with hc | ⟨g', off, hga, _, hc⟩
    · rw [hc] at hz; simp at hz
    · cases hga
      have c0 := hc i hz 0 _ (by omega) rfl
      have c1 := hc i hz 1 _ (by omega) rfl
      simp only [Nat.zero_add, Nat.add_zero] at c0 c1
      refine ⟨g, cur, rfl, hbg, hg, c0, c1, blk_free hg _, blk_free hg _, fun x => ⟨⟨?_, Or.inr ⟨g, c, (cur.setIfInBounds (i * 2) (.int .i64 x.1.id)).setIfInBounds (i * 2 + 1) (.slice x.2.oa x.1.data.length x.2.oc), rfl, hbg, setCell_row (setCell_row hg _) _, hn, hm, by simpa using hs, ?_⟩⟩, ((But.refl g w).setCell _ _).setCell _ _⟩⟩
      · rw [← filV_set Z i x hz, List.length_set, List.length_set]; exact hl
      · rw [← filV_set Z i x hz, ← ht, Array.toList_setIfInBounds, Array.toList_setIfInBounds, List.take_set, List.take_set]
theorem map_set_step {α : Type} {f : α → α} {fs A : List α} {j : Nat} (hj : j < fs.length) (h : A = (fs.take j).map f ++ fs.drop j) : A.set j (f fs[j]) = (fs.take (j + 1)).map f ++ fs.drop (j + 1) := by
  have hl : ((fs.take j).map f).length = j := by rw [List.length_map, List.length_take]; omega
  rw [h, List.set_append_right _ _ (by omega), hl, Nat.sub_self, List.drop_eq_getElem_cons hj, List.set_cons_zero, List.take_succ_eq_append_getElem hj, List.map_append]
  simp
theorem map_stay {α : Type} {f : α → α} {fs A : List α} {j : Nat} (hj : j < fs.length) (h : A = (fs.take j).map f ++ fs.drop j) (hf : f fs[j] = fs[j]) : A = (fs.take (j + 1)).map f ++ fs.drop (j + 1) := by
  rw [← map_set_step hj h, hf]
  have e : A[j]? = some fs[j] := by
    have hl : ((fs.take j).map f).length = j := by rw [List.length_map, List.length_take]; omega
    rw [h, List.getElem?_append_right (by omega), hl, Nat.sub_self, List.getElem?_drop, Nat.add_zero, List.getElem?_eq_getElem hj]
  obtain ⟨hlt, he⟩ := List.getElem?_eq_some_iff.1 e
  rw [← he, List.set_getElem_self]
theorem find_erase {p r : By} (h : p ≠ r) : ∀ {L : List EntD}, (L.eraseP (isP p)).find? (isP r) = L.find? (isP r)
  | [] => rfl
  | a :: L => by
    by_cases ha : a.path = p
    · rw [List.eraseP_cons_of_pos (by simp [isP, ha]), List.find?_cons]
      have : isP r a = false := by unfold isP; exact decide_eq_false (fun e => h (by rw [← ha, e]))
      rw [this]
    · rw [List.eraseP_cons_of_neg (by simp [isP, ha]), List.find?_cons, List.find?_cons, find_erase h]
end Go.Proofs.YtldgpcmnmegioaaGreatDoor
