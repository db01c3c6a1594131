/- base.Names: the names of all that are there, in order. -/
import Derived.Test.YtnclibfhbngkjaaGreatDoorM1
import Derived.Test.YtnclibfhbngkjaaGreatDoorM2
import Derived.Shelf.SlIter.Nil
import Derived.Shelf.SortM.Plain
import Derived.Shelf.SortM.SortNone
import Derived.Shelf.AbstractIn
namespace Go.Proofs.YtnclibfhbngkjaaGreatDoor
open Go.RowKit Go.Maps Go.Sort Go.Shelf
theorem sorts_names (m : Nat) : AnyZ.SortsIn Tryz.prog Tryz.sorted_string_ren Fence.wide m :=
  ⟨fun blk off cap ss W hH hblk hsz => callsIn_wide.2 (AnyM.slices_Sort_string Tryz.sort_string blk off cap ss W hH hblk hsz),
   fun p cap W => callsIn_wide.2 (AnyM.slices_Sort_string_none Tryz.sort_string p cap W)⟩
set_option maxRecDepth 100000 in
set_option maxHeartbeats 3200000 in
theorem names_some {H : Type} (b nn : Nat) (D0 : DataW H) (R : Value → Option (DataW H × List MemPlace)) (w : World) (hown : w.ownsMap Tryz.prog 9 R b nn D0) (hmax : Maps.size D0 ≤ 100000) :
    Calls Tryz.prog 20 #[.agg #[.map (some b)]] w fun e w' => ∃ (v : Value) (ss : List (List UInt8)), e = .returned v ∧ ss.Perm (strKeys D0) ∧
      w'.ownsRow w.heap.size 9 1 v ss.length ((ss.mergeSort (fun x y => decide (x ≤ y))).map encStr) ∧ Below w.heap.size w w' := by
  refine (callsIn_wide (n := 6)).1 ?_
  have hbl := hown.lt
  have hseq : SeqGives Fence.wide 2 Tryz.prog 81 #[.pointer (some ⟨w.heap.size + 1, 0, none⟩)] encStr (fun ss => ss.Perm (strKeys D0)) (Maps.size D0) ((w.alloc (.cells #[.map (some b)] 42)).alloc (.cells #[.map (some b)] 40)) :=
    AnyZ.keys_gives (ρ := Tryz.keys_base_Entry_ren) { Tryz.keys_base_Entry with } Fence.wide _ trivial rfl (by omega) (w.heap.size + 1) b nn D0 _ (by simp) (by simp) (by
      obtain ⟨es, clock, hb, Ft, hs, hD⟩ := hown
      exact ⟨es, clock, (Below.heap_alloc _ _ b (by simp; omega)).trans ((Below.heap_alloc _ _ b hbl).trans hb), Ft, hs, hD⟩)
  have cK : ∀ mb W, CallsIn Fence.wide 5 Tryz.prog 61 #[.map mb] W fun e w' => e = .returned (.func (.func 81) #[] #[.pointer (some ⟨W.heap.size, 0, none⟩)]) ∧ w' = W.alloc (.cells #[.map mb] 40) := fun mb W => AnyZ.keys_in Tryz.keys_base_Entry Fence.wide 5 trivial rfl mb W
  have cS := AnyZ.sorted_in Tryz.sorted_string Fence.wide 5 trivial trivial trivial trivial rfl (by omega) (sorts_names _) (enters_of Tryz.func65 (by kernel_rfl) rfl) 81 #[.pointer (some ⟨w.heap.size + 1, 0, none⟩)] trivial (enters_of Tryz.func81 (by kernel_rfl) rfl) _ _ (by unfold maxLen; omega) (by omega) _ hseq
  change CallsIn _ _ Tryz.prog 60 _ _ _ at cS
  have hfK : Fence.wide.fn 61 := trivial
  have hfS : Fence.wide.fn 60 := trivial
  refine callsIn_of_wp Tryz.func20 rfl trivial ?_ rfl
  simp only [Tryz.ntmps20, List.size_toArray, List.length_cons, List.length_nil, Nat.reduceAdd, Nat.reduceSub, Array.replicate_succ, Array.replicate_zero, List.push_toArray, List.append_toArray, List.nil_append, List.cons_append]
  gi_wp2_with (first
    | (gi_at_call 61; refine (cK _ _).mono ?_; rintro e w' ⟨rfl, rfl⟩)
    | (gi_at_call 60; refine cS.mono ?_; rintro e w' ⟨v, ss, rfl, hS, hrow, hnil, hb⟩))
  go_ret
  exact ⟨v, ss, rfl, hS, ownsRow_base_a hrow (by simp; omega), ((((Below.refl _ w).alloc (Nat.le_refl _) _).alloc (by simp) _).trans (hb.mono (by simp; omega)))⟩
set_option maxRecDepth 100000 in
set_option maxHeartbeats 3200000 in
theorem names_none (w : World) : Calls Tryz.prog 20 #[.agg #[.map none]] w fun e w' => e = .returned (.slice none 0 0) ∧ Below w.heap.size w w' := by
  refine (callsIn_wide (n := 6)).1 ?_
  have hseq : SeqGives Fence.wide 2 Tryz.prog 81 #[.pointer (some ⟨w.heap.size + 1, 0, none⟩)] encStr (fun ss : List (List UInt8) => ss = []) 0 ((w.alloc (.cells #[.map none] 42)).alloc (.cells #[.map none] 40)) :=
    AnyZ.keys_gives_nil (ρ := Tryz.keys_base_Entry_ren) { Tryz.keys_base_Entry with } Fence.wide _ trivial rfl (w.heap.size + 1) _ (by simp) (by simp)
  have cK : ∀ mb W, CallsIn Fence.wide 5 Tryz.prog 61 #[.map mb] W fun e w' => e = .returned (.func (.func 81) #[] #[.pointer (some ⟨W.heap.size, 0, none⟩)]) ∧ w' = W.alloc (.cells #[.map mb] 40) := fun mb W => AnyZ.keys_in Tryz.keys_base_Entry Fence.wide 5 trivial rfl mb W
  have cS := AnyZ.sorted_in Tryz.sorted_string Fence.wide 5 trivial trivial trivial trivial rfl (by omega) (sorts_names _) (enters_of Tryz.func65 (by kernel_rfl) rfl) 81 #[.pointer (some ⟨w.heap.size + 1, 0, none⟩)] trivial (enters_of Tryz.func81 (by kernel_rfl) rfl) _ 0 (Nat.zero_le _) (by omega) _ hseq
  change CallsIn _ _ Tryz.prog 60 _ _ _ at cS
  have hfK : Fence.wide.fn 61 := trivial
  have hfS : Fence.wide.fn 60 := trivial
  refine callsIn_of_wp Tryz.func20 rfl trivial ?_ rfl
  simp only [Tryz.ntmps20, List.size_toArray, List.length_cons, List.length_nil, Nat.reduceAdd, Nat.reduceSub, Array.replicate_succ, Array.replicate_zero, List.push_toArray, List.append_toArray, List.nil_append, List.cons_append]
  gi_wp2_with (first
    | (gi_at_call 61; refine (cK _ _).mono ?_; rintro e w' ⟨rfl, rfl⟩)
    | (gi_at_call 60; refine cS.mono ?_; rintro e w' ⟨v, ss, rfl, rfl, hrow, hnil, hb⟩; obtain rfl : v = .slice none 0 0 := hnil.2 rfl))
  go_ret
  exact ⟨rfl, ((((Below.refl _ w).alloc (Nat.le_refl _) _).alloc (by simp) _).trans (hb.mono (by simp; omega)))⟩
/-- What Names answers. -/
def NamesR (N : Nat) (f : BaseF) (w : World) (e : Ending) (w' : World) : Prop := ∃ a c ss, e = .returned (.slice a ss.length c) ∧ NamesF f ss ∧ OwnS w' w.heap.size a c ss ∧ ss.length ≤ N ∧ Ext w w'
theorem base_names (v : Value) (N : Nat) (f : BaseF) (w : World) (hb : BaseM w v N f) (hN : N ≤ 100000) : Calls Tryz.prog 20 #[v] w (NamesR N f w) := by
  rcases hb with ⟨rfl, rfl⟩ | ⟨b, A, rfl, h⟩
  · exact (names_none w).mono fun e w' ⟨he, hb⟩ => ⟨none, 0, [], he, ⟨by simp, by simp, by simp [noneF]⟩, OwnS.nil _ _, Nat.zero_le _, hb⟩
  · obtain ⟨D, h1, h2, h3⟩ := h.1
    have hs := h1.size_le
    refine (names_some b N D selfR w h1 (by omega)).mono ?_
    rintro e w' ⟨v, ss, rfl, hp, hr, hb⟩
    obtain ⟨g1, g2, g3⟩ := sorted_names h1 (f := entF f A) (fun x => (h3 x).2) hp
    have hl : (ss.mergeSort leB).length = ss.length := (List.mergeSort_perm ss leB).length_eq
    have hsz : ss.length ≤ N := by
      rw [hp.length_eq]
      obtain ⟨es, hD⟩ := h2
      rw [hD] at hs ⊢
      simpa [strKeys, Maps.size_eq] using hs
    have hv : ∃ a c, v = .slice a ss.length c := by
      rcases hr.2 with ⟨q1, q2⟩ | ⟨g, c, cur, q1, _⟩
      · exact ⟨none, 0, by rw [q1, q2]⟩
      · exact ⟨_, c, q1⟩
    obtain ⟨a, c, rfl⟩ := hv
    refine ⟨a, c, ss.mergeSort leB, by rw [hl], ⟨g1, g2, fun x => ?_⟩, ?_, by rw [hl]; exact hsz, hb⟩
    · rw [g3 x]
      unfold entF
      cases f x <;> simp
    · unfold OwnS
      rw [hl]
      exact hr
end Go.Proofs.YtnclibfhbngkjaaGreatDoor
