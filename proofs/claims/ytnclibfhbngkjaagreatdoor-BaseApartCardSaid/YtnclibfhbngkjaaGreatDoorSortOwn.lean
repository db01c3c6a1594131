/- slices.Sort, slices.Compact of texts that a call has gathered itself. -/
import Derived.Test.YtnclibfhbngkjaaGreatDoorM2
import Derived.Sort.OwnSorted
import Derived.Lib.SlicesCompact
import Derived.Laws.IdiomCopy
import Derived.Shelf.SortM.Plain
import Derived.Shelf.SortM.SortNone
namespace Go.Proofs.YtnclibfhbngkjaaGreatDoor
open Go.RowKit Go.Sort Go.Shelf
theorem own_sort (base : Nat) (a : Option Addr) (c : Nat) (L : List (List UInt8)) (w : World) (hO : OwnS w base a c L) (hb : base ≤ w.heap.size) (hl : L.length ≤ 1099511627776) :
    Calls Tryz.prog 65 #[.slice a L.length c] w fun e w' => e = .returned (.tuple #[]) ∧ OwnS w' base a c (L.mergeSort fun x y => decide (x ≤ y)) ∧ Below base w w' := by
  have hl2 : (L.mergeSort fun x y => decide (x ≤ y)).length = L.length := (List.mergeSort_perm L _).length_eq
  rcases hO.2 with ⟨h1, h2⟩ | ⟨g, c', cur, h1, hbg, hg, hn, hm, hs, ht⟩
  · have h0 : L = [] := List.eq_nil_of_length_eq_zero h2
    subst h0
    refine (AnyM.slices_Sort_string_none Tryz.sort_string a c w).mono ?_
    rintro e w' ⟨he, hw⟩
    subst hw
    exact ⟨he, by simpa using hO, Below.refl _ _⟩
  · obtain ⟨rfl, rfl⟩ : a = some ⟨g, 0, none⟩ ∧ c = c' := by cases h1; exact ⟨rfl, rfl⟩
    have hgl : g < w.heap.size := (Array.getElem?_eq_some_iff.1 hg).1
    rw [Nat.mul_one] at ht
    refine (AnyM.slices_Sort_string Tryz.sort_string g 0 c L w (holds_of_block hg ht) hgl (by omega)).mono ?_
    rintro e w' ⟨he, n, os, hw⟩
    subst hw
    refine ⟨he, ?_, (Below.refl base w).grown (grownBy_sorted _) hb (fun k hk => by cases hk; exact hbg)⟩
    unfold OwnS
    rw [hl2]
    exact ownsRow_sorted hl2 hbg hg hn hm hs
theorem compact_mem (zs : List (List UInt8)) (x : List UInt8) : x ∈ Lib.compact zs ↔ x ∈ zs := by
  have h : ∀ m, m ≤ zs.length → (x ∈ Lib.compactUpTo zs.toArray m ↔ x ∈ zs.take m) := by
    intro m
    induction m with
    | zero => intro _; simp [Lib.compactUpTo]
    | succ m ih =>
      intro hm
      have ihm := ih (by omega)
      have e1 : zs.toArray[m]! = zs[m] := by simp [getElem!_pos, show m < zs.length by omega]
      rw [Lib.compactUpTo_succ, List.mem_append, ihm, List.take_succ_eq_append_getElem (by omega), List.mem_append, e1]
      cases hk : Lib.keeps zs.toArray m with
      | true => simp
      | false =>
        simp only [Bool.false_eq_true, if_false, List.not_mem_nil, or_false, List.mem_singleton]
        constructor
        · exact Or.inl
        · rintro (h | h)
          · exact h
          · subst h
            have : ¬ (m = 0 ∨ zs.toArray[m]! ≠ zs.toArray[m - 1]!) := by
              unfold Lib.keeps at hk
              simpa using hk
            have h0 : m ≠ 0 := fun e => this (Or.inl e)
            have h1 : zs.toArray[m]! = zs.toArray[m - 1]! := Classical.not_not.1 fun e => this (Or.inr e)
            have e2 : zs.toArray[m - 1]! = zs[m - 1] := by simp [getElem!_pos, show m - 1 < zs.length by omega]
            rw [e1, e2] at h1
            rw [h1]
            have hlt : m - 1 < (zs.take m).length := by rw [List.length_take]; omega
            have : (zs.take m)[m - 1] = zs[m - 1] := by simp
            rw [← this]
            exact List.getElem_mem hlt
  have := h zs.length (Nat.le_refl _)
  rwa [List.take_length] at this
theorem strsOf_eq (L : List (List UInt8)) : Lib.strsOf (fun i => bs (L.getD i [])) L.length = L := by
  apply List.ext_getElem
  · simp [Lib.strsOf]
  · intro i h1 h2
    simp [Lib.strsOf, bs_data, List.getD_eq_getElem?_getD, List.getElem?_eq_getElem h2]
theorem compact_one (x : List UInt8) : Lib.compact [x] = [x] := Lib.compact_all _ (fun j hj => Lib.keeps_lt_one _ j (by simpa using hj))
theorem keep_setCells (b : Nat) : ∀ (vs : List Value) (o : Nat) (w : World), Keep (· ≠ b) w (w.setCells b o vs)
  | [], _, _ => Keep.refl _ _
  | v :: vs, o, w => ((Keep.refl _ w).setCell (fun _ h => h) o v).trans (keep_setCells b vs (o + 1) _)
theorem own_compact (base : Nat) (a : Option Addr) (c : Nat) (L : List (List UInt8)) (w : World) (hO : OwnS w base a c L) (hb : base ≤ w.heap.size) (hl : L.length ≤ 1099511627776) :
    Calls Tryz.prog 66 #[.slice a L.length c] w fun e w' => e = .returned (.slice a (Lib.compact L).length c) ∧ Strs w' a (Lib.compact L) ∧ Below base w w' := by
  rcases hO.2 with ⟨h1, h2⟩ | ⟨g, c', cur, h1, hbg, hg, hn, hm, hs, ht⟩
  · have h0 : L = [] := List.eq_nil_of_length_eq_zero h2
    subst h0
    refine (Tryz.slices_Compact_string_empty a c w).mono ?_
    rintro e w' ⟨he, rfl⟩
    exact ⟨he, Or.inl rfl, Below.refl _ _⟩
  · obtain ⟨rfl, rfl⟩ : a = some ⟨g, 0, none⟩ ∧ c = c' := by cases h1; exact ⟨rfl, rfl⟩
    have hgl : g < w.heap.size := (Array.getElem?_eq_some_iff.1 hg).1
    have hc : ∀ i, i < L.length → w.cell? ⟨g, 0 + i, none⟩ = some (.string (bs (L.getD i []))) := by
      intro i hi
      have h := (hO.strs.1).at0 i hi
      rwa [Nat.zero_add]
    refine (Tryz.slices_Compact_string_cells g 0 L.length c (fun i => bs (L.getD i [])) w (by omega) hn hc (fun j _ => by simp [World.frozen?, hg])).mono ?_
    rintro e w' ⟨he, q, hw⟩
    rw [strsOf_eq] at he hw
    subst hw
    have hcl : (Lib.compact L).length ≤ L.length := by
      unfold Lib.compact Lib.compactUpTo
      rw [List.length_map]
      exact Nat.le_trans (List.length_filter_le _ _) (by simp)
    have hkp : Keep (· ≠ g) w ((w.drewN q).setCells g 0 ((Lib.compact L ++ List.replicate (L.length - (Lib.compact L).length) []).map encStr)) := ((Keep.refl _ w).drewN q).trans (keep_setCells g _ _ _)
    refine ⟨he, ?_, ?_⟩
    · refine Or.inr ⟨g, 0, rfl, Nat.lt_of_lt_of_le hgl hkp.size, fun i hi => ?_⟩
      have hlen : ((Lib.compact L ++ List.replicate (L.length - (Lib.compact L).length) []).map encStr).length = L.length := by simp; omega
      have h := World.cell?_setCells_in g ((Lib.compact L ++ List.replicate (L.length - (Lib.compact L).length) []).map encStr) 0 (w.drewN q) (fun j hj => by
        rw [hlen] at hj
        have := hc j hj
        show (w.cell? _).isSome = true
        rw [this]; rfl) i (by rw [hlen]; omega)
      have e : (Lib.compact L).getD i [] = (Lib.compact L)[i] := by simp [List.getD_eq_getElem?_getD, List.getElem?_eq_getElem hi]
      rw [h, List.getElem_map, List.getElem_append_left hi, e]
      rfl
    · exact ⟨hkp.os, hkp.tape, hkp.output, hkp.size, fun k hk => by
        rcases Nat.lt_or_ge k w.heap.size with h | h
        · exact hkp.block k h (by omega)
        · omega⟩
end Go.Proofs.YtnclibfhbngkjaaGreatDoor
