/- unit.add: a text more on a list. -/
import Derived.Test.YtedfpoidggpkdaaDoorRowApp
import Derived.Test.YtedfpoidggpkdaaDoorUnitSpec
namespace Go.Proofs.YtedfpoidggpkdaaDoor
open Go.RowKit
/-- A list, behind which a text was laid. -/
structure Added (B f base : Nat) (a : Option Addr) (c : Nat) (L : List Bs) (s : Bs) (w : World) (e : Ending) (w' : World) : Prop where
  ret : e = .returned (.int .i64 0)
  mem : ∃ g c' w1, OwnS w1 base (some ⟨g, 0, none⟩) c' (L ++ [s]) ∧ Keep (fun k => some k ≠ (Value.slice a L.length c).ownBlock) w w1 ∧ Below base w w1 ∧ ((Value.slice a L.length c).ownBlock = some g ∨ w.heap.size ≤ g) ∧ w1.setCell ⟨B, f, none⟩ (.slice (some ⟨g, 0, none⟩) (L.length + 1) c') = w'
theorem take_mem {L : List Bs} {k : Nat} {s : Bs} (hk : k < L.length) (h0 : s ∉ L.take k) (h : L.getD k [] ≠ s) : s ∉ L.take (k + 1) := by
  rw [List.take_succ_eq_append_getElem hk]
  intro hm
  rcases List.mem_append.1 hm with hm | hm
  · exact h0 hm
  · simp at hm
    apply h
    rw [List.getD_eq_getElem?_getD, List.getElem?_eq_getElem hk]
    exact hm.symm
set_option maxHeartbeats 800000 in
theorem unit_add (B f base : Nat) (a : Option Addr) (c : Nat) (L : List Bs) (s : Bs) (w : World) (hcell : w.cell? ⟨B, f, none⟩ = some (.slice a L.length c)) (hfree : w.frozen? ⟨B, f, none⟩ = false) (hown : OwnS w base a c L) (hB : B < base) (hbase : base ≤ w.heap.size) (hL : L.length ≤ 8) :
    Calls Tryd.prog 83 #[.pointer (some ⟨B, f, none⟩), .string (bs s)] w fun e w' =>
      if s ∈ L then e = .returned (.int .i64 9) ∧ w = w' else if L.length = 8 then e = .returned (.int .i64 22) ∧ w = w' else Added B f base a c L s w e w' := by
  obtain ⟨R, hR⟩ : ∃ R : Ending → World → Prop, R = fun e w' => if s ∈ L then e = .returned (.int .i64 9) ∧ w = w' else if L.length = 8 then e = .returned (.int .i64 22) ∧ w = w' else Added B f base a c L s w e w' := ⟨_, rfl⟩
  rw [← hR]
  have HR := Lib.hid hR; clear hR
  have HO := Lib.hid hown; clear hown
  go_enter Tryd.func83, Tryd.ntmps83
  go_wp2_with fail
  go_loop [11] (fun i => ∃ k : Nat, i = .int .i64 k ∧ k ≤ L.length ∧ Hid (s ∉ L.take k)) (fun i => L.length - (intOf i).toNat)
  case atStart => exact ⟨0, rfl, Nat.zero_le _, Lib.hid (by simp)⟩
  case round =>
    obtain ⟨k, rfl, hk, hno⟩ := hrel
    by_cases hlt : k < L.length
    · obtain ⟨g, off, rfl, _, hc⟩ := HO.out.strs.1.at (by intro e; rw [e] at hlt; simp at hlt)
      have h1 := hc k hlt
      clear hc
      obtain ⟨p, hp⟩ : ∃ p, p = L.getD k [] := ⟨_, rfl⟩
      rw [← hp] at h1
      have HP := Lib.hid hp; clear hp
      by_cases hps : p = s
      · have hm : s ∈ L := by rw [← hps, HP.out]; exact (by rw [List.getD_eq_getElem?_getD, List.getElem?_eq_getElem hlt]; simp)
        have HM := Lib.hid hm; clear hm
        have hq := bs_beq_eq hps
        clear hps
        go_wp2_with fail
        rw [HR.out]
        simp only
        rw [if_pos HM.out]
        simp
      · have hq := bs_beq_ne hps
        have HN := Lib.hid (take_mem hlt hno.out (by rw [← HP.out]; exact hps))
        clear hps
        go_wp2_with fail
        go_round
        case rel => exact ⟨k + 1, by go_num, by omega, HN⟩
        case measure => simp [intOf]; omega
    · have hkk : k = L.length := by omega
      have hn := hno.out
      rw [hkk, List.take_length] at hn
      have HN := Lib.hid hn; clear hn hkk
      by_cases h8 : L.length = 8
      · have h8b : ((L.length : Int) == 8) = true := by rw [h8]; rfl
        have H8 := Lib.hid h8; clear h8
        go_wp2_with fail
        rw [HR.out]
        simp only
        rw [if_neg HN.out, if_pos H8.out]
        simp
      · have h8b : ((L.length : Int) == 8) = false := by rw [beq_eq_false_iff_ne]; omega
        have H8 := Lib.hid h8; clear h8
        go_wp2_with (at_builtin; refine append_big rfl _ _ 23 9 (.string ⟨#[]⟩) 1 16 rfl Tryd.underlying23 info_string rfl (by decide) base a L.length c _ rfl (ownsRow_ext HO.out (Ext.alloc _ _)) w.heap.size 1 1 [.string (bs s)] _ _ rfl (by simp) (heap_alloc_new w _) (by simp [Value.oneCell']) (by omega) (by omega) (by decide) ?_ (L.length + 1) rfl ?_; (simp; omega); intro g1 cap1 w3 hown3 hk3 hb3 hat3; have e3 := (Keep.of_below hb3).cell (g := B) hB ((Ext.alloc w _).cell hcell); have f3 : w3.frozen? ⟨B, f, none⟩ = false := (hb3.frozen (p := ⟨B, f, none⟩) hB).trans (((Ext.alloc w _).frozen (p := ⟨B, f, none⟩) (Nat.lt_of_lt_of_le hB hbase)).trans hfree); have O3 := Lib.hid hown3; clear hown3)
        rw [HR.out]
        simp only
        rw [if_neg HN.out, if_neg H8.out]
        refine ⟨rfl, g1, cap1, w3, ?_, hk3.of_alloc, Below.trans ((Below.refl _ _).alloc hbase _) hb3, ?_, rfl⟩
        · have := O3.out
          unfold OwnS
          rw [List.length_append, List.map_append]
          exact this
        · rcases hat3 with h | h
          · exact Or.inl h
          · exact Or.inr (by rw [h]; simp)
end Go.Proofs.YtedfpoidggpkdaaDoor
