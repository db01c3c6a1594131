/- slices.Clone of bytes. -/
import Derived.Test.YtldgpcmnmegioaaGreatDoorRuns
import Derived.Test.YtldgpcmnmegioaaGreatDoorTreeMem
import Derived.Test.YtldgpcmnmegioaaGreatDoorM3
import Derived.Shelf.SlicesE.Clone
import Derived.Deep.AppendLies
namespace Go.Proofs.YtldgpcmnmegioaaGreatDoor
open Go.RowKit
theorem info_byte1 : (Tryz.prog.info? 5).map (fun i => (i.zero, i.size, i.bytes)) = some (some (.int .u8 0), 1, 1) := by kernel_rfl
/-- A row of bytes is bytes in a block of bytes. -/
theorem DataM.of_row {w : World} {base n : Nat} {v : Value} {l : By} (h : w.ownsRow base 5 1 v n (byteV l)) : ∃ a c, v = .slice a n c ∧ n ≤ c ∧ DataM w a l ∧ Fresh base a := by
  obtain ⟨a, c, hv, hn, _, hf⟩ := run_of_row h
  refine ⟨a, c, hv, hn, ?_, hf⟩
  have hl := h.1
  rcases h.2 with ⟨h1, h2⟩ | ⟨g, c', cur, h1, _, hg, hn, hm, hs, ht⟩
  · left
    rw [h2] at hl
    simpa [byteV] using hl
  · rw [h1] at hv
    cases hv
    refine Or.inr ⟨g, 0, cur, (0, 0), rfl, hg, fun j u hj => ?_⟩
    rw [← ht, List.getElem?_take] at hj
    rw [Nat.zero_add]
    split at hj
    · exact blk_cell hg _ _ (by simpa using hj)
    · cases hj
theorem byteV_one (l : By) : ∀ u ∈ byteV l, u.oneCell' = true := by
  intro u hu
  obtain ⟨b, _, rfl⟩ := List.mem_map.1 hu
  rfl
theorem Bytes.run {w : World} {a : Option Addr} {l : By} (h : Bytes w a l) : RunM w a (byteV l) := by
  rcases h.row with h | ⟨g, off, ha, hg, _, hc⟩
  · exact Or.inl h
  · exact Or.inr ⟨g, off, ha, hg, fun j u hj => by rw [hc j (List.getElem?_eq_some_iff.1 hj).1, hj]⟩
def CloneY (l : By) (w : World) (e : Ending) (w' : World) : Prop := ∃ a c, e = .returned (.slice a l.length c) ∧ l.length ≤ c ∧ DataM w' a l ∧ Fresh w.heap.size a ∧ Ext w w'
set_option maxRecDepth 100000 in
set_option maxHeartbeats 1600000 in
theorem clone_y (a : Option Addr) (c : Nat) (l : By) (w : World) (hB : Bytes w a l) (hl : l.length ≤ 100000) :
    Calls Tryz.prog 51 #[.slice a l.length c] w (CloneY l w) := by
  have h : RunM w a (byteV l) := hB.run
  have hn : (byteV l).length = l.length * 1 := by simp [byteV]
  have h1 : ∀ u ∈ byteV l, u.oneCell' = true := byteV_one l
  obtain ⟨n, hnn⟩ : ∃ n, n = l.length := ⟨_, rfl⟩
  rw [← hnn] at hn hl ⊢
  have HNN := Lib.hid hnn; clear hnn
  obtain ⟨us, hus⟩ : ∃ us, us = byteV l := ⟨_, rfl⟩
  rw [← hus] at h hn h1
  have HUS := Lib.hid hus; clear hus hB
  obtain ⟨R, hR⟩ : ∃ R, R = CloneY l w := ⟨_, rfl⟩
  rw [← hR]
  have HR := Lib.hid hR; clear hR
  have q24 : ∀ (w : World) (a : Option Addr) (n c n' c' : Nat), (binOp .eql 36 (.slice a n c) (.slice none n' c')).run Tryz.prog w = .ok (.bool a.isNone) w := fun w a n c n' c' => Lib.run_eql_slice_nil w _ _ a n c n' c' Tryz.underlying36
  have HH := Lib.hid h; clear h
  have HN := Lib.hid hn; clear hn
  cases a with
  | none =>
    go_enter Tryz.func51, Tryz.ntmps51
    go_wp2
    rw [HR.out]
    have hn0 : us = [] := by
      rcases HH.out with h | ⟨_, _, ha, _⟩
      · exact h
      · cases ha
    have hz : n = 0 := by have := HN.out; rw [hn0] at this; simp at this; omega
    subst hz
    have hl0 : l = [] := by have := HUS.out; rw [hn0] at this; simpa [byteV] using this.symm
    subst hl0
    exact ⟨none, 0, rfl, Nat.le_refl _, Or.inl rfl, fun ad h => (by cases h), Ext.refl _⟩
  | some ad =>
    obtain ⟨i0, hi, hz, hsz, hby⟩ := info_parts info_byte1
    have HI := Lib.hid hi; clear hi
    have HZ := Lib.hid hz; clear hz
    have HS := Lib.hid hsz; clear hsz
    have HB := Lib.hid hby; clear hby
    have hpl := (HH.out.ext (Ext.alloc w (.cells #[] 5))).plain
    have HP := Lib.hid hpl; clear hpl
    go_enter Tryz.func51, Tryz.ntmps51
    go_wp2_with (at_builtin; (refine wpList_append_own _ rfl _ _ 36 rfl w.heap.size 5 i0 (.int .u8 0) 1 1 Tryz.underlying36 HI.out HZ.out HS.out HB.out rfl (by decide) (.slice (some ⟨w.heap.size, 0, none⟩) 0 0) 0 [] rfl (World.ownsRow_made w #[] 0 (Nat.le_refl _) (Nat.zero_le _) rfl) ad n c us rfl HN.out HP.out h1 (by unfold maxLen; omega) (by omega) (by simp) ?_); intro v' w1 hown hgrow hnil)
    simp only [Nat.zero_add, List.nil_append] at hown
    rw [HUS.out] at hown
    obtain ⟨a', c', rfl, hc', hrun, hfr⟩ := DataM.of_row hown
    have HX := Lib.hid (((Below.refl _ w).alloc (Nat.le_refl _) _).grown hgrow (by simp) (by intro k hk; simp [Value.ownBlock] at hk; omega))
    rw [HR.out]
    have hnn := HNN.out
    subst hnn
    exact ⟨a', c', rfl, hc', hrun, hfr, HX.out⟩
end Go.Proofs.YtldgpcmnmegioaaGreatDoor
