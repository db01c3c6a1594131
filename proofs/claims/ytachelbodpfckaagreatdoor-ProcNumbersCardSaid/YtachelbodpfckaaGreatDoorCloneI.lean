/- slices.Clone of numbers. -/
import Derived.Test.YtachelbodpfckaaGreatDoorM4
namespace Go.Proofs.YtachelbodpfckaaGreatDoor
open Go.RowKit
theorem OwnIs.runI {w : World} {base : Nat} {a : Option Addr} {c : Nat} {X : List Int} (h : OwnIs w base a c X) : RunM w a (intV X) := by
 obtain ⟨a', c', hv, _, hr, _⟩ := run_of_row h
 cases hv
 exact hr
def CloneI (l : List Int) (w : World) (e : Ending) (w' : World) : Prop := ∃ a c, e = .returned (.slice a l.length c) ∧ OwnIs w' w.heap.size a c l ∧ Ext w w'
set_option maxRecDepth 100000 in
set_option maxHeartbeats 1600000 in
theorem clone_i (a : Option Addr) (c : Nat) (l : List Int) (w : World) (hB : RunM w a (intV l)) (hl : l.length ≤ 100000) :
 Calls Tryz.prog 44 #[.slice a l.length c] w (CloneI l w) := by
 have h : RunM w a (intV l) := hB
 have hn : (intV l).length = l.length * 1 := by simp [intV]
 have h1 : ∀ u ∈ intV l, u.oneCell' = true := intV_one l
 obtain ⟨n, hnn⟩ : ∃ n, n = l.length := ⟨_, rfl⟩
 rw [← hnn] at hn hl ⊢
 have HNN := Lib.hid hnn; clear hnn
 obtain ⟨us, hus⟩ : ∃ us, us = intV l := ⟨_, rfl⟩
 rw [← hus] at h hn h1
 have HUS := Lib.hid hus; clear hus hB
 obtain ⟨R, hR⟩ : ∃ R, R = CloneI l w := ⟨_, rfl⟩
 rw [← hR]
 have HR := Lib.hid hR; clear hR
 have q24 : ∀ (w : World) (a : Option Addr) (n c n' c' : Nat), (binOp .eql 22 (.slice a n c) (.slice none n' c')).run Tryz.prog w = .ok (.bool a.isNone) w := fun w a n c n' c' => Lib.run_eql_slice_nil w _ _ a n c n' c' Tryz.underlying22
 have HH := Lib.hid h; clear h
 have HN := Lib.hid hn; clear hn
 cases a with
 | none =>
   go_enter Tryz.func44, Tryz.ntmps44
   go_wp2
   rw [HR.out]
   have hn0 : us = [] := by
    rcases HH.out with h | ⟨_, _, ha, _⟩
    · exact h
    · cases ha
   have hz : n = 0 := by have := HN.out; rw [hn0] at this; simp at this; omega
   subst hz
   have hl0 : l = [] := by have := HUS.out; rw [hn0] at this; simpa [intV] using this.symm
   subst hl0
   exact ⟨none, 0, rfl, OwnIs.none _ _, Ext.refl _⟩
 | some ad =>
   obtain ⟨i0, hi, hz, hsz, hby⟩ := info_parts info_intL
   have HI := Lib.hid hi; clear hi
   have HZ := Lib.hid hz; clear hz
   have HS := Lib.hid hsz; clear hsz
   have HB := Lib.hid hby; clear hby
   have hpl := (HH.out.ext (Ext.alloc w (.cells #[] 3))).plain
   have HP := Lib.hid hpl; clear hpl
   go_enter Tryz.func44, Tryz.ntmps44
   go_wp2_with (at_builtin; (refine wpList_append_own _ rfl _ _ 22 rfl w.heap.size 3 i0 (.int .i64 0) 1 8 Tryz.underlying22 HI.out HZ.out HS.out HB.out rfl (by decide) (.slice (some ⟨w.heap.size, 0, none⟩) 0 0) 0 [] rfl (World.ownsRow_made w #[] 0 (Nat.le_refl _) (Nat.zero_le _) rfl) ad n c us rfl HN.out HP.out h1 (by unfold maxLen; omega) (by omega) (by simp) ?_); intro v' w1 hown hgrow hnil)
   simp only [Nat.zero_add, List.nil_append] at hown
   rw [HUS.out] at hown
   obtain ⟨a', c', rfl, hc', hrun, hfr⟩ := run_of_row hown
   have HX := Lib.hid (((Below.refl _ w).alloc (Nat.le_refl _) _).grown hgrow (by simp) (by intro k hk; simp [Value.ownBlock] at hk; omega))
   rw [HR.out]
   have hnn := HNN.out
   subst hnn
   exact ⟨a', c', rfl, hown, HX.out⟩
end Go.Proofs.YtachelbodpfckaaGreatDoor
