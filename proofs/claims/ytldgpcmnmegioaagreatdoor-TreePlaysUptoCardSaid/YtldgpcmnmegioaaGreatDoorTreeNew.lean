/- tree.New. -/
import Derived.Test.YtldgpcmnmegioaaGreatDoorTreeOps
namespace Go.Proofs.YtldgpcmnmegioaaGreatDoor
open Go.RowKit
def NewR (q : Int) (w : World) (e : Ending) (w' : World) : Prop := ∃ tb mb A, e = .returned (.pointer (some ⟨tb, 0, none⟩)) ∧ TreeM w' w.heap.size tb mb 1 (newT q) A ∧ Ext w w'
set_option maxRecDepth 100000 in
theorem tree_New (q : Int) (w : World) : Calls Tryz.prog 7 #[.int .i64 q] w (NewR q w) := by
  obtain ⟨R, hR⟩ : ∃ R, R = NewR q w := ⟨_, rfl⟩
  rw [← hR]
  have HR := Lib.hid hR; clear hR
  have hmk := @run_makeMap Tryz.prog
  obtain ⟨w3, hw3⟩ : ∃ x, x = ((w.alloc (.map #[] 0)).alloc (.map #[] 0)).alloc (.cells #[.bool true, .int .i64 1, .slice none 0 0, .map (some (w.heap.size + 1))] 71) := ⟨_, rfl⟩
  have hx3 : Ext w w3 := by rw [hw3]; exact ((Ext.alloc _ _).trans (Ext.alloc _ _)).trans (Ext.alloc _ _)
  have hm3 : MapF keyI w3 3 w.heap.size 0 (fun _ => none) := by rw [hw3]; exact (MapF.made keyI w 3).ext ((Ext.alloc _ _).trans (Ext.alloc _ _))
  have hn3 : MapF keyS w3 9 (w.heap.size + 1) 0 (fun _ => none) := by
    have h := (MapF.made keyS (w.alloc (.map #[] 0)) 9).ext (Ext.alloc _ (.cells #[.bool true, .int .i64 1, .slice none 0 0, .map (some (w.heap.size + 1))] 71))
    rw [World.size_alloc] at h
    rw [hw3]; exact h
  have hb3 : w3.heap[w.heap.size + 1 + 1]? = some (.cells #[.bool true, .int .i64 1, .slice none 0 0, .map (some (w.heap.size + 1))] 71 (0, 0)) := by
    have h := heap_alloc_new ((w.alloc (.map #[] 0)).alloc (.map #[] 0)) (.cells #[.bool true, .int .i64 1, .slice none 0 0, .map (some (w.heap.size + 1))] 71)
    rw [World.size_alloc, World.size_alloc] at h
    rw [hw3]; exact h
  have hs3 : w3.heap.size = w.heap.size + 3 := by rw [hw3, World.size_alloc, World.size_alloc, World.size_alloc]
  obtain ⟨w4, hrun, hm4, hk4⟩ := hm3.store (t := 72) int_keyedA Tryz.underlying72 (by decide) keyI_inj (.pointer (some ⟨w.heap.size + 1 + 1, 0, none⟩)) (key_int (i := 1) (by omega) (by omega))
  obtain ⟨es, cl, hbm⟩ := hm3.block
  have hn4 := hn3.keep hk4 (show w.heap.size + 1 ≠ w.heap.size by omega)
  have hb4 := hk4.heap (show w.heap.size + 1 + 1 ≠ w.heap.size by omega) hb3
  have hx4 : Ext w w4 := ((Keep.of_ext (S := fun j => j < w.heap.size) hx3).andThen hk4 (fun j _ (hj : j < w.heap.size) => by show j ≠ w.heap.size; omega)).ext_lt
  have hs4 := hk4.size
  rw [hw3] at hrun
  have HALL := Lib.hid (And.intro hm4 (And.intro hn4 (And.intro hb4 (And.intro hx4 hs4))))
  clear hm3 hn3 hb3 hx3 hm4 hk4 hn4 hb4 hx4 hbm hs4
  have HS3 := Lib.hid hs3; clear hs3 hw3
  go_enter Tryz.func7, Tryz.ntmps7
  go_wp2_with fail
  rw [HR.out]
  obtain ⟨hm4, hn4, hb4, hx4, hs4⟩ := HALL.out
  have hs3 := HS3.out
  refine ⟨w4.heap.size, w.heap.size, fun _ => ⟨w.heap.size + 1 + 1, none, 0, some (w.heap.size + 1)⟩, rfl, ?_, hx4.trans (Ext.alloc _ _)⟩
  have hxa := Ext.alloc w4 (.cells #[.map (some w.heap.size), .int .i64 2, .int .i64 (max 0 q)] 74)
  refine ⟨?_, (hm4.ext hxa).same ?_, fun i hi => ⟨hxa.heap hb4, Or.inl rfl, Nat.le_refl _, Or.inr ⟨_, rfl, ((hn4.ext hxa).mono (Nat.zero_le _)).same rfl⟩⟩, fun i hi j hj _ => ?_, fun i hi j hj b _ _ => ?_, fun i hi e => ?_, fun i hi _ => ⟨_, rfl⟩, by omega, Nat.le_refl _, fun i hi => ⟨by show w.heap.size ≤ w.heap.size + 1 + 1; omega, fun b hb => by have := Option.some.inj hb; omega⟩⟩
  · exact heap_alloc_new w4 _
  · funext i
    unfold nodeF newT
    simp
  · simp only [newT, List.mem_singleton] at hi hj; rw [hi, hj]
  · simp only [newT, List.mem_singleton] at hi hj; rw [hi, hj]
  · have := Option.some.inj e; omega
end Go.Proofs.YtldgpcmnmegioaaGreatDoor
