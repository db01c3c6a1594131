/- farrierlaw13.alive: the document's example. -/
import Derived.Test.YtedfpoidggpkdaaDoorRef13
namespace Go.Proofs.YtedfpoidggpkdaaDoor
open Go.RowKit
def exS : Bs := [117, 110, 105, 116, 32, 119, 101, 98, 10, 102, 105, 108, 101, 32, 47, 98, 105, 110, 47, 119, 101, 98, 10, 97, 102, 116, 101, 114, 32, 100, 98, 10, 114, 101, 113, 117, 105, 114, 101, 115, 32, 100, 98, 10, 35, 32, 109, 111, 114, 101, 10, 114, 101, 116, 114, 121, 32, 50, 10]
def exT : Bs := [117, 110, 105, 116, 32, 119, 101, 98, 10, 102, 105, 108, 101, 32, 98, 105, 110, 10]
def exU : UnitD := ⟨[119, 101, 98], [[47, 98, 105, 110, 47, 119, 101, 98]], [[100, 98]], [], [[100, 98]], [], [], 2⟩
theorem exS_parse : parseU exS = (exU, 0, 0) := by kernel_rfl
theorem exT_parse : (parseU exT).2 = (14, 2) := by kernel_rfl
theorem exU_text : textU exU = [117, 110, 105, 116, 32, 119, 101, 98, 10, 102, 105, 108, 101, 32, 47, 98, 105, 110, 47, 119, 101, 98, 10, 97, 102, 116, 101, 114, 32, 100, 98, 10, 114, 101, 113, 117, 105, 114, 101, 115, 32, 100, 98, 10, 114, 101, 116, 114, 121, 32, 50, 10] := by kernel_rfl
theorem ParsU.strs {o : UnitD × Nat × Nat} {w : World} {e : Ending} {w' : World} (h : ParsU o w e w') : ∃ A C, e = .returned (.tuple #[unitV o.1 A C, .int .i64 (o.2.1 : Int), .int .i64 (o.2.2 : Int)]) ∧ UnitR w' o.1 A ∧ Ext w w' := by
  obtain ⟨A, C, h1, h2, h3⟩ := h
  exact ⟨A, C, h1, fun f a b => (h2 f a b).strs.1, h3⟩
theorem UnitR.ext {w w' : World} {u : UnitD} {A : Nat → Option Addr} (h : UnitR w u A) (k : Ext w w') : UnitR w' u A := fun f a b => (h f a b).ext k
set_option maxRecDepth 100000 in
set_option maxHeartbeats 1000000 in
theorem alive_13 (w : World) (hE : EnvN w) : Calls Tryd.prog 37 #[] w fun e w' => e = .returned (.bool true) ∧ Ext w w' := by
  obtain ⟨R, hR⟩ : ∃ R : Ending → World → Prop, R = fun e w' => e = .returned (.bool true) ∧ Ext w w' := ⟨_, rfl⟩
  rw [← hR]
  have HR := Lib.hid hR; clear hR
  have p1 := unit_parse exS (by decide) w hE
  rw [exS_parse] at p1
  have p2 := fun W (h : Ext w W) => unit_parse exT (by decide) W (hE.ext h)
  have P1 := Lib.hid p1; clear p1
  have P2 := Lib.hid p2; clear p2
  go_enter Tryd.func37, Tryd.ntmps37
  go_wp2_with fail
  refine P1.out.mono ?_
  intro e w1 hp
  obtain ⟨A, C, rfl, hA, hx1⟩ := hp.strs
  clear hp
  have hA5 := hA 4 (by omega) (by omega)
  have HX1 := Lib.hid hx1; clear hx1
  have HA := Lib.hid hA; clear hA
  unfold unitV
  go_wp2_with fail
  refine (P2.out _ (HX1.out.trans (Ext.alloc _ _))).mono ?_
  intro e w2 hp
  obtain ⟨A', C', rfl, hA', hx2⟩ := hp.strs
  clear hp
  have e1 : (parseU exT).2.1 = 14 := by rw [exT_parse]
  have e2 : (parseU exT).2.2 = 2 := by rw [exT_parse]
  rw [e1, e2]
  generalize (parseU exT).1 = y
  have hb := hx2.heap (heap_alloc_new w1 _)
  have d0 : w2.cell? ⟨w1.heap.size, 0, none⟩ = some (.string ⟨#[119, 101, 98]⟩) := blk_cell hb 0 _ rfl
  have d1 : w2.cell? ⟨w1.heap.size, 1, none⟩ = some (.slice (A 1) 1 (C 1)) := blk_cell hb 1 _ rfl
  have d2 : w2.cell? ⟨w1.heap.size, 2, none⟩ = some (.slice (A 2) 1 (C 2)) := blk_cell hb 2 _ rfl
  have d3 : w2.cell? ⟨w1.heap.size, 3, none⟩ = some (.slice (A 3) 0 (C 3)) := blk_cell hb 3 _ rfl
  have d4 : w2.cell? ⟨w1.heap.size, 4, none⟩ = some (.slice (A 4) 1 (C 4)) := blk_cell hb 4 _ rfl
  have d5 : w2.cell? ⟨w1.heap.size, 5, none⟩ = some (.slice (A 5) 0 (C 5)) := blk_cell hb 5 _ rfl
  have d6 : w2.cell? ⟨w1.heap.size, 6, none⟩ = some (.slice (A 6) 0 (C 6)) := blk_cell hb 6 _ rfl
  have d7 : w2.cell? ⟨w1.heap.size, 7, none⟩ = some (.int .i64 2) := blk_cell hb 7 _ rfl
  clear hb
  have hs := hx2.size
  rw [World.size_alloc] at hs
  have hlt : w1.heap.size < w2.heap.size := by omega
  obtain ⟨g, off, hga, hgl, hgc⟩ := hA5.at (by intro e; cases e)
  have hg0 : w2.cell? ⟨g, off, none⟩ = some (.string ⟨#[100, 98]⟩) := hx2.cell ((Ext.alloc _ _).cell (hgc 0 (by decide)))
  have hgl2 : g < w2.heap.size := by omega
  clear hgc hA5
  have HXX := Lib.hid (HX1.out.trans ((Ext.alloc _ _).trans hx2))
  have HA2 := Lib.hid (HA.out.ext ((Ext.alloc _ _).trans hx2))
  have htx := fun W (k : Ext w W) (h : UnitR W exU A) => unit_text exU A C W (hE.ext k) h (by rw [exU_text]; decide) (by decide)
  have hval : unitV exU A C = .agg #[.string ⟨#[119, 101, 98]⟩, .slice (A 1) 1 (C 1), .slice (A 2) 1 (C 2), .slice (A 3) 0 (C 3), .slice (some ⟨g, off, none⟩) 1 (C 4), .slice (A 5) 0 (C 5), .slice (A 6) 0 (C 6), .int .i64 2] := by
    unfold unitV; rw [hga]; rfl
  rw [hval] at htx
  obtain ⟨T, hT⟩ : ∃ T, T = textU exU := ⟨_, rfl⟩
  rw [← hT] at htx
  have hq : ((bs T).toList == [117, 110, 105, 116, 32, 119, 101, 98, 10, 102, 105, 108, 101, 32, 47, 98, 105, 110, 47, 119, 101, 98, 10, 97, 102, 116, 101, 114, 32, 100, 98, 10, 114, 101, 113, 117, 105, 114, 101, 115, 32, 100, 98, 10, 114, 101, 116, 114, 121, 32, 50, 10]) = true := word_eq (by rw [hT]; exact exU_text)
  clear hT hval
  have HTX := Lib.hid htx; clear htx
  clear hs hA' hx2
  unfold unitV
  go_wp2_with (go_at_call 42; refine (HTX.out _ (HXX.out.trans (Ext.alloc _ _)) (HA2.out.ext (Ext.alloc _ _))).mono ?_; rintro e w3 ⟨rfl, hx3⟩; have hx3 := Lib.hid hx3)
  rw [HR.out]
  exact ⟨rfl, HXX.out.trans ((Ext.alloc _ _).trans hx3.out)⟩
end Go.Proofs.YtedfpoidggpkdaaDoor
