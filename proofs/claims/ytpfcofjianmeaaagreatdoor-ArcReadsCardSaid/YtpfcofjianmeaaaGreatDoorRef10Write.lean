/- farrierref10.Write, Same: the document's bytes with their sum. -/
import Derived.Test.YtpfcofjianmeaaaGreatDoorRef10Pack
import Derived.Test.YtpfcofjianmeaaaGreatDoorRef02
import Derived.Outline
namespace Go.Proofs.YtpfcofjianmeaaaGreatDoor
open Go.RowKit
attribute [local go_sem] cvOp_eq
theorem upon_text {o : Oper} {a : Act} {Q : Exit → Act → World → Prop} {W : World} {K : Act → World → Prop} {f : Value → World → Result Next} (ad : Option Addr) (c : Nat) (l : List UInt8) (hb : Bytes W ad l)
    (h : Oper.upon Tryz.prog o a K Q ((Result.ok (.string (bs l)) W).andThen f)) :
    Oper.upon Tryz.prog o a K Q ((Sem.run Tryz.prog (convert 34 9 (.slice ad l.length c)) W).andThen f) := by
  rw [show Sem.run Tryz.prog (convert 34 9 (.slice ad l.length c)) W = .ok (.string (bs l)) W from conv_text hb]
  exact h
theorem OwnB.new0 (w : World) : OwnB (w.alloc (.cells #[] 5)) w.heap.size (some ⟨w.heap.size, 0, none⟩) 0 [] :=
  ⟨rfl, Or.inr ⟨w.heap.size, 0, #[], rfl, Nat.le_refl _, heap_alloc_new w _, Nat.le_refl _, by unfold maxLen; omega, rfl, rfl⟩⟩
set_option maxRecDepth 100000 in
set_option maxHeartbeats 3200000 in
theorem write10 (p : PkgD) (an ac af au : Option Addr) (cn cc cf cu : Nat) (w : World) (hM : PkgM w p ⟨an, ac, af, au, cn, cc, cf, cu⟩) (hS : FitP p) (hW : ∀ n ∈ p.needs, 0 ≤ n.way ∧ n.way < 4294967296) (hl : (packP p).length ≤ 50000) :
    Calls Tryz.prog 12 #[.agg #[.string (bs p.name), .string (bs p.ver), .slice an p.needs.length cn, .slice ac p.conf.length cc, .slice af p.files.length cf, .slice au p.units.length cu]] w (PackR (writeP p) w) := by
  obtain ⟨R, hR⟩ : ∃ R, R = PackR (writeP p) w := ⟨_, rfl⟩
  rw [← hR]
  have HR := Lib.hid hR; clear hR
  have hpk := fun W hM => pack10 p an ac af au cn cc cf cu W hM hS hW
  have HPK := Lib.hid hpk; clear hpk hS hW
  have HM := Lib.hid hM; clear hM
  have hbx := heap_alloc_new w (.cells #[.string (bs p.name), .string (bs p.ver), .slice an p.needs.length cn, .slice ac p.conf.length cc, .slice af p.files.length cf, .slice au p.units.length cu] 32)
  have hx1 : Ext w (w.alloc (.cells #[.string (bs p.name), .string (bs p.ver), .slice an p.needs.length cn, .slice ac p.conf.length cc, .slice af p.files.length cf, .slice au p.units.length cu] 32)) := Ext.alloc _ _
  have HBX := Lib.hid hbx; clear hbx
  have HX1 := Lib.hid hx1; clear hx1
  go_enter Tryz.func12, Tryz.ntmps12
  go_upto_region 1 with (fail)
  generalize w.alloc (.cells #[.string (bs p.name), .string (bs p.ver), .slice an p.needs.length cn, .slice ac p.conf.length cc, .slice af p.files.length cf, .slice au p.units.length cu] 32) = w1 at HBX HX1 ⊢
  obtain ⟨B, hB⟩ : ∃ B, B = w.heap.size := ⟨_, rfl⟩
  rw [← hB] at HBX ⊢
  clear hB
  have d0 := blk_cell HBX.out 0 _ rfl
  have d1 := blk_cell HBX.out 1 _ rfl
  have d2 := blk_cell HBX.out 2 _ rfl
  have d3 := blk_cell HBX.out 3 _ rfl
  have d4 := blk_cell HBX.out 4 _ rfl
  have d5 := blk_cell HBX.out 5 _ rfl
  obtain ⟨l, hll⟩ : ∃ l, l = packP p := ⟨_, rfl⟩
  obtain ⟨n, hn⟩ : ∃ n, n = l.length := ⟨_, rfl⟩
  have hn50 : n ≤ 50000 := by rw [hn, hll]; exact hl
  clear hl
  rw [← hll] at HPK
  obtain ⟨s, hs⟩ : ∃ s, s = (crcL l).toNat := ⟨_, rfl⟩
  have hs32 : s < 4294967296 := by rw [hs]; exact (crcL l).isLt
  have hwp : writeP p = l ++ num4 s := by rw [hs, hll]; rfl
  have HWP := Lib.hid hwp; clear hwp hll
  have hsum := fun a c W hb => ref_sum a c l W hb (by omega)
  rw [← hs, ← hn] at hsum
  have HSUM := Lib.hid hsum; clear hsum hs
  have HN := Lib.hid hn; clear hn
  go_wp2_with (first
    | (go_at_call 48; refine (HPK.out _ (HM.out.ext HX1.out)).mono ?_; rintro e w2 ⟨a2, c2, rfl, hown, hx⟩; have HO2 := Lib.hid hown; have HX2 := Lib.hid (HX1.out.trans hx); rw [← HN.out]; clear hown hx d0 d1 d2 d3 d4 d5)
    | (at_builtin; first
      | (refine append_bytes rfl (.tmp 6) (.tmp 7) 34 rfl Tryz.underlying34 w2.heap.size (some ⟨w2.heap.size, 0, none⟩) 0 [] l 0 n rfl HN.out.symm rfl (OwnB.new0 w2) a2 c2 rfl (HO2.out.bytes.1.ext (Ext.alloc _ _)) (by omega) (by simp) ?_; intro a3 c3 w3 hown hb; have HO3 : Hid (OwnB w3 w2.heap.size a3 c3 l) := Lib.hid hown; have HX3 := Lib.hid (Ext.of_below' (Ext.alloc w2 _) hb); have HB3 := Lib.hid (HO2.out.bytes.1.ext HX3.out); clear hown hb)
      | (refine append_bytes rfl (.tmp 8) (.tmp 12) 34 rfl Tryz.underlying34 w2.heap.size a3 c3 l (num4 s) n 4 HN.out.symm rfl rfl (HO3.out.ext (HX4.out.trans HX5.out)) a5 c5 rfl HO5.out.bytes.1 (by omega) (Nat.le_trans HX3.out.size (Nat.le_trans HX4.out.size HX5.out.size)) ?_; intro a6 c6 w6 hown hb; have HO6 := Lib.hid hown; have HX6 := Lib.hid hb; clear hown hb))
    | (go_at_call 14; refine (HSUM.out a2 c2 _ HB3.out).mono ?_; rintro e w4 ⟨rfl, hx⟩; have HX4 := Lib.hid hx; clear hx)
    | (go_at_call 49; refine (num10 s hs32 _).mono ?_; rintro e w5 ⟨a5, c5, rfl, hown, hx⟩; have HO5 := Lib.hid hown; have HX5 := Lib.hid hx; rw [num4_len]; clear hown hx))
  rw [HR.out]
  refine ⟨a6, c6, ?_, ?_, ?_⟩
  · rw [HWP.out, List.length_append, ← HN.out, num4_len]; rfl
  · rw [HWP.out]; exact HO6.out.base HX2.out.size
  · exact HX2.out.trans (Ext.of_below' (HX3.out.trans (HX4.out.trans HX5.out)) HX6.out)
set_option maxRecDepth 100000 in
set_option maxHeartbeats 3200000 in
theorem same10 (p : PkgD) (an ac af au bn bc bf bu : Option Addr) (cn cc cf cu dn dc df du : Nat) (w : World) (hM : PkgM w p ⟨an, ac, af, au, cn, cc, cf, cu⟩) (hN : PkgM w p ⟨bn, bc, bf, bu, dn, dc, df, du⟩) (hS : FitP p) (hW : ∀ n ∈ p.needs, 0 ≤ n.way ∧ n.way < 4294967296) :
    Calls Tryz.prog 13 #[.agg #[.string (bs p.name), .string (bs p.ver), .slice an p.needs.length cn, .slice ac p.conf.length cc, .slice af p.files.length cf, .slice au p.units.length cu], .agg #[.string (bs p.name), .string (bs p.ver), .slice bn p.needs.length dn, .slice bc p.conf.length dc, .slice bf p.files.length df, .slice bu p.units.length du]] w fun e w' => e = .returned (.bool true) ∧ Ext w w' := by
  obtain ⟨R, hR⟩ : ∃ R : Ending → World → Prop, R = fun e w' => e = .returned (.bool true) ∧ Ext w w' := ⟨_, rfl⟩
  rw [← hR]
  have HR := Lib.hid hR; clear hR
  have hpk := fun W hM => pack10 p an ac af au cn cc cf cu W hM hS hW
  have hpl := fun W hM => pack10 p bn bc bf bu dn dc df du W hM hS hW
  have HPK := Lib.hid hpk; clear hpk
  have HPL := Lib.hid hpl; clear hpl hS hW
  have HM := Lib.hid hM; clear hM
  have HN := Lib.hid hN; clear hN
  have hbx := (Ext.alloc (w.alloc (.cells #[.string (bs p.name), .string (bs p.ver), .slice an p.needs.length cn, .slice ac p.conf.length cc, .slice af p.files.length cf, .slice au p.units.length cu] 32)) (.cells #[.string (bs p.name), .string (bs p.ver), .slice bn p.needs.length dn, .slice bc p.conf.length dc, .slice bf p.files.length df, .slice bu p.units.length du] 32)).heap (heap_alloc_new w (.cells #[.string (bs p.name), .string (bs p.ver), .slice an p.needs.length cn, .slice ac p.conf.length cc, .slice af p.files.length cf, .slice au p.units.length cu] 32))
  have hby := heap_alloc_new (w.alloc (.cells #[.string (bs p.name), .string (bs p.ver), .slice an p.needs.length cn, .slice ac p.conf.length cc, .slice af p.files.length cf, .slice au p.units.length cu] 32)) (.cells #[.string (bs p.name), .string (bs p.ver), .slice bn p.needs.length dn, .slice bc p.conf.length dc, .slice bf p.files.length df, .slice bu p.units.length du] 32)
  have hx1 : Ext w ((w.alloc (.cells #[.string (bs p.name), .string (bs p.ver), .slice an p.needs.length cn, .slice ac p.conf.length cc, .slice af p.files.length cf, .slice au p.units.length cu] 32)).alloc (.cells #[.string (bs p.name), .string (bs p.ver), .slice bn p.needs.length dn, .slice bc p.conf.length dc, .slice bf p.files.length df, .slice bu p.units.length du] 32)) := (Ext.alloc _ _).trans (Ext.alloc _ _)
  rw [World.size_alloc] at hby
  have HBX := Lib.hid hbx; clear hbx
  have HBY := Lib.hid hby; clear hby
  have HX1 := Lib.hid hx1; clear hx1
  go_enter Tryz.func13, Tryz.ntmps13
  go_upto_region 1 with (fail)
  generalize (w.alloc (.cells #[.string (bs p.name), .string (bs p.ver), .slice an p.needs.length cn, .slice ac p.conf.length cc, .slice af p.files.length cf, .slice au p.units.length cu] 32)).alloc (.cells #[.string (bs p.name), .string (bs p.ver), .slice bn p.needs.length dn, .slice bc p.conf.length dc, .slice bf p.files.length df, .slice bu p.units.length du] 32) = w1 at HBX HBY HX1 ⊢
  obtain ⟨C, hC⟩ : ∃ C, C = w.heap.size + 1 := ⟨_, rfl⟩
  rw [← hC] at HBY ⊢
  obtain ⟨B, hB⟩ : ∃ B, B = w.heap.size := ⟨_, rfl⟩
  rw [← hB] at HBX ⊢
  clear hB hC
  obtain ⟨l, hll⟩ : ∃ l, l = packP p := ⟨_, rfl⟩
  rw [← hll] at HPK HPL
  clear hll
  have hsn : ∀ W, Ext w1 W → (∀ j v, #[.string (bs p.name), .string (bs p.ver), .slice an p.needs.length cn, .slice ac p.conf.length cc, .slice af p.files.length cf, .slice au p.units.length cu][j]? = some v → W.cell? ⟨B, j, none⟩ = some v) ∧ (∀ j v, #[.string (bs p.name), .string (bs p.ver), .slice bn p.needs.length dn, .slice bc p.conf.length dc, .slice bf p.files.length df, .slice bu p.units.length du][j]? = some v → W.cell? ⟨C, j, none⟩ = some v) := fun W hW => ⟨fun j v h => blk_cell (hW.heap HBX.out) j v h, fun j v h => blk_cell (hW.heap HBY.out) j v h⟩
  have HSN := Lib.hid hsn; clear hsn
  have HXX := Lib.hid ((Ext.refl w1).drew)
  have hcv := fun (w : World) (a : Option Addr) (c : Nat) (hb : Bytes w a l) => conv_text (c := c) hb
  have HCV := Lib.hid hcv; clear hcv
  simp only [cv_bytes]
  go_region_held3 (fun W => W.cell? ⟨B, 0, none⟩ = some (.string (bs p.name)) ∧ W.cell? ⟨B, 1, none⟩ = some (.string (bs p.ver)) ∧ W.cell? ⟨B, 2, none⟩ = some (.slice an p.needs.length cn) ∧ W.cell? ⟨B, 3, none⟩ = some (.slice ac p.conf.length cc) ∧ W.cell? ⟨B, 4, none⟩ = some (.slice af p.files.length cf) ∧ W.cell? ⟨B, 5, none⟩ = some (.slice au p.units.length cu) ∧ W.cell? ⟨C, 0, none⟩ = some (.string (bs p.name)) ∧ W.cell? ⟨C, 1, none⟩ = some (.string (bs p.ver)) ∧ W.cell? ⟨C, 2, none⟩ = some (.slice bn p.needs.length dn) ∧ W.cell? ⟨C, 3, none⟩ = some (.slice bc p.conf.length dc) ∧ W.cell? ⟨C, 4, none⟩ = some (.slice bf p.files.length df) ∧ W.cell? ⟨C, 5, none⟩ = some (.slice bu p.units.length du))
    (first | exact ⟨(HSN.out _ HXX.out).1 0 _ rfl, (HSN.out _ HXX.out).1 1 _ rfl, (HSN.out _ HXX.out).1 2 _ rfl, (HSN.out _ HXX.out).1 3 _ rfl, (HSN.out _ HXX.out).1 4 _ rfl, (HSN.out _ HXX.out).1 5 _ rfl, (HSN.out _ HXX.out).2 0 _ rfl, (HSN.out _ HXX.out).2 1 _ rfl, (HSN.out _ HXX.out).2 2 _ rfl, (HSN.out _ HXX.out).2 3 _ rfl, (HSN.out _ HXX.out).2 4 _ rfl, (HSN.out _ HXX.out).2 5 _ rfl⟩)
    (first
      | (go_at_call_of 48 (Value.agg #[.string (bs p.name), .string (bs p.ver), .slice an p.needs.length cn, .slice ac p.conf.length cc, .slice af p.files.length cf, .slice au p.units.length cu]); refine (HPK.out _ (HM.out.ext (HX1.out.trans HXX.out))).mono ?_; rintro e w2 ⟨a2, c2, rfl, hown, hx⟩; replace HXX := Lib.hid (HXX.out.trans hx); have HB2 := Lib.hid hown.bytes.1; try (replace HB3 := Lib.hid (HB3.out.ext hx)); clear hown hx)
      | (go_at_call_of 48 (Value.agg #[.string (bs p.name), .string (bs p.ver), .slice bn p.needs.length dn, .slice bc p.conf.length dc, .slice bf p.files.length df, .slice bu p.units.length du]); refine (HPL.out _ (HN.out.ext (HX1.out.trans HXX.out))).mono ?_; rintro e w3 ⟨a3, c3, rfl, hown, hx⟩; replace HXX := Lib.hid (HXX.out.trans hx); have HB3 := Lib.hid hown.bytes.1; try (replace HB2 := Lib.hid (HB2.out.ext hx)); clear hown hx)
      | ((with_reducible refine upon_text a2 c2 l ?_ ?_); exact HB2.out)
      | ((with_reducible refine upon_text a3 c3 l ?_ ?_); exact HB3.out)
      | fail)
  all_goals (
    go_wp2_with fail
    rw [HR.out]
    exact ⟨rfl, HX1.out.trans HXX.out⟩)
end Go.Proofs.YtpfcofjianmeaaaGreatDoor
