/- Several texts of mine, one behind the other: ReadAct08, ProcNumbers, Agree08, ProcUnmap, Id08, EndsLaw, ProcEnds, PlaysMem08, SysRen. -/
import Derived.Test.YtefpllpichhojaaGreatDoorM1
import Derived.Test.YtefpllpichhojaaGreatDoorM5
import Derived.Test.YtefpllpichhojaaGreatDoorAlive08
import Derived.Test.YtefpllpichhojaaGreatDoorM11
import Derived.BigQuiet
import Derived.Deep.QuietTactic
import Derived.Test.YtefpllpichhojaaGreatDoorM7
import Derived.Test.YtefpllpichhojaaGreatDoorProcSpawn
import Derived.Deep.CutBlock
import Derived.Deep.CutRange
import Derived.Test.YtefpllpichhojaaGreatDoorProcTab
import Derived.Test.YtefpllpichhojaaGreatDoorM12
namespace Go.Proofs.YtefpllpichhojaaGreatDoor
open Go.RowKit Go.WideShapes Go.ChangeShapes Go.Deep
structure ActD where
 kind : Int
 pid : Int
 file : Int
 pa : Option Addr
 paths : List By
 pc : Nat
def In64 (x : Int) : Prop := -9223372036854775808 ≤ x ∧ x ≤ 9223372036854775807
def ActAt (w : World) (g o : Nat) (x : ActD) : Prop :=
 (w.cell? ⟨g, o, none⟩ = some (.int .i64 x.kind) ∧ w.cell? ⟨g, o + 1, none⟩ = some (.int .i64 x.pid) ∧ w.cell? ⟨g, o + 2, none⟩ = some (.int .i64 x.file) ∧ w.cell? ⟨g, o + 3, none⟩ = some (.slice x.pa x.paths.length x.pc)) ∧ Strs w x.pa x.paths ∧ (In64 x.kind ∧ In64 x.pid ∧ In64 x.file) ∧ x.paths.length ≤ 8796093022208
theorem ActAt.ext {w w' : World} {g o : Nat} {x : ActD} (h : ActAt w g o x) (k : Ext w w') : ActAt w' g o x :=
 ⟨⟨k.cell h.1.1, k.cell h.1.2.1, k.cell h.1.2.2.1, k.cell h.1.2.2.2⟩, h.2.1.ext k, h.2.2⟩
def ActsL (w : World) (a : Option Addr) (L : List ActD) : Prop :=
 L = [] ∨ ∃ g off, a = some ⟨g, off, none⟩ ∧ g < w.heap.size ∧ ∀ i (hi : i < L.length), ActAt w g (off + i * 4) L[i]
theorem ActsL.ext {w w' : World} {a : Option Addr} {L : List ActD} (h : ActsL w a L) (k : Ext w w') : ActsL w' a L := by
 rcases h with h | ⟨g, off, ha, hg, hc⟩
 · exact Or.inl h
 · exact Or.inr ⟨g, off, ha, Nat.lt_of_lt_of_le hg k.size, fun i hi => (hc i hi).ext k⟩
theorem ActsL.at {w : World} {a : Option Addr} {L : List ActD} (h : ActsL w a L) {i : Nat} (hi : i < L.length) :
 ∃ g off, a = some ⟨g, off, Option.none⟩ ∧ g < w.heap.size ∧ ActAt w g (off + i * 4) L[i] := by
 rcases h with h | ⟨g, off, ha, hg, hc⟩
 · rw [h] at hi; simp at hi
 · exact ⟨g, off, ha, hg, hc i hi⟩
def actR4 (w : World) (cs : List Value) (x : ActD) : Prop :=
 cs = [.int .i64 x.kind, .int .i64 x.pid, .int .i64 x.file, .slice x.pa x.paths.length x.pc] ∧ Strs w x.pa x.paths ∧ (In64 x.kind ∧ In64 x.pid ∧ In64 x.file) ∧ x.paths.length ≤ 8796093022208
theorem SliceOf.acts {w : World} {a : Option Addr} {L : List ActD} (h : SliceOf 4 actR4 w a L) : ActsL w a L := by
 rcases h with h | ⟨g, off, ha, hg, hc⟩
 · exact Or.inl h
 · refine Or.inr ⟨g, off, ha, hg, fun i hi => ?_⟩
   obtain ⟨cs, _, h2, h3, h4⟩ := hc i hi
   subst h3
   exact ⟨⟨h2 0 (by omega), h2 1 (by omega), h2 2 (by omega), h2 3 (by omega)⟩, h4⟩
theorem wf_in64 {n : Int} (h : (Lit.int .i64 n).wf = true) : In64 n := by
 unfold Lit.wf at h
 rw [Bool.and_eq_true] at h
 exact ⟨of_decide_eq_true h.1, of_decide_eq_true h.2⟩
section
variable {H : Type} {enc : TypeId × Value → H} {w : World} {base : Nat} {spare : Nat → Bool} {held : Bool}
theorem bytes_act : Tryz.prog.bytesOf 31 = 48 := by kernel_rfl
theorem bytes_strA : Tryz.prog.bytesOf 9 = 16 := by kernel_rfl
theorem cells_strA : Tryz.prog.cellsOf 9 = 1 := by kernel_rfl
theorem cells_act : Tryz.prog.cellsOf 31 = 4 := by kernel_rfl
theorem one_act {fs : Array Field} (h : Tryz.prog.underlying 31 = some (.struct fs)) : oneCellFields Tryz.prog fs = true ∧ Tryz.prog.cellsOf 31 = fs.size := by
 rw [Tryz.underlying31] at h
 have h := (TypeDesc.struct.inj (Option.some.inj h)).symm
 subst h
 exact ⟨by kernel_rfl, by kernel_rfl⟩
def textR1a (_ : World) (cs : List Value) (s : List UInt8) : Prop := cs = [.string (bs s)]
theorem SliceOf.strsA {a : Option Addr} {L : List (List UInt8)} (h : SliceOf 1 textR1a w a L) : Strs w a L := by
 rcases h with h | ⟨g, off, ha, hg, hc⟩
 · exact Or.inl h
 · refine Or.inr ⟨g, off, ha, hg, fun i hi => ?_⟩
   obtain ⟨cs, _, h2, h3⟩ := hc i hi
   have e : L.getD i [] = L[i] := by simp [List.getD_eq_getElem?_getD, List.getElem?_eq_getElem hi]
   have := h2 0 (by omega)
   rw [e]
   rw [h3] at this
   simpa using this
theorem read_strsA {fuel : Nat} {cs : List Value} {x : DataW H × List MemPlace} (h : DataW.trod enc Tryz.prog w base spare held fuel 29 cs = some x) (hw : InReach Tryz.prog 29 x.1) :
 ∃ (a : Option Addr) (L : List By) (c : Nat), cs = [.slice a L.length c] ∧ L.length ≤ c ∧ Strs w a L ∧ L.length ≤ 8796093022208 := by
 obtain ⟨a, L, c, h1, h2, h3, h4⟩ := read_slice_w (R := textR1a) Tryz.underlying29 cells_strA (by decide) hw (fun n cs y hy _ => by
  obtain ⟨s, rfl, rfl, _⟩ := DataW.trod_string Tryz.underlying9 hy
  exact ⟨s.data.toList, by unfold textR1a; rw [bs_of]⟩) h
 rw [bytes_strA] at h4
 exact ⟨a, L, c, h1, h2, h3.strsA, by unfold reachBytes at h4; omega⟩
theorem list_4 {α : Type} {l : List α} {a b c d : α} (hl : l.length = 4) (h0 : l[0]? = some a) (h1 : l[1]? = some b) (h2 : l[2]? = some c) (h3 : l[3]? = some d) : l = [a, b, c, d] := by
 match l, hl with
 | [x, y, z, u], _ => simp at h0 h1 h2 h3; rw [h0, h1, h2, h3]
set_option maxRecDepth 100000 in
theorem read_act {fuel : Nat} {cs : List Value} {x : DataW H × List MemPlace} (h : DataW.trod enc Tryz.prog w base spare held fuel 31 cs = some x) (hw : InReach Tryz.prog 31 x.1) : ∃ y, actR4 w cs y := by
 obtain ⟨o1, o2⟩ := one_act Tryz.underlying31
 obtain ⟨ys, n, hy1, hl, hyl, hf⟩ := read_struct Tryz.underlying31 o1 o2 h
 obtain ⟨v0, y0, a0, b0, t0⟩ := hf 0 _ rfl
 obtain ⟨v1, y1, a1, b1, t1⟩ := hf 1 _ rfl
 obtain ⟨v2, y2, a2, b2, t2⟩ := hf 2 _ rfl
 obtain ⟨v3, y3, a3, b3, t3⟩ := hf 3 _ rfl
 obtain ⟨k0, e0, _, w0⟩ := DataW.trod_int Tryz.underlying3 t0
 obtain ⟨k1, e1, _, w1⟩ := DataW.trod_int Tryz.underlying3 t1
 obtain ⟨k2, e2, _, w2⟩ := DataW.trod_int Tryz.underlying3 t2
 obtain ⟨A3, L3, C3, e3, c3, s3, l3⟩ := read_strsA t3 (reach_field Tryz.underlying31 hy1 hw (j := 3) rfl b3)
 cases e0
 cases e1
 cases e2
 cases e3
 exact ⟨⟨k0, k1, k2, A3, L3, C3⟩, list_4 hl a0 a1 a2 a3, s3, ⟨wf_in64 w0, wf_in64 w1, wf_in64 w2⟩, l3⟩
set_option maxRecDepth 100000 in
theorem open_acts {b0 : Nat} {v : Value} {d : DataW H} {ps : List MemPlace} (hval : Value.okWide Tryz.prog w .any b0 22 v) (hd : DataW.Trod enc Tryz.prog w base spare held 22 v d ps) (hw : InReach Tryz.prog 22 d) :
 ∃ (a : Option Addr) (L : List ActD) (c : Nat), v = .slice a L.length c ∧ L.length ≤ c ∧ ActsL w a L ∧ L.length ≤ 2932031007317 := by
 obtain ⟨a0, len, cap, rfl⟩ := okWide_slice Tryz.underlying22 hval
 obtain ⟨fuel, hf⟩ := hd
 obtain ⟨a, L, c, h1, h2, h3, h4⟩ := read_slice_w (R := actR4) Tryz.underlying22 cells_act (by decide) hw (fun n cs y hy hwy => read_act hy hwy) hf
 simp [Value.cells] at h1
 obtain ⟨rfl, rfl, rfl⟩ := h1
 rw [bytes_act] at h4
 exact ⟨a0, L, cap, rfl, h2, h3.acts, by unfold reachBytes at h4; omega⟩
end
end Go.Proofs.YtefpllpichhojaaGreatDoor
namespace Go.Proofs.YtefpllpichhojaaGreatDoor
open Go.RowKit
variable [Low]
theorem KeepP.low {X : Nat → Prop} {a b : World} (h : KeepP X a b) (hl : Low.low = a.heap.size) : Ext a b := (Keep.mono h (T := fun j => j < a.heap.size) fun g _ hg => Or.inl (by have hg : g < a.heap.size := hg; omega)).ext_lt
theorem SysP.heldBy {X : Nat → Prop} {w : World} {tb vb db kb n N off top : Nat} {q : Int} {F : FileS} {P : TabD} (h : SysP X w tb vb db kb n N off top q F P) : HeldBy F P ∧ GoodP P ∧ P.next ≤ (N : Int) := by
 obtain ⟨pm, A, hb, _, hh⟩ := h
 exact ⟨hh, hb.good, hb.next⟩
section
end
end Go.Proofs.YtefpllpichhojaaGreatDoor
namespace Go.Proofs.YtefpllpichhojaaGreatDoor
open Go.RowKit
attribute [local go_sem ↓] Go.wp_at_zero Go.wp_at_succ
variable [Low]
section
variable {X : Nat → Prop} {w : World} {tb vb db kb n N off top : Nat} {q : Int} {F : FileS} {P : TabD}
omit [Low] in
theorem cntP_L {P : TabD} {L : List PlayD} (h : P.list = L.map Prod.fst) (i : Int) : cntP P i = cntL L i := by
 unfold cntP cntL
 rw [h, List.map_map]
 rfl
omit [Low] in
theorem pidsP_L {P : TabD} {L : List PlayD} (h : P.list = L.map Prod.fst) : pidsP P = L.map fun x => x.1.pid := by
 unfold pidsP
 rw [h, List.map_map]
 rfl
set_option maxRecDepth 100000 in
set_option maxHeartbeats 6400000 in
theorem law_agree (h : SysP X w tb vb db kb n N off top q F P) (L : List PlayD) (a : Option Addr) (c : Nat) (hL : P.list = L.map Prod.fst) (hP : PlR w a L) (hM : ∀ x ∈ L, RunM w x.2.1 (intV x.1.maps)) (hN : N ≤ 1000000000) :
 Calls Tryz.prog 26 #[.pointer (some ⟨tb, 0, none⟩), .pointer (some ⟨vb, 0, none⟩), .slice a L.length c] w fun e w' => e = .returned (.bool true) ∧ Ext w w' := by
 obtain ⟨R, hR⟩ : ∃ R : Ending → World → Prop, R = fun e w' => e = .returned (.bool true) ∧ Ext w w' := ⟨_, rfl⟩
 rw [← hR]
 have HR := Lib.hid hR; clear hR
 obtain ⟨hhb, hgp, hnx⟩ := h.heldBy
 have hpl : ∀ k (hk : k < L.length), getP P L[k].1.pid = some L[k].1 ∧ 1 ≤ L[k].1.pid ∧ L[k].1.pid ≤ 1000000000 ∧ L[k].1.maps.length ≤ 8 := fun k hk => by
  have hm : L[k].1 ∈ P.list := by rw [hL]; exact List.mem_map.2 ⟨L[k], List.getElem_mem hk, rfl⟩
  have := hgp.low _ hm
  exact ⟨hgp.get hm, this.1, by omega, hgp.maps _ hm⟩
 have h32 : L.length ≤ 32 := by have := hgp.few; rw [hL, List.length_map] at this; exact this
 have hlist := proc_List h hN
 rw [pidsP_L hL, List.length_map] at hlist
 have hcnt : ∀ i, F.hd i = cntL L i := fun i => by rw [hhb i, cntP_L hL]
 have h8 : ∀ x ∈ L, x.1.maps.length ≤ 8 := fun x hx => by
  obtain ⟨k, hk, rfl⟩ := List.getElem_of_mem hx
  exact (hpl k hk).2.2.2
 have HS := Lib.hid h; have HPL := Lib.hid hpl; have HLI := Lib.hid hlist; have HCN := Lib.hid hcnt; have HP := Lib.hid hP; have HM := Lib.hid hM; have H8 := Lib.hid h8
 clear h hhb hgp hnx hpl hlist hcnt hL hP hM h8
 obtain ⟨m, hm⟩ : ∃ m, m = L.length := ⟨_, rfl⟩
 rw [← hm] at h32 HLI ⊢
 have HMM := Lib.hid hm; clear hm
 go_enter Tryz.func26, Tryz.ntmps26
 go_upto_region 2 with (go_at_call 55; refine HLI.out.mono ?_; rintro e w1 ⟨la, lc, rfl, ho, hx⟩; have HO := Lib.hid ho.runI; have HX1 := Lib.hid hx; clear ho hx)
 have hmm : ((m : Int) != (m : Int)) = false := by simp
 go_wp2_with fail
 go_loopw [25] (fun i wr => ∃ k : Nat, i = .int .i64 k ∧ k ≤ m ∧ Hid (Ext w1 wr)) (fun i _ => m - (intOf i).toNat)
 case atStart => exact ⟨0, rfl, Nat.zero_le _, Lib.hid (Ext.refl w1)⟩
 case round =>
  obtain ⟨k, rfl, hk, HX⟩ := hrel
  by_cases hkm : k < m
  · have hkL : k < L.length := by have := HMM.out; omega
    obtain ⟨hgk, hp1, hp2, hz8⟩ := HPL.out k hkL
    have hoi := HO.out.ext HX.out
    rcases hoi with h | ⟨lg, lo, rfl, _, hc⟩
    · exfalso
      have : L = [] := by unfold intV at h; simpa using h
      rw [this] at hkL; simp at hkL
    have c0 := hc k (.int .i64 L[k].1.pid) (by simp [intV, List.getElem?_eq_getElem hkL])
    have hgot := proc_Get ((HS.out.ext HX1.out).ext HX.out) L[k].1.pid (by omega) (by omega)
    unfold GotR at hgot
    rw [hgk] at hgot
    have hpr : RunM w a (L.flatMap plV) := HP.out
    obtain ⟨g, off, rfl, hpc⟩ := PlR.at hpr hkL
    have hq := HM.out _ (List.getElem_mem hkL)
    generalize L[k].2.2 = rc at hpc
    generalize L[k].2.1 = ra at hpc hq
    generalize L[k].1 = p at *
    obtain ⟨pid, u, Z, en⟩ := p
    dsimp only at hp1 hp2 hz8 c0 hgot hpc hq
    have HPC := Lib.hid hpc; have HQ := Lib.hid hq; have HGOT := Lib.hid hgot
    clear hgk hp1 hp2 hc hgot hpr hpc hq hkL
    obtain ⟨z, hz⟩ : ∃ z, z = Z.length := ⟨_, rfl⟩
    rw [← hz] at hz8 HPC HGOT
    have HZ := Lib.hid hz; clear hz
    go_upto_region 8 with (go_at_call 68; refine HGOT.out.mono ?_; rintro e w3 ⟨⟨ga, gc, rfl, hgo⟩, hx⟩; have HGO := Lib.hid hgo.runI; have HX3 := Lib.hid hx; clear hgo hx)
    have hx4 := Ext.alloc w3 (.cells #[.int .i64 pid, .string (bs u), .slice ga z gc, .bool en] 128)
    have hb4 := heap_alloc_new w3 (.cells #[.int .i64 pid, .string (bs u), .slice ga z gc, .bool en] 128)
    generalize w3.alloc (.cells #[.int .i64 pid, .string (bs u), .slice ga z gc, .bool en] 128) = w4 at hx4 hb4 ⊢
    obtain ⟨B4, hB4⟩ : ∃ B, B = w3.heap.size := ⟨_, rfl⟩
    rw [← hB4] at hb4 ⊢
    clear hB4
    have hxx := (HX1.out.trans HX.out).trans (HX3.out.trans hx4)
    obtain ⟨hgl, d0, d1, d2, d3⟩ := HPC.out
    have d0 := hxx.cell d0
    have d1 := hxx.cell d1
    have d2 := hxx.cell d2
    have d3 := hxx.cell d3
    have hkm2 : (k : Int) < (m : Int) := by omega
    have hk0 : (0 : Int) ≤ (k : Int) := by omega
    clear hgl hxx c0
    go_upto_region 9 with fail
    have hx5 := Ext.alloc w4 (.cells #[.int .i64 pid, .string (bs u), .slice ra z rc, .bool en] 36)
    have hb5 := heap_alloc_new w4 (.cells #[.int .i64 pid, .string (bs u), .slice ra z rc, .bool en] 36)
    generalize w4.alloc (.cells #[.int .i64 pid, .string (bs u), .slice ra z rc, .bool en] 36) = w5 at hx5 hb5 ⊢
    obtain ⟨B5, hB5⟩ : ∃ B, B = w4.heap.size := ⟨_, rfl⟩
    rw [← hB5] at hb5 ⊢
    have hb4 := hx5.heap hb4
    have g0 := blk_cell hb4 0 (.int .i64 pid) rfl
    have g1 := blk_cell hb4 1 (.string (bs u)) rfl
    have g2 := blk_cell hb4 2 (.slice ga z gc) rfl
    have g3 := blk_cell hb4 3 (.bool en) rfl
    have e0 := blk_cell hb5 0 (.int .i64 pid) rfl
    have e1 := blk_cell hb5 1 (.string (bs u)) rfl
    have e2 := blk_cell hb5 2 (.slice ra z rc) rfl
    have e3 := blk_cell hb5 3 (.bool en) rfl
    have t0 : (pid != pid) = false := by simp
    have hbb : (bs u == bs u) = true := by show ((bs u).data == (bs u).data) = true; simp
    have t1 : (!(bs u == bs u)) = false := by rw [hbb]; rfl
    have t1' : (bs u == bs u) = true := hbb
    have t2 : (en != en) = false := by simp
    have t2' : (en == en) = true := by simp
    have t3 : ((z : Int) != (z : Int)) = false := by simp
    have HGR := Lib.hid (HGO.out.ext (hx4.trans hx5))
    have HQR := Lib.hid (HQ.out.ext ((HX1.out.trans HX.out).trans ((HX3.out.trans hx4).trans hx5)))
    have HX5 := Lib.hid (HX.out.trans ((HX3.out.trans hx4).trans hx5))
    clear d0 d1 d2 d3 hx4 hx5 hB5 hb4 hb5 HGO HQ HX HX3 HPC HGOT
    go_upto_region 11 with fail
    have hgt0 := g2
    clear g0 g1 g3 e0 e1 e3 t0 t1 t1' t2 t2' t3
    go_wp2_with fail
    clear g2 hgt0
    go_loopw [81] (fun i wi => ∃ j : Nat, i = .int .i64 j ∧ j ≤ z ∧ Hid (wi = w5)) (fun i _ => z - (intOf i).toNat)
    case atStart => exact ⟨0, rfl, Nat.zero_le _, Lib.hid rfl⟩
    case round =>
     obtain ⟨j, rfl, hj, hw⟩ := hrel
     obtain rfl := hw.out
     by_cases hjz : j < z
     · have hjZ : j < Z.length := by have := HZ.out; omega
       have hgr := HGR.out; have hqr := HQR.out
       rcases hgr with h | ⟨g6, o6, rfl, hg6⟩
       · exfalso
         have : Z = [] := by unfold intV at h; simpa using h
         rw [this] at hjZ; simp at hjZ
       rcases hqr with h | ⟨g7, o7, rfl, hg7⟩
       · exfalso
         have : Z = [] := by unfold intV at h; simpa using h
         rw [this] at hjZ; simp at hjZ
       have c6 := hg6.2 j (.int .i64 Z[j]) (by simp [intV, List.getElem?_eq_getElem hjZ])
       have c7 := hg7.2 j (.int .i64 Z[j]) (by simp [intV, List.getElem?_eq_getElem hjZ])
       generalize Z[j] = y at c6 c7
       have hyy : (y != y) = false := by simp
       clear hg6 hg7 hjZ
       go_wp2_with fail
       go_roundw
       case rel => exact ⟨j + 1, by go_num, by omega, Lib.hid trivial⟩
       case measure => simp [intOf]; omega
     · go_wp2_with fail
       go_roundw
       case rel => exact ⟨k + 1, by go_num, by omega, HX5⟩
       case measure => simp [intOf]; omega
  · clear HPL
    go_wp2_with fail
    go_loopw [95] (fun i wi => ∃ j : Nat, i = .int .i64 j ∧ j ≤ 12 ∧ Hid (Ext w1 wi)) (fun i _ => 12 - (intOf i).toNat)
    case atStart => exact ⟨0, rfl, Nat.zero_le _, HX⟩
    case round =>
     obtain ⟨j, rfl, hj, HXj⟩ := hrel
     by_cases hj12 : j < 12
     · have hxw := HX1.out.trans HXj.out
       have hhe := sys_held (HS.out.ext hxw) (j : Int) (by omega) (by omega)
       rw [HCN.out] at hhe
       have hct := ref_Count8 L _ c (j : Int) wr (HP.out.ext hxw) (fun x hx => (HM.out x hx).ext hxw) H8.out (by have := HMM.out; omega)
       rw [← HMM.out] at hct
       have HHE := Lib.hid hhe; have HCT := Lib.hid hct
       clear hhe hct hxw
       generalize cntL L (j : Int) = cn at HHE HCT
       have hcc : ((cn : Int) != (cn : Int)) = false := by simp
       go_wp2_with (first
        | (go_at_call 67; refine HHE.out.mono ?_; rintro e w8 ⟨rfl, rfl⟩)
        | (go_at_call 81; refine HCT.out.mono ?_; rintro e w9 ⟨rfl, rfl⟩))
       go_roundw
       case rel => exact ⟨j + 1, by go_num, by omega, HXj⟩
       case measure => simp [intOf]; omega
     · go_wp2_with fail
       rw [HR.out]
       exact ⟨rfl, HX1.out.trans HXj.out⟩
end
end Go.Proofs.YtefpllpichhojaaGreatDoor
namespace Go.Proofs.YtefpllpichhojaaGreatDoor
open Go.RowKit
variable [Low]
section
variable {X : Nat → Prop} {w w' : World} {tb pm vb db kb n N off top : Nat} {q : Int} {F : FileS} {P : TabD} {A : Int → ProcA}
omit [Low] in
theorem index_ints {base c : Nat} {a : Option Addr} {Z : List Int} (h : OwnIs w base a c Z) (f : Int) (hl : Z.length ≤ 1000) :
 Calls Tryz.prog 73 #[.slice a Z.length c, .int .i64 f] w fun e w' => e = .returned (.int .i64 (Lib.idxOf Z f)) ∧ w = w' := by
 rcases h.2 with ⟨h1, h2⟩ | ⟨g, c', cur, h1, hb, hg, hn, hm, hs, ht⟩
 · have hz : Z = [] := List.eq_nil_of_length_eq_zero h2
   subst hz
   exact (Tryz.slices_Index_int_empty a c f w).mono fun e w' ⟨h1, h2⟩ => ⟨h1, h2.symm⟩
 · injection h1 with h1 _ h2
   subst h1 h2
   have := Tryz.slices_Index_int g 0 Z.length c Z f w (Nat.le_refl _) (by omega) fun j hj => by
    obtain ⟨g', e, _, hc⟩ := h.at hj
    injection (Option.some.inj e) with e
    subst e
    rw [Nat.zero_add, hc]
    simp [List.getD_eq_getElem?_getD, List.getElem?_eq_getElem hj]
   rw [List.take_length] at this
   exact this.mono fun e w' ⟨h1, h2⟩ => ⟨h1, h2.symm⟩
set_option maxRecDepth 100000 in
set_option maxHeartbeats 6400000 in
theorem proc_Unmap (h : SysP X w tb vb db kb n N off top q F P) (i f : Int) (h1 : -9223372036854775808 ≤ i) (h2 : i ≤ 9223372036854775807) (hN : N + 1 ≤ 1000000000) :
 Calls Tryz.prog 19 #[.pointer (some ⟨tb, 0, none⟩), .int .i64 i, .int .i64 f] w fun e w' => e = .returned (.int .i64 (unmapF F P i f).2) ∧ SysP X w' tb vb db kb n (N + 1) off top q (unmapF F P i f).1.1 (unmapF F P i f).1.2 ∧ KeepP X w w' := by
 obtain ⟨R, hR⟩ : ∃ R : Ending → World → Prop, R = fun e w' => e = .returned (.int .i64 (unmapF F P i f).2) ∧ SysP X w' tb vb db kb n (N + 1) off top q (unmapF F P i f).1.1 (unmapF F P i f).1.2 ∧ KeepP X w w' := ⟨_, rfl⟩
 rw [← hR]
 have HR := Lib.hid hR; clear hR
 have HS := Lib.hid h
 obtain ⟨pm, A, hb, hv, hh⟩ := h
 have c1 := blk_cell hb.top 1 (.map (some pm)) rfl
 have hlk := hb.map.lookup int_keyedA Tryz.underlying133 (Tryz.zeroValue139 w) (key_int h1 h2)
 cases hg : getP P i with
 | none =>
   rw [procF_none hg] at hlk
   have he : unmapF F P i f = ((F, P), 8) := by unfold unmapF; rw [hg]
   have HE := Lib.hid he
   clear he hb hv hh hg
   dsimp only [Option.getD] at hlk
   go_enter Tryz.func19, Tryz.ntmps19
   go_wp2_with fail
   rw [HR.out, HE.out]
   exact ⟨rfl, HS.out.mono (by omega), KeepP.refl _ _⟩
 | some p =>
   rw [procF_some hg] at hlk
   obtain ⟨hp, rfl⟩ := getP_some hg
   have hpr := hb.proc p hp
   have hm8 := hb.good.maps p hp
   have c2 := blk_cell hpr.1 2 (.slice (A p.pid).ma p.maps.length (A p.pid).mc) rfl
   have hix := index_ints hpr.2 f (by omega)
   by_cases hf : f ∈ p.maps
   · have he : unmapF F P p.pid f = ((letF F f, setP P p.pid { p with maps := p.maps.erase f }), 0) := by unfold unmapF; rw [hg]; exact if_pos hf
     obtain ⟨k, hk, hkf, hfirst, hers⟩ := first_at hf
     have hidx : Lib.idxOf p.maps f = (k : Int) := by
      have := Lib.idxOf_hit p.maps p.maps.length k f hk (Nat.le_refl _) (by rw [List.getD_eq_getElem?_getD, List.getElem?_eq_getElem hk]; exact hkf) hfirst
      rwa [List.take_length] at this
     rw [hidx] at hix
     obtain ⟨g, hma, hgl, hck⟩ := hpr.2.at hk
     obtain ⟨hq1, hq2, cs, hgc⟩ := hpr.2.block hma
     clear hck hq1 hq2
     dsimp only at hgc
     have hO := hpr.2
     rw [hma] at hO c2 hix
     have hcc : p.maps.length ≤ (A p.pid).mc := by
      rcases hO.2 with ⟨h1, _⟩ | ⟨g', c', cur, h1, _, _, hn, _⟩
      · cases h1
      · injection h1 with _ _ e; omega
     have hcm : (A p.pid).mc ≤ 9223372036854775807 := by
      rcases hO.2 with ⟨h1, _⟩ | ⟨g', c', cur, h1, _, _, _, hm, _⟩
      · cases h1
      · injection h1 with _ _ e; unfold maxLen at hm; omega
     have hdel := Tryz.slices_Delete_int_cells g 0 p.maps.length (A p.pid).mc k (k + 1) p.maps w (Nat.le_refl _) hcc hcm (Nat.le_succ k) hk (fun j hj => by
      obtain ⟨g', e, _, hc⟩ := hO.at hj
      injection (Option.some.inj e) with e
      subst e
      rw [Nat.zero_add, hc]
      simp [List.getD_eq_getElem?_getD, List.getElem?_eq_getElem hj]) (fun j hj => blk_free hgc _)
     rw [List.take_length, Nat.add_sub_cancel_left] at hdel
     obtain ⟨vs, hvs⟩ : ∃ vs, vs = (p.maps.take k ++ p.maps.drop (k + 1) ++ List.replicate 1 0).map (Value.int .i64) := ⟨_, rfl⟩
     rw [← hvs] at hdel
     have hvl : vs.length = p.maps.length := by rw [hvs]; simp; omega
     have hvt : vs.take (p.maps.length - 1) = intV (p.maps.erase f) := by
      rw [hvs, ← hers]
      unfold intV
      rw [List.map_append, List.take_left']
      rw [List.length_map, List.length_erase_of_mem hf]
     have hel : (p.maps.erase f).length = p.maps.length - 1 := List.length_erase_of_mem hf
     have hoth := hb.others hp
     have hcut := fun qd => own_cut (w := w.drewN qd) (ownsRow_keep hO (Keep.of_ext (S := fun _ => True) ((Ext.refl w).drewN qd)) fun _ _ _ _ _ => trivial) hvl (Nat.sub_le p.maps.length 1)
     rw [hvt, ← hel] at hcut
     have hcast : (k : Int) + 1 = ((k + 1 : Nat) : Int) := by omega
     have hm : ∀ w : World, (method 438 24 (.pointer (some ⟨vb, 0, none⟩)) "Let").run Tryz.prog w = .ok (106, .pointer (some ⟨vb, 0, none⟩)) w := fun _ => by kernel_rfl
     have hne1 : (A p.pid).blk ≠ g := apart_types hpr.1 hgc (by decide)
     have hne2 : tb ≠ g := apart_types hb.top hgc (by decide)
     have hne3 : tb ≠ (A p.pid).blk := apart_types hb.top hpr.1 (by decide)
     rw [← hel] at hdel
     have HE := Lib.hid he; have HB := Lib.hid hb; have HV := Lib.hid hv; have HH := Lib.hid hh; have HPM := Lib.hid hp; have HO := Lib.hid hoth; have HCUT := Lib.hid hcut; have HIX := Lib.hid hix; have HDEL := Lib.hid hdel; have HGC := Lib.hid hgc; have HF := Lib.hid hf; have HEL := Lib.hid hel; have HMA := Lib.hid hma; have HC := Lib.hid hcast; have HGL := Lib.hid hgl
     have HN1 := Lib.hid hne1; have HN2 := Lib.hid hne2; have HN3 := Lib.hid hne3
     have hkb : k ≤ 8 := by omega
     clear he hb hv hh hg hp hoth hcut hix hdel hgc hf hel hma hcast hgl hfirst hers hidx hkf hk hpr hm8 hO hcc hcm hvs hvl hvt hne1 hne2 hne3
     dsimp only [Option.getD] at hlk
     go_enter Tryz.func19, Tryz.ntmps19
     go_wp2_with (first
      | (go_at_call 73; refine HIX.out.mono ?_; rintro e w1 ⟨rfl, rfl⟩)
      | (go_at_call 74; refine Hid.out ?_))
     refine Lib.hid ?_
     rw [HC.out]
     refine HDEL.out.mono ?_
     rintro e w2 ⟨rfl, qd, rfl⟩
     obtain ⟨hO2, hk2⟩ := HCUT.out qd
     have hkw : Keep (· ≠ g) w ((w.drewN qd).setCells g 0 vs) := (Keep.of_ext ((Ext.refl w).drewN qd)).trans hk2
     generalize (w.drewN qd).setCells g 0 vs = w2 at hO2 hkw ⊢
     have hB := HB.out
     have hpr := hB.proc p HPM.out
     have hp2 := hkw.heap HN1.out hpr.1
     have ht2 := hkw.heap HN2.out hB.top
     have c2 := blk_cell hp2 2 (.slice (A p.pid).ma p.maps.length (A p.pid).mc) rfl
     have f2 := blk_free hp2 2
     have hset : Keep (· ≠ (A p.pid).blk) w2 (w2.setCell ⟨(A p.pid).blk, 2, none⟩ (.slice (some ⟨g, 0, none⟩) (p.maps.erase f).length (A p.pid).mc)) := (Keep.refl _ _).setCell (fun _ h => h) _ _
     have hp3 := setCell_row hp2 (i := 2) (.slice (some ⟨g, 0, none⟩) (p.maps.erase f).length (A p.pid).mc)
     have ht3 := hset.heap HN3.out ht2
     have c0 := blk_cell ht3 0 (.iface 24 (.pointer (some ⟨vb, 0, none⟩))) rfl
     have hv2 := HV.out.keepT (KeepT.ne (ts := [3]) hkw HGC.out (List.mem_singleton.2 rfl) HGL.out) (by decide)
     have hv3 := hv2.keepT (KeepT.ne (ts := [128]) hset hp2 (List.mem_singleton.2 rfl) (hB.lows.2.2 p HPM.out)) (by decide)
     have hfb := hB.ids p HPM.out f HF.out
     have hfc : F.hd f ≠ 0 := by
      have h1 := HH.out.has HPM.out f
      have h2 : 1 ≤ cntM p.maps f := List.countP_pos_iff.2 ⟨f, HF.out, by simp⟩
      omega
     have hlet := at_vLetF hv3 f (by omega) (by omega) hfc (by have := HH.out.le hB.good f; omega) hN
     have hO3 : OwnIs (w2.setCell ⟨(A p.pid).blk, 2, none⟩ (.slice (some ⟨g, 0, none⟩) (p.maps.erase f).length (A p.pid).mc)) Low.low (some ⟨g, 0, none⟩) (A p.pid).mc (p.maps.erase f) := OwnIs.keep hO2 hset fun x cs hx _ => by
      cases hx
      exact fun e => HN1.out e.symm
     have HO3 := Lib.hid hO3; have HLET := Lib.hid hlet; have HP3 := Lib.hid hp3
     have HKH := Lib.hid ((KeepH.trans (Keep.mono hkw (fun g' _ hg => hg.2.2 ⟨g, 0, none⟩ HMA.out) : KeepH (AndM X pm) (A p.pid).blk (A p.pid).ma w w2) (KeepH.of_blk (ro := (A p.pid).ma) hset)) fun x hx => Or.inl ⟨x, hx, rfl⟩)
     clear hO2 hk2 hkw hB hpr hp2 ht2 hset hp3 ht3 hv2 hv3 hfb hfc hlet hO3 HIX HDEL HCUT HV c1 hlk
     go_wp2_with (go_at_call 106; refine HLET.out.mono ?_; rintro e w4 ⟨rfl, hv4, hy4⟩)
     rw [HR.out, HE.out]
     have hB := HB.out
     have hpr := hB.proc p HPM.out
     have hkh : KeepH (AndM X pm) (A p.pid).blk (A p.pid).ma w w4 := HKH.out.trans (KeepH.of_keepY hy4) fun x hx => Or.inl ⟨x, hx, rfl⟩
     have hkp : KeepP X w w4 := KeepH.toP (X := X) hkh (fun g hg => Or.inl hg) ⟨_, _, hpr.1⟩ (hB.apart.2 p HPM.out) (hB.lows.2.2 p HPM.out) fun x hx => by
      obtain ⟨q1, _, cs, hc⟩ := hpr.2.block hx
      exact ⟨q1, hB.out.2.1 p HPM.out x hx, cs, hc⟩
     have hnew : w4.heap[(A p.pid).blk]? = some (.cells (procV { p with maps := p.maps.erase f } ⟨(A p.pid).blk, some ⟨g, 0, none⟩, (A p.pid).mc⟩) 128 (0, 0)) := by
      refine KeepX.heap hy4 ?_ (by decide)
      rw [HP3.out]
      unfold procV
      simp
     have hO4 : OwnIs w4 Low.low (some ⟨g, 0, none⟩) (A p.pid).mc (p.maps.erase f) := HO3.out.keep hy4 fun x cs _ hc => Or.inr (Or.inr ⟨cs, _, _, hc, by decide⟩)
     have hm8 := hB.good.maps p HPM.out
     have hel := HEL.out
     have hturn := hB.turn (p' := { p with maps := p.maps.erase f }) (A' := ⟨(A p.pid).blk, some ⟨g, 0, none⟩, (A p.pid).mc⟩) hkh HO.out.1 HO.out.2.1 HPM.out rfl HO.out.2.2 rfl hnew hO4 (fun x hx => Or.inl ⟨x, by rw [HMA.out]; exact hx, rfl⟩) (by show (p.maps.erase f).length ≤ 8; omega) (fun j hj => hB.ids p HPM.out j (List.mem_of_mem_erase hj))
     refine ⟨rfl, ⟨pm, _, hturn.mono (by omega), hv4, fun j => ?_⟩, hkp⟩
     have hc := cntP_set hB.good HPM.out (p' := { p with maps := p.maps.erase f }) rfl j
     have h5 := HH.out j
     have hpm : cntM p.maps j = cntM (f :: p.maps.erase f) j := (List.perm_cons_erase HF.out).countP_eq _
     have e2 : cntM ({ p with maps := p.maps.erase f } : ProcD).maps j = cntM (p.maps.erase f) j := rfl
     show decH F.hd f j = cntP (setP P p.pid { p with maps := p.maps.erase f }) j
     unfold decH
     by_cases hj : j = f
     · subst hj
       rw [if_pos rfl]
       have e3 : cntM (j :: p.maps.erase j) j = cntM (p.maps.erase j) j + 1 := by unfold cntM; simp
       omega
     · rw [if_neg hj]
       have e3 : cntM (f :: p.maps.erase f) j = cntM (p.maps.erase f) j := by
        unfold cntM
        have : ¬ f = j := fun e => hj e.symm
        simp [this]
       omega
   · have he : unmapF F P p.pid f = ((F, P), 8) := by unfold unmapF; rw [hg]; exact if_neg hf
     have hidx : Lib.idxOf p.maps f = -1 := by
      have := Lib.idxOf_miss p.maps p.maps.length f fun j hj e => hf (by
       rw [← e, List.getD_eq_getElem?_getD, List.getElem?_eq_getElem hj]
       exact List.getElem_mem hj)
      rwa [List.take_length] at this
     rw [hidx] at hix
     have HE := Lib.hid he; have HIX := Lib.hid hix
     clear he hb hv hh hg hp hidx hix hpr hm8 hf
     dsimp only [Option.getD] at hlk
     go_enter Tryz.func19, Tryz.ntmps19
     go_wp2_with (go_at_call 73; refine HIX.out.mono ?_; rintro e w1 ⟨rfl, rfl⟩)
     rw [HR.out, HE.out]
     exact ⟨rfl, HS.out.mono (by omega), KeepP.refl _ _⟩
end
end Go.Proofs.YtefpllpichhojaaGreatDoor
namespace Go.Proofs.YtefpllpichhojaaGreatDoor
open Go.RowKit
variable [Low]
section
variable {X : Nat → Prop} {w : World} {tb vb db kb n N off top : Nat} {q : Int} {F : FileS} {P : TabD}
def dirF (m : RefD) (p : By) : Bool := match entM m p with
 | none => false
 | some e => e.dir
theorem sys_dir (hE : Env w) (h : SysP X w tb vb db kb n N off top q F P) (hN : N ≤ 1000000000) : ∃ rb, w.cell? ⟨vb, 0, none⟩ = some (.pointer (some ⟨rb, 0, none⟩)) ∧ ∀ p, Calls Tryz.prog 70 #[.pointer (some ⟨rb, 0, none⟩), .string (bs p)] w fun e w' => e = .returned (.bool (dirF F.m p)) ∧ Ext w w' := by
 obtain ⟨pm, A, _, hv, _⟩ := h
 obtain ⟨rb, T, hc, hT, hL⟩ := hv.tree
 refine ⟨rb, hc, fun p => ?_⟩
 have h1 := at_Dir p hE hT hN
 have h2 := hL.ent_find p
 have e1 : dirF F.m p = (decide (findT T p ≠ 0) && (T.node (findT T p)).dir) := by
  unfold dirF
  rw [h2]
  by_cases h0 : findT T p = 0
  · rw [if_pos h0, decide_eq_false (not_not_intro h0)]; rfl
  · rw [if_neg h0, decide_eq_true h0]; rfl
 rw [e1]
 exact h1
omit [Low] in
theorem holdF_of (m : RefD) (p : By) : holdF m p = if (entM m p).isSome = true then (if dirF m p = true then (0, 10) else (idF m p, 0)) else (0, 8) := by
 unfold holdF dirF idF
 cases entM m p <;> rfl
theorem law_id (hE : Env w) (h : SysP X w tb vb db kb n N off top q F P) (hN : N ≤ 1000000000) (p : By) :
 Calls Tryz.prog 14 #[.pointer (some ⟨vb, 0, none⟩), .string (bs p)] w fun e w' => e = .returned (.tuple #[.int .i64 (holdF F.m p).1, .int .i64 (holdF F.m p).2]) ∧ Ext w w' := by
 obtain ⟨rb, hc, hfi⟩ := sys_find hE h hN
 have hdi : ∀ W, Ext w W → W.cell? ⟨vb, 0, none⟩ = some (.pointer (some ⟨rb, 0, none⟩)) ∧ Calls Tryz.prog 70 #[.pointer (some ⟨rb, 0, none⟩), .string (bs p)] W fun e w' => e = .returned (.bool (dirF F.m p)) ∧ Ext W w' := fun W k => by
  obtain ⟨rb', hc', hd⟩ := sys_dir (hE.ext k) (h.ext k) hN
  have hcw := k.cell hc
  rw [hcw] at hc'
  injection hc' with h1
  injection h1 with h2
  injection h2 with h3
  injection h3 with h4
  subst h4
  exact ⟨hcw, hd p⟩
 have hfp := hfi p
 obtain ⟨R, hR⟩ : ∃ R : Ending → World → Prop, R = fun e w' => e = .returned (.tuple #[.int .i64 (holdF F.m p).1, .int .i64 (holdF F.m p).2]) ∧ Ext w w' := ⟨_, rfl⟩
 rw [← hR]
 have HR := Lib.hid hR; clear hR
 have HFI := Lib.hid hfp; have HDI := Lib.hid hdi
 clear hE h hfi hdi hfp
 obtain ⟨ok, hok⟩ : ∃ ok, ok = (entM F.m p).isSome := ⟨_, rfl⟩
 rw [← hok] at HFI
 have HOK := Lib.hid hok; clear hok
 go_enter Tryz.func14, Tryz.ntmps14
 go_upto_region 2 with (go_at_call 69; refine HFI.out.mono ?_; rintro e w1 ⟨rfl, hx⟩; obtain ⟨c1, hd1⟩ := HDI.out _ hx; have HX1 := Lib.hid hx; have HD1 := Lib.hid hd1; clear hx hd1)
 cases ok with
 | false =>
   go_wp2_with fail
   rw [HR.out]
   refine ⟨?_, HX1.out⟩
   rw [holdF_of, ← HOK.out]
   rfl
 | true =>
   obtain ⟨d, hd⟩ : ∃ d, d = dirF F.m p := ⟨_, rfl⟩
   rw [← hd] at HD1
   have HD := Lib.hid hd; clear hd
   go_upto_region 4 with fail
   cases d with
   | true =>
     go_wp2_with (go_at_call 70; refine HD1.out.mono ?_; rintro e w2 ⟨rfl, hx⟩; have HX2 := Lib.hid hx; clear hx)
     rw [HR.out]
     refine ⟨?_, HX1.out.trans HX2.out⟩
     rw [holdF_of, ← HOK.out, ← HD.out]
     rfl
   | false =>
     go_wp2_with (go_at_call 70; refine HD1.out.mono ?_; rintro e w2 ⟨rfl, hx⟩; have HX2 := Lib.hid hx; clear hx)
     rw [HR.out]
     refine ⟨?_, HX1.out.trans HX2.out⟩
     rw [holdF_of, ← HOK.out, ← HD.out]
     rfl
end
end Go.Proofs.YtefpllpichhojaaGreatDoor
namespace Go.Proofs.YtefpllpichhojaaGreatDoor
open Go.RowKit
def idN (j : Nat) : Int := if j = 0 then 2 else if j = 1 then 3 else 5
def bitN (n : Int) (j : Nat) : Bool := bits .and .i64 (n / 2 ^ j) 1 == 1
def mapsN (n : Int) : List Int := ((List.range 3).filter (bitN n)).map idN
structure EndsI (L : List Int) (i K : Nat) (F : FileS) (P : TabD) : Prop where
 list : F.m.list = tree08.list
 next : P.next = (K : Int) + 1
 len : P.list.length + i = K
 get : ∀ t : Nat, i ≤ t → t < K → getP P ((t : Int) + 1) = some ⟨(t : Int) + 1, [117], mapsN (L.getD t 0), false⟩
section
variable {L : List Int} {i K : Nat} {F : FileS} {P : TabD}
end
end Go.Proofs.YtefpllpichhojaaGreatDoor
namespace Go.Proofs.YtefpllpichhojaaGreatDoor
open Go.RowKit
variable [Low]
theorem Ext.keepP {X : Nat → Prop} {w a b : World} (h : Ext w a) (k : KeepP X a b) (hl : Low.low = w.heap.size) : Ext w b :=
 ((Keep.of_ext (S := fun j => j < w.heap.size) h).andThen k fun g _ hg => Or.inl (by have hg : g < w.heap.size := hg; omega)).ext_lt
section
end
end Go.Proofs.YtefpllpichhojaaGreatDoor
namespace Go.Proofs.YtefpllpichhojaaGreatDoor
open Go.RowKit
variable [Low]
section
variable {X Y : Nat → Prop} {w w' : World}
def SetA (X : Nat → Prop) (w : World) (a : Option Addr) : Prop := ∀ x, a = some x → X x.block ∧ ∃ cs t fr, w.heap[x.block]? = some (.cells cs t fr) ∧ t ∉ volT
theorem SetA.keepP {a : Option Addr} (h : SetA X w a) (k : KeepP X w w') : SetA X w' a := fun x hx => by
 obtain ⟨h1, cs, t, fr, h2, h3⟩ := h x hx
 exact ⟨h1, cs, t, fr, Keep.heap k (Or.inr (Or.inl ⟨h1, Or.inr ⟨cs, t, fr, h2, h3⟩⟩)) h2, h3⟩
omit [Low] in
theorem SetA.ext {a : Option Addr} (h : SetA X w a) (k : Ext w w') : SetA X w' a := fun x hx => by
 obtain ⟨h1, cs, t, fr, h2, h3⟩ := h x hx
 exact ⟨h1, cs, t, fr, k.heap h2, h3⟩
omit [Low] in
theorem SetA.mono {a : Option Addr} (h : SetA X w a) (hx : ∀ g, X g → Y g) : SetA Y w a := fun x ha => by
 obtain ⟨h1, h2⟩ := h x ha
 exact ⟨hx _ h1, h2⟩
theorem SetA.run {a : Option Addr} {us : List Value} (h : SetA X w a) (hr : RunM w a us) (k : KeepP X w w') : RunM w' a us := runM_keep hr k fun x hx => by
 obtain ⟨h1, h2⟩ := h x hx
 exact Or.inr (Or.inl ⟨h1, Or.inr h2⟩)
omit [Low] in
theorem SetA.own {base E m n c : Nat} {a : Option Addr} {us : List Value} (h : w.ownsRow base E m (.slice a n c) n us) (hE : E ∉ volT) (hX : ∀ g, base ≤ g → g < w.heap.size → X g) : SetA X w a := fun x hx => by
 rcases h.2 with ⟨h1, _⟩ | ⟨g, c', cur, h1, hb, hg, _⟩
 · cases h1; cases hx
 · cases h1
   cases hx
   exact ⟨hX _ hb (Array.getElem?_eq_some_iff.1 hg).1, cur, E, _, hg, hE⟩
def ListR (X : Nat → Prop) (w : World) (a : Option Addr) (L : List PlayD) : Prop :=
 PlR w a L ∧ SetA X w a ∧ ∀ x ∈ L, RunM w x.2.1 (intV x.1.maps) ∧ SetA X w x.2.1 ∧ x.1.maps.length ≤ x.2.2
theorem ListR.keepP {a : Option Addr} {L : List PlayD} (h : ListR X w a L) (k : KeepP X w w') : ListR X w' a L :=
 ⟨h.2.1.run h.1 k, h.2.1.keepP k, fun x hx => ⟨(h.2.2 x hx).2.1.run (h.2.2 x hx).1 k, (h.2.2 x hx).2.1.keepP k, (h.2.2 x hx).2.2⟩⟩
omit [Low] in
theorem ListR.ext {a : Option Addr} {L : List PlayD} (h : ListR X w a L) (k : Ext w w') : ListR X w' a L :=
 ⟨RunM.ext h.1 k, h.2.1.ext k, fun x hx => ⟨(h.2.2 x hx).1.ext k, (h.2.2 x hx).2.1.ext k, (h.2.2 x hx).2.2⟩⟩
omit [Low] in
theorem ListR.mono {a : Option Addr} {L : List PlayD} (h : ListR X w a L) (hx : ∀ g, X g → Y g) : ListR Y w a L :=
 ⟨h.1, h.2.1.mono hx, fun x hm => ⟨(h.2.2 x hm).1, (h.2.2 x hm).2.1.mono hx, (h.2.2 x hm).2.2⟩⟩
end
section
variable {P : TabD}
omit [Low] in
theorem GoodP.set_at (h : GoodP P) {k : Nat} (hk : k < P.list.length) (p' : ProcD) : (setP P P.list[k].pid p').list = P.list.set k p' := by
 show P.list.map _ = _
 apply List.ext_getElem?
 intro j
 rw [List.getElem?_map, List.getElem?_set]
 by_cases hj : j < P.list.length
 · rw [List.getElem?_eq_getElem hj]
   by_cases e : k = j
   · subst e; simp [hj]
   · have hne : P.list[j].pid ≠ P.list[k].pid := fun he => by
       have h1 := (List.pairwise_iff_getElem.1 h.sorted)
       rcases Nat.lt_or_gt_of_ne e with h2 | h2
       · have := h1 k j hk hj h2; omega
       · have := h1 j k hj hk h2; omega
     simp [e, hne]
 · rw [List.getElem?_eq_none (by omega)]
   by_cases e : k = j
   · omega
   · simp [e]
omit [Low] in
theorem GoodP.del_at (h : GoodP P) {k : Nat} (hk : k < P.list.length) : (delP P P.list[k].pid).list = P.list.take k ++ P.list.drop (k + 1) := by
 show P.list.filter _ = _
 have h1 := (List.pairwise_iff_getElem.1 h.sorted)
 have e : P.list = P.list.take k ++ P.list[k] :: P.list.drop (k + 1) := by rw [List.getElem_cons_drop, List.take_append_drop]
 have hA : ∀ q ∈ P.list.take k, q.pid ≠ P.list[k].pid := fun q hq => by
  obtain ⟨j, hj, rfl⟩ := List.getElem_of_mem hq
  rw [List.length_take] at hj
  rw [List.getElem_take]
  have := h1 j k (by omega) hk (by omega); omega
 have hB : ∀ q ∈ P.list.drop (k + 1), q.pid ≠ P.list[k].pid := fun q hq => by
  obtain ⟨j, hj, rfl⟩ := List.getElem_of_mem hq
  rw [List.length_drop] at hj
  rw [List.getElem_drop]
  have := h1 k (k + 1 + j) hk (by omega) (by omega); omega
 generalize P.list[k] = x at *
 conv => lhs; rw [e, List.filter_append, List.filter_cons]
 have e1 : (P.list.take k).filter (fun q => !decide (q.pid = x.pid)) = P.list.take k := List.filter_eq_self.2 fun q hq => by simp [hA q hq]
 have e2 : (P.list.drop (k + 1)).filter (fun q => !decide (q.pid = x.pid)) = P.list.drop (k + 1) := List.filter_eq_self.2 fun q hq => by simp [hB q hq]
 have e3 : (!decide (x.pid = x.pid)) = false := by simp
 rw [e1, e2, e3]
 rfl
omit [Low] in
theorem GoodP.find8 (h : GoodP P) {L : List PlayD} (hL : P.list = L.map Prod.fst) {w : World} {a : Option Addr} (c : Nat) (x : Int) (hE : PlR w a L) {n : Nat} (hn : n = L.length) :
 Calls Tryz.prog 13 #[.slice a n c, .int .i64 x] w fun e w' => w = w' ∧ ∃ r : Int, e = .returned (.int .i64 r) ∧ ((r = -1 ∧ getP P x = none) ∨ ∃ k, ∃ hk : k < L.length, r = k ∧ getP P x = some L[k].1 ∧ L[k].1.pid = x) := by
 subst hn
 have hl : L.length ≤ 32 := by have := h.few; rw [hL, List.length_map] at this; exact this
 refine (ref_Find8 L a c x w hE (by omega)).mono ?_
 rintro e w' ⟨rfl, ⟨he, hn⟩ | ⟨k, hk, he, hp⟩⟩
 · refine ⟨rfl, -1, he, Or.inl ⟨rfl, ?_⟩⟩
   unfold getP
   refine List.find?_eq_none.2 fun q hq => ?_
   rw [hL] at hq
   obtain ⟨y, hy, rfl⟩ := List.mem_map.1 hq
   simpa using hn y hy
 · refine ⟨rfl, k, he, Or.inr ⟨k, hk, rfl, ?_, hp⟩⟩
   have hm : L[k].1 ∈ P.list := by rw [hL]; exact List.mem_map.2 ⟨L[k], List.getElem_mem hk, rfl⟩
   rw [← hp]
   exact h.get hm
omit [Low] in
theorem GoodP.at_L {L : List PlayD} (hL : P.list = L.map Prod.fst) {k : Nat} (hk : k < L.length) : ∃ h : k < P.list.length, P.list[k] = L[k].1 := by
 have h : k < P.list.length := by rw [hL, List.length_map]; exact hk
 refine ⟨h, ?_⟩
 have e : P.list[k]? = (L.map Prod.fst)[k]? := by rw [hL]
 rw [List.getElem?_eq_getElem h, List.getElem?_map, List.getElem?_eq_getElem hk] at e
 exact Option.some.inj e
omit [Low] in
theorem GoodP.set_L (h : GoodP P) {L : List PlayD} (hL : P.list = L.map Prod.fst) {k : Nat} (hk : k < L.length) (x : PlayD) : (setP P L[k].1.pid x.1).list = (L.set k x).map Prod.fst := by
 obtain ⟨h1, h2⟩ := GoodP.at_L hL hk
 rw [← h2, h.set_at h1, hL, List.map_set]
omit [Low] in
theorem GoodP.del_L (h : GoodP P) {L : List PlayD} (hL : P.list = L.map Prod.fst) {k : Nat} (hk : k < L.length) : (delP P L[k].1.pid).list = (L.take k ++ L.drop (k + 1)).map Prod.fst := by
 obtain ⟨h1, h2⟩ := GoodP.at_L hL hk
 rw [← h2, h.del_at h1, hL, List.map_append, List.map_take, List.map_drop]
end
end Go.Proofs.YtefpllpichhojaaGreatDoor
namespace Go.Proofs.YtefpllpichhojaaGreatDoor
open Go.RowKit
theorem placeM_len {m : RefD} {p : By} (h : placeM m p = 0) : p.length ≤ 40 := by
 by_cases hp : 40 < p.length
 · exfalso
   have e : upL p = none := by unfold upL; rw [pathL_long hp]
   unfold placeM at h
   rw [e] at h
   exact absurd (show (14 : Int) = 0 from h) (by decide)
 · omega
theorem ren_step {m : RefD} {p s : By} (h : (stepM m ⟨5, p, s, []⟩).2 = 0) : p.length ≤ 40 ∧ s.length ≤ 40 := by
 unfold stepM at h
 dsimp only at h
 rw [if_neg (show ¬ ((5 : Int) < 0 ∨ (6 : Int) < 5) by decide)] at h
 by_cases h1 : placeM m p ≠ 0
 · rw [if_pos h1] at h; exact absurd h h1
 rw [if_neg h1, if_neg (show ¬ 3500 < ([] : By).length from Nat.not_lt_zero _), if_neg (show ¬ ((5 : Int) = 0 ∨ (5 : Int) = 2) by decide)] at h
 refine ⟨placeM_len (by simpa using h1), ?_⟩
 cases he : entM m p with
 | none => rw [he] at h; exact absurd (show (8 : Int) = 0 from h) (by decide)
 | some x =>
   rw [he] at h
   dsimp only at h
   rw [if_neg (show ¬ ((5 : Int) = 1) by decide)] at h
   by_cases hd : x.dir = true
   · rw [if_pos hd] at h; exact absurd (show (10 : Int) = 0 from h) (by decide)
   rw [if_neg hd, if_neg (show ¬ ((5 : Int) = 3) by decide), if_neg (show ¬ ((5 : Int) = 6) by decide)] at h
   by_cases h2 : placeM m s ≠ 0
   · rw [if_pos h2] at h; exact absurd h h2
   · exact placeM_len (by simpa using h2)
theorem ren_do {m : RefD} {p s : By} (h : (doM m [⟨5, p, s, []⟩]).2 = 0) : p.length ≤ 40 ∧ s.length ≤ 40 := by
 refine ren_step (m := m) ?_
 refine Classical.byContradiction fun hn => ?_
 have e : runM m [⟨5, p, s, []⟩] = stepM m ⟨5, p, s, []⟩ := by
  show (if (stepM m ⟨5, p, s, []⟩).2 = 0 then _ else _) = _
  rw [if_neg hn]
 unfold doM at h
 rw [e, if_pos hn] at h
 exact hn h
theorem ren_size {p s : By} (h1 : p.length ≤ 40) (h2 : s.length ≤ 40) : (packOps [⟨5, p, s, []⟩]).length ≤ 96 := by
 rw [packOps_cons, List.length_append, opB_size]
 show 16 + p.length + s.length + 0 + 0 ≤ 96
 omega
variable [Low]
variable {X : Nat → Prop} {w : World} {tb vb db kb n N off top : Nat} {q : Int} {F : FileS} {P : TabD}
theorem sys_ren (hE : EnvL w) (h : SysP X w tb vb db kb n N off top q F P) {a : Option Addr} {c : Nat} {p s : By} {oa : OpA} (hL : OpsL w a [(⟨5, p, s, []⟩, oa)]) (hroom : off + 2 ≤ halfN n) (htop : top ≤ 2147483000) (hN : N + 2 ≤ 1000000000) :
 Calls Tryz.prog 24 #[.pointer (some ⟨vb, 0, none⟩), .slice a 1 c] w fun e w' => ∃ z F' off', e = .returned (.int .i64 z) ∧ off' ≤ off + 2 ∧ SysP X w' tb vb db kb n (N + 2) off' top q F' P ∧ KeepP X w w' := by
 have h0 := h
 obtain ⟨pm, A, hb, hv, hh⟩ := h
 by_cases hz : (doM F.m [⟨5, p, s, []⟩]).2 = 0
 · obtain ⟨h1, h2⟩ := ren_do hz
   have h3 := ren_size h1 h2
   have hs : secN ((packOps [⟨5, p, s, []⟩]).length + 1) ≤ 2 := by unfold secN; omega
   refine (at_vDoL hE.env hv (c := c) hL (ops := [⟨5, p, s, []⟩]) rfl (k := 1) rfl (m' := (doM F.m [⟨5, p, s, []⟩]).1) (m2 := sweepM (doM F.m [⟨5, p, s, []⟩]).1 F.hd) (by rw [← hz]) rfl (fun o ho => by rw [List.mem_singleton.1 ho]; exact ⟨⟨show (0 : Int) ≤ 5 by decide, show (5 : Int) ≤ 6 by decide⟩, h1, h2, Nat.zero_le _⟩) (by omega) rfl (by omega) htop (N' := N + 2) (by omega) (by omega)).mono ?_
   rintro e w' ⟨he, hv', hk⟩
   refine ⟨0, ⟨_, F.hd⟩, _, he, ?_, ⟨pm, A, (hb.keepY hk).mono (by omega), hv', hh⟩, KeepP.of_keepY hk fun g hg => Or.inl hg⟩
   omega
 · refine (at_vDoL_bad hE.env hv (c := c) hL (ops := [⟨5, p, s, []⟩]) rfl (k := 1) rfl rfl hz (by omega)).mono ?_
   rintro e w' ⟨he, hx⟩
   exact ⟨_, F, off, he, by omega, (h0.ext hx).mono (by omega), KeepP.of_ext hx⟩
end Go.Proofs.YtefpllpichhojaaGreatDoor
