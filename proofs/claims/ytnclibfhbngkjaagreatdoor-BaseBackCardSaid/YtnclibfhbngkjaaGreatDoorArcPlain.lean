/- A package as the document has it: farrierlaw10.Plain. -/
import Derived.Test.YtnclibfhbngkjaaGreatDoorArcRow
import Derived.Test.YtnclibfhbngkjaaGreatDoorArcRight
import Derived.Outline
import Derived.Deep.QuietTactic
namespace Go.Proofs.YtnclibfhbngkjaaGreatDoor
open Go.RowKit
theorem ownsRow_needs {E : TypeId} {w : World} {base : Nat} {a : Option Addr} {cap : Nat} {D : List NeedD} (h : w.ownsRow base E 3 (.slice a D.length cap) D.length (needC D)) : NeedsM w a D ∧ D.length ≤ cap := by
  have hlen : (needC D).length = D.length * 3 := h.1
  rcases h.2 with ⟨h1, h2⟩ | ⟨g, c, cur, h1, _, hg, hn, hm, hs, ht⟩
  · exact ⟨Or.inl (List.eq_nil_of_length_eq_zero h2), by omega⟩
  · simp only [Value.slice.injEq] at h1
    obtain ⟨rfl, _, rfl⟩ := h1
    have e0 : ∀ (j : Nat) (v : Value), (cur.toList.take (D.length * 3))[j]? = some v → cur[j]? = some v := by
      intro j v hj
      rw [List.getElem?_take] at hj
      split at hj
      · simpa using hj
      · cases hj
    refine ⟨Or.inr ⟨g, 0, rfl, (Array.getElem?_eq_some_iff.1 hg).1, fun i hi => ?_⟩, by omega⟩
    have h3 := needC_at D i hi
    rw [← ht] at h3
    refine ⟨?_, ?_, ?_⟩
    · rw [Nat.zero_add]; exact blk_cell hg _ _ (e0 _ _ h3.1)
    · rw [Nat.zero_add]; exact blk_cell hg _ _ (e0 _ _ h3.2.1)
    · rw [Nat.zero_add]; exact blk_cell hg _ _ (e0 _ _ h3.2.2)
/-- Files in a row of the call's own, their bytes as they lay. -/
def OwnFq (w0 w : World) (base : Nat) (a : Option Addr) (cap : Nat) (D : List FileD) : Prop :=
  ∃ L : List (FileD × (Option Addr × Nat)), L.map Prod.fst = D ∧ w.ownsRow base 95 3 (.slice a D.length cap) D.length (fileC L) ∧ ∀ x ∈ L, x.1.data.length ≤ x.2.2 ∧ Bytes w0 x.2.1 x.1.data
theorem OwnFq.files {w0 w : World} {base : Nat} {a : Option Addr} {cap : Nat} {D : List FileD} (h : OwnFq w0 w base a cap D) (hx : Ext w0 w) : FilesM w a D ∧ D.length ≤ cap := by
  obtain ⟨L, rfl, h, hb⟩ := h
  have hLl : (L.map Prod.fst).length = L.length := List.length_map _
  rcases h.2 with ⟨h1, h2⟩ | ⟨g, c, cur, h1, _, hg, hn, hm, hs, ht⟩
  · exact ⟨Or.inl (List.eq_nil_of_length_eq_zero h2), by omega⟩
  · simp only [Value.slice.injEq] at h1
    obtain ⟨rfl, _, rfl⟩ := h1
    have e0 : ∀ (j : Nat) (v : Value), (cur.toList.take ((L.map Prod.fst).length * 3))[j]? = some v → cur[j]? = some v := by
      intro j v hj
      rw [List.getElem?_take] at hj
      split at hj
      · simpa using hj
      · cases hj
    refine ⟨Or.inr ⟨g, 0, rfl, (Array.getElem?_eq_some_iff.1 hg).1, fun i hi => ?_⟩, by omega⟩
    have hi' : i < L.length := by omega
    have h3 := fileC_at L i hi'
    rw [← ht] at h3
    have eD : (L.map Prod.fst).getD i fz = L[i].1 := by simp [hi']
    obtain ⟨b1, b2⟩ := hb L[i] (List.getElem_mem hi')
    rw [eD]
    refine ⟨?_, ?_, L[i].2.1, L[i].2.2, ?_, b1, b2.ext hx⟩
    · rw [Nat.zero_add]; exact blk_cell hg _ _ (e0 _ _ h3.1)
    · rw [Nat.zero_add]; exact blk_cell hg _ _ (e0 _ _ h3.2.1)
    · rw [Nat.zero_add]; exact blk_cell hg _ _ (e0 _ _ h3.2.2)
theorem info_needq : (Tryz.prog.info? 128).map (fun i => (i.zero, i.size, i.bytes)) = some (some (.agg #[.string ⟨#[]⟩, .int .i64 0, .string ⟨#[]⟩]), 3, 40) := by kernel_rfl
theorem info_fileq : (Tryz.prog.info? 95).map (fun i => (i.zero, i.size, i.bytes)) = some (some (.agg #[.string ⟨#[]⟩, .bool false, .slice none 0 0]), 3, 48) := by kernel_rfl
theorem ext_keep {w w2 wr : World} {D : Nat} (h : Ext w w2) (hD : w.heap.size ≤ D) (k : Keep (fun j => j < w2.heap.size ∧ j ≠ D) w2 wr) : Ext w wr :=
  ⟨k.os.trans h.os, k.tape.trans h.tape, k.output.trans h.output, Nat.le_trans h.size k.size, fun j hj => (k.block j (Nat.lt_of_lt_of_le hj h.size) ⟨Nat.lt_of_lt_of_le hj h.size, by omega⟩).trans (h.block j hj)⟩
theorem set6p {w : World} {R : Nat} {t : TypeId} {a0 a1 a2 a3 a4 a5 : Value} (hg : w.heap[R]? = some (.cells #[a0, a1, a2, a3, a4, a5] t (0, 0))) (v0 v1 v2 v3 v4 v5 : Value) :
    ((((((w.setCell ⟨R, 0, none⟩ v0).setCell ⟨R, 1, none⟩ v1).setCell ⟨R, 2, none⟩ v2).setCell ⟨R, 3, none⟩ v3).setCell ⟨R, 4, none⟩ v4).setCell ⟨R, 5, none⟩ v5).heap[R]? = some (.cells #[v0, v1, v2, v3, v4, v5] t (0, 0)) ∧
    But R w ((((((w.setCell ⟨R, 0, none⟩ v0).setCell ⟨R, 1, none⟩ v1).setCell ⟨R, 2, none⟩ v2).setCell ⟨R, 3, none⟩ v3).setCell ⟨R, 4, none⟩ v4).setCell ⟨R, 5, none⟩ v5) := by
  refine ⟨?_, ((((((But.refl R w).setCell 0 _).setCell 1 _).setCell 2 _).setCell 3 _).setCell 4 _).setCell 5 _⟩
  exact setCell_row (setCell_row (setCell_row (setCell_row (setCell_row (setCell_row hg v0) v1) v2) v3) v4) v5
theorem take_succN {L : List NeedD} {k : Nat} (h : k < L.length) : L.take (k + 1) = L.take k ++ [L.getD k nz] := by
  rw [List.take_succ_eq_append_getElem h]; simp [h]
theorem take_succF {L : List FileD} {k : Nat} (h : k < L.length) : L.take (k + 1) = L.take k ++ [L.getD k fz] := by
  rw [List.take_succ_eq_append_getElem h]; simp [h]
set_option maxRecDepth 100000 in
set_option maxHeartbeats 6400000 in
theorem law_plain (p : PkgD) (an ac af au : Option Addr) (cn cc cf cu : Nat) (w : World) (hM : PkgM w p ⟨an, ac, af, au, cn, cc, cf, cu⟩) (hS : FitP p) :
    Calls Tryz.prog 43 #[.agg #[.string (bs p.name), .string (bs p.ver), .slice an p.needs.length cn, .slice ac p.conf.length cc, .slice af p.files.length cf, .slice au p.units.length cu]] w fun e w' => ∃ an' cn' af' cf', e = .returned (.agg #[.string (bs p.name), .string (bs p.ver), .slice an' p.needs.length cn', .slice ac p.conf.length cc, .slice af' p.files.length cf', .slice au p.units.length cu]) ∧ NeedsM w' an' p.needs ∧ FilesM w' af' p.files ∧ Ext w w' := by
  obtain ⟨R, hR⟩ : ∃ R : Ending → World → Prop, R = fun e w' => ∃ an' cn' af' cf', e = .returned (.agg #[.string (bs p.name), .string (bs p.ver), .slice an' p.needs.length cn', .slice ac p.conf.length cc, .slice af' p.files.length cf', .slice au p.units.length cu]) ∧ NeedsM w' an' p.needs ∧ FilesM w' af' p.files ∧ Ext w w' := ⟨_, rfl⟩
  rw [← hR]
  have HR := Lib.hid hR; clear hR
  have HM := Lib.hid hM; clear hM
  have hnn := hS.nn
  have hnf := hS.nf
  clear hS
  have hb1 := (Ext.alloc (w.alloc (.cells #[.string (bs p.name), .string (bs p.ver), .slice an p.needs.length cn, .slice ac p.conf.length cc, .slice af p.files.length cf, .slice au p.units.length cu] 31)) (.cells #[.string ⟨#[]⟩, .string ⟨#[]⟩, .slice none 0 0, .slice none 0 0, .slice none 0 0, .slice none 0 0] 93)).heap (heap_alloc_new w (.cells #[.string (bs p.name), .string (bs p.ver), .slice an p.needs.length cn, .slice ac p.conf.length cc, .slice af p.files.length cf, .slice au p.units.length cu] 31))
  have hc1 := heap_alloc_new (w.alloc (.cells #[.string (bs p.name), .string (bs p.ver), .slice an p.needs.length cn, .slice ac p.conf.length cc, .slice af p.files.length cf, .slice au p.units.length cu] 31)) (.cells #[.string ⟨#[]⟩, .string ⟨#[]⟩, .slice none 0 0, .slice none 0 0, .slice none 0 0, .slice none 0 0] 93)
  have hx1 : Ext w ((w.alloc (.cells #[.string (bs p.name), .string (bs p.ver), .slice an p.needs.length cn, .slice ac p.conf.length cc, .slice af p.files.length cf, .slice au p.units.length cu] 31)).alloc (.cells #[.string ⟨#[]⟩, .string ⟨#[]⟩, .slice none 0 0, .slice none 0 0, .slice none 0 0, .slice none 0 0] 93)) := (Ext.alloc _ _).trans (Ext.alloc _ _)
  have hz1 : ((w.alloc (.cells #[.string (bs p.name), .string (bs p.ver), .slice an p.needs.length cn, .slice ac p.conf.length cc, .slice af p.files.length cf, .slice au p.units.length cu] 31)).alloc (.cells #[.string ⟨#[]⟩, .string ⟨#[]⟩, .slice none 0 0, .slice none 0 0, .slice none 0 0, .slice none 0 0] 93)).heap.size = w.heap.size + 2 := by simp
  rw [World.size_alloc] at hc1
  have HB1 := Lib.hid hb1; clear hb1
  have HC1 := Lib.hid hc1; clear hc1
  have HX1 := Lib.hid hx1; clear hx1
  have HZ1 := Lib.hid hz1; clear hz1
  go_enter Tryz.func43, Tryz.ntmps43
  go_upto_region 1 with (fail)
  generalize (w.alloc (.cells #[.string (bs p.name), .string (bs p.ver), .slice an p.needs.length cn, .slice ac p.conf.length cc, .slice af p.files.length cf, .slice au p.units.length cu] 31)).alloc (.cells #[.string ⟨#[]⟩, .string ⟨#[]⟩, .slice none 0 0, .slice none 0 0, .slice none 0 0, .slice none 0 0] 93) = w1 at HB1 HC1 HX1 HZ1 ⊢
  have hz1 := HZ1.out
  have d0 := blk_cell HB1.out 0 _ rfl
  have d1 := blk_cell HB1.out 1 _ rfl
  have d3 := blk_cell HB1.out 3 _ rfl
  have d5 := blk_cell HB1.out 5 _ rfl
  have hd2 := heap_alloc_new w1 (.cells #[.string (bs p.name), .string (bs p.ver), .slice none 0 0, .slice ac p.conf.length cc, .slice none 0 0, .slice au p.units.length cu] 93)
  have hx2 := Ext.alloc w1 (.cells #[.string (bs p.name), .string (bs p.ver), .slice none 0 0, .slice ac p.conf.length cc, .slice none 0 0, .slice au p.units.length cu] 93)
  have hz2 : (w1.alloc (.cells #[.string (bs p.name), .string (bs p.ver), .slice none 0 0, .slice ac p.conf.length cc, .slice none 0 0, .slice au p.units.length cu] 93)).heap.size = w1.heap.size + 1 := by simp
  have HD2 := Lib.hid hd2; clear hd2
  have HX2a := Lib.hid hx2; clear hx2
  have HZ2 := Lib.hid hz2; clear hz2 hz1
  go_upto_region 2 with (fail)
  generalize w1.alloc (.cells #[.string (bs p.name), .string (bs p.ver), .slice none 0 0, .slice ac p.conf.length cc, .slice none 0 0, .slice au p.units.length cu] 93) = w2 at HD2 HX2a HZ2 ⊢
  clear d0 d1 d3 d5
  replace HB1 := Lib.hid (HX2a.out.heap HB1.out)
  replace HC1 := Lib.hid (HX2a.out.heap HC1.out)
  replace HX1 := Lib.hid (HX1.out.trans HX2a.out)
  clear HX2a
  obtain ⟨B, hB⟩ : ∃ B, B = w.heap.size := ⟨_, rfl⟩
  obtain ⟨C, hC⟩ : ∃ C, C = w.heap.size + 1 := ⟨_, rfl⟩
  obtain ⟨D, hD⟩ : ∃ D, D = w1.heap.size := ⟨_, rfl⟩
  have hlt0 : B < D ∧ C < D ∧ D < w2.heap.size ∧ w.heap.size ≤ D ∧ w.heap.size ≤ C := by
    have h1 := HZ1.out; have h2 := HZ2.out; omega
  rw [← hC] at HC1 ⊢
  rw [← hD] at HD2 ⊢
  rw [← hB] at HB1 ⊢
  have HL := Lib.hid hlt0
  clear hB hC hD HZ1 HZ2 hlt0
  have d2 := blk_cell HB1.out 2 _ rfl
  go_wp2_with fail
  clear d2
  go_loopw [20] (fun i wr => ∃ (k : Nat) (aN : Option Addr) (qN : Nat), i = .int .i64 k ∧ k ≤ p.needs.length ∧ Hid (wr.heap[D]? = some (.cells #[.string (bs p.name), .string (bs p.ver), .slice aN k qN, .slice ac p.conf.length cc, .slice none 0 0, .slice au p.units.length cu] 93)) ∧ Hid (wr.ownsRow w2.heap.size 128 3 (.slice aN k qN) k (needC (p.needs.take k))) ∧ Hid (Keep (fun j => j < w2.heap.size ∧ j ≠ D) w2 wr)) (fun i _ => p.needs.length - (intOf i).toNat)
  case atStart => exact ⟨0, none, 0, rfl, Nat.zero_le _, HD2, Lib.hid (World.ownsRow_nil _ _ _ _), Lib.hid (Keep.refl _ _)⟩
  case round =>
    obtain ⟨k, aN, qN, rfl, hk, HD, HO, HK⟩ := hrel
    have hbl := HL.out
    have hzr := HK.out.size
    have HXr := Lib.hid (ext_keep HX1.out hbl.2.2.2.1 HK.out)
    by_cases hlt : k < p.needs.length
    · obtain ⟨gN, off, rfl, _, h1, h2, h3⟩ := (HM.out.needs.ext HXr.out).at hlt
      have hts := take_succN hlt
      obtain ⟨q, hq⟩ : ∃ q, q = p.needs.getD k nz := ⟨_, rfl⟩
      rw [← hq] at h1 h2 h3 hts
      have HTS := Lib.hid hts; clear hts hq
      obtain ⟨mn, mk, mv⟩ := q
      simp only at h1 h2 h3
      have hi0 : (0 : Int) ≤ (k : Int) := by omega
      have hi1 : (k : Int) < (p.needs.length : Int) := by omega
      have hn0 := cell_new wr #[.string (bs mn), .int .i64 mk, .string (bs mv)] 68 0 _ rfl
      have hn1 := cell_new wr #[.string (bs mn), .int .i64 mk, .string (bs mv)] 68 1 _ rfl
      have hn2 := cell_new wr #[.string (bs mn), .int .i64 mk, .string (bs mv)] 68 2 _ rfl
      have hxn := Ext.alloc wr (.cells #[.string (bs mn), .int .i64 mk, .string (bs mv)] 68)
      have HZ := Lib.hid (And.intro hn0 (And.intro hn1 (And.intro hn2 hxn))); clear hn0 hn1 hn2 hxn
      go_upto_region 5 with (fail)
      generalize wr.alloc (.cells #[.string (bs mn), .int .i64 mk, .string (bs mv)] 68) = wn at HZ ⊢
      obtain ⟨n0, n1, n2, hxn⟩ := HZ.out
      have HDn := Lib.hid (hxn.heap HD.out)
      have HOn := Lib.hid (ownsRow_ext HO.out hxn)
      have hzn := hxn.size
      have HKn := Lib.hid (HK.out.trans (Keep.of_ext hxn)); clear hxn h1 h2 h3 HZ HD HO HK
      have e2 : wn.cell? ⟨D, 2, none⟩ = some (.slice aN k qN) := blk_cell HDn.out 2 _ rfl
      go_wp2_with (first
        | (at_builtin; refine append_big rfl (.tmp 25) (.tmp 27) 90 128 (.agg #[.string ⟨#[]⟩, .int .i64 0, .string ⟨#[]⟩]) 3 40 rfl Tryz.underlying90 info_needq rfl (by decide) w2.heap.size aN k qN (needC (p.needs.take k)) rfl (ownsRow_ext HOn.out (Ext.alloc _ _)) wn.heap.size 1 1 [.string (bs mn), .int .i64 mk, .string (bs mv)] _ _ rfl (by rfl) (heap_alloc_new wn _) (by simp [Value.oneCell']) (by omega) (by omega) (by decide) ?_ (k + 1) rfl ?_; (simp; omega); intro g1 cap1 w3 hown3 hk3 hb3 hat3; have HD3 := Lib.hid ((hb3.block D hbl.2.2.1).trans ((Ext.alloc wn _).heap HDn.out)); have HO3 := Lib.hid hown3; have HK3 := Lib.hid (Keep.of_below hb3); have f2 := blk_free HD3.out 2; have v2 : w3.cell? ⟨D, 2, none⟩ = some (.slice aN k qN) := blk_cell HD3.out 2 _ rfl; clear hown3 hk3 hb3 hat3))
      go_roundw
      case rel =>
        refine ⟨k + 1, some ⟨g1, 0, none⟩, cap1, by go_num, by omega, Lib.hid (setCell_row HD3.out _), Lib.hid ?_, Lib.hid ?_⟩
        · rw [HTS.out]
          have : needC (p.needs.take k ++ [⟨mn, mk, mv⟩]) = needC (p.needs.take k) ++ [.string (bs mn), .int .i64 mk, .string (bs mv)] := by simp [needC]
          rw [this]
          exact ownsRow_keep HO3.out (Keep.of_but ((But.refl D w3).setCell 2 _)) (fun g _ _ hb _ => by show g ≠ D; omega)
        · exact HKn.out.trans ((Keep.of_ext (Ext.alloc wn _)).trans ((HK3.out.mono (fun _ _ h => h.1)).trans ((Keep.of_but ((But.refl D w3).setCell 2 _)).mono (fun _ _ h => h.2))))
      case measure => simp [intOf]; omega
    · have hkk : k = p.needs.length := by omega
      subst hkk
      have hON := HO.out
      rw [List.take_length] at hON
      have HON := Lib.hid hON; clear hON HO
      obtain ⟨w3, hw3⟩ : ∃ x : World, x = wr := ⟨_, rfl⟩
      rw [← hw3] at HON HD HK HXr hzr ⊢
      clear hw3
      have HB3 := Lib.hid (HK.out.heap ⟨by omega, by omega⟩ HB1.out)
      have HC3 := Lib.hid (HK.out.heap ⟨by omega, by omega⟩ HC1.out)
      have d4 := blk_cell HB3.out 4 _ rfl
      clear HK HB1 HC1
      have hD3 : D < w3.heap.size := by omega
      go_wp2_with fail
      clear d4 hk hlt
      go_loopw [34] (fun i wr => ∃ (k : Nat) (aF : Option Addr) (qF : Nat), i = .int .i64 k ∧ k ≤ p.files.length ∧ Hid (wr.heap[D]? = some (.cells #[.string (bs p.name), .string (bs p.ver), .slice aN p.needs.length qN, .slice ac p.conf.length cc, .slice aF k qF, .slice au p.units.length cu] 93)) ∧ Hid (OwnFq w wr w3.heap.size aF qF (p.files.take k)) ∧ Hid (Keep (fun j => j < w3.heap.size ∧ j ≠ D) w3 wr)) (fun i _ => p.files.length - (intOf i).toNat)
      case atStart => exact ⟨0, none, 0, rfl, Nat.zero_le _, HD, Lib.hid ⟨[], rfl, World.ownsRow_nil _ _ _ _, by simp⟩, Lib.hid (Keep.refl _ _)⟩
      case round =>
        obtain ⟨k, aF, qF, rfl, hk, HD, HO, HK⟩ := hrel
        have hzr2 := HK.out.size
        have HXr2 := Lib.hid (ext_keep HXr.out hbl.2.2.2.1 HK.out)
        by_cases hlt : k < p.files.length
        · obtain ⟨gN, off, rfl, _, hfa⟩ := HM.out.files.at hlt
          have hts := take_succF hlt
          obtain ⟨q, hq⟩ : ∃ q, q = p.files.getD k fz := ⟨_, rfl⟩
          rw [← hq] at hfa hts
          have HTS := Lib.hid hts; clear hts hq
          obtain ⟨mp, mc, md⟩ := q
          obtain ⟨h1, h2, fd, fc, h3, hfc, hfb⟩ := hfa
          simp only at h1 h2 h3 hfc hfb
          replace h1 := HXr2.out.cell h1
          replace h2 := HXr2.out.cell h2
          replace h3 := HXr2.out.cell h3
          have HFB := Lib.hid hfb; clear hfb
          obtain ⟨L, hL, hOw, hLb⟩ := HO.out
          have hkt : (p.files.take k).length = k := by simp; omega
          rw [hkt] at hOw
          have HLL := Lib.hid hL; clear hL hkt
          have HLB := Lib.hid hLb; clear hLb
          have hi0 : (0 : Int) ≤ (k : Int) := by omega
          have hi1 : (k : Int) < (p.files.length : Int) := by omega
          have hn0 := cell_new wr #[.string (bs mp), .bool mc, .slice fd md.length fc] 76 0 _ rfl
          have hn1 := cell_new wr #[.string (bs mp), .bool mc, .slice fd md.length fc] 76 1 _ rfl
          have hn2 := cell_new wr #[.string (bs mp), .bool mc, .slice fd md.length fc] 76 2 _ rfl
          have hxn := Ext.alloc wr (.cells #[.string (bs mp), .bool mc, .slice fd md.length fc] 76)
          have HZ := Lib.hid (And.intro hn0 (And.intro hn1 (And.intro hn2 (And.intro (ownsRow_ext hOw hxn) hxn)))); clear hn0 hn1 hn2 hxn hOw HO
          go_upto_region 10 with (fail)
          generalize wr.alloc (.cells #[.string (bs mp), .bool mc, .slice fd md.length fc] 76) = wn at HZ ⊢
          obtain ⟨n0, n1, n2, hOn, hxn⟩ := HZ.out
          have HDn := Lib.hid (hxn.heap HD.out)
          have HOn := Lib.hid hOn
          have hzn := hxn.size
          have HKn := Lib.hid (HK.out.trans (Keep.of_ext hxn)); clear hxn h1 h2 h3 HZ HD HK hOn
          have e2 : wn.cell? ⟨D, 4, none⟩ = some (.slice aF k qF) := blk_cell HDn.out 4 _ rfl
          go_wp2_with (first
            | (at_builtin; refine append_big rfl (.tmp 39) (.tmp 41) 91 95 (.agg #[.string ⟨#[]⟩, .bool false, .slice none 0 0]) 3 48 rfl Tryz.underlying91 info_fileq rfl (by decide) w3.heap.size aF k qF (fileC L) rfl (ownsRow_ext HOn.out (Ext.alloc _ _)) wn.heap.size 1 1 [.string (bs mp), .bool mc, .slice fd md.length fc] _ _ rfl (by rfl) (heap_alloc_new wn _) (by simp [Value.oneCell']) (by omega) (by omega) (by decide) ?_ (k + 1) rfl ?_; (simp; omega); intro g1 cap1 w4 hown3 hk3 hb3 hat3; have HD3 := Lib.hid ((hb3.block D hD3).trans ((Ext.alloc wn _).heap HDn.out)); have HO3 := Lib.hid hown3; have HK3 := Lib.hid (Keep.of_below hb3); have f2 := blk_free HD3.out 4; have v2 : w4.cell? ⟨D, 4, none⟩ = some (.slice aF k qF) := blk_cell HD3.out 4 _ rfl; clear hown3 hk3 hb3 hat3))
          go_roundw
          case rel =>
            refine ⟨k + 1, some ⟨g1, 0, none⟩, cap1, by go_num, by omega, Lib.hid (setCell_row HD3.out _), Lib.hid ⟨L ++ [(⟨mp, mc, md⟩, fd, fc)], ?_, ?_, ?_⟩, Lib.hid ?_⟩
            · rw [HTS.out, List.map_append, HLL.out]; rfl
            · have hkt : (p.files.take (k + 1)).length = k + 1 := by simp; omega
              rw [hkt]
              have : fileC (L ++ [(⟨mp, mc, md⟩, fd, fc)]) = fileC L ++ [.string (bs mp), .bool mc, .slice fd md.length fc] := by simp [fileC]
              rw [this]
              exact ownsRow_keep HO3.out (Keep.of_but ((But.refl D w4).setCell 4 _)) (fun g _ _ hb _ => by show g ≠ D; omega)
            · intro x hx
              rcases List.mem_append.1 hx with hx | hx
              · exact HLB.out x hx
              · rw [List.mem_singleton.1 hx]
                exact ⟨hfc, HFB.out⟩
            · exact HKn.out.trans ((Keep.of_ext (Ext.alloc wn _)).trans ((HK3.out.mono (fun _ _ h => h.1)).trans ((Keep.of_but ((But.refl D w4).setCell 4 _)).mono (fun _ _ h => h.2))))
          case measure => simp [intOf]; omega
        · have hkk : k = p.files.length := by omega
          subst hkk
          have hOF := HO.out
          rw [List.take_length] at hOF
          have HOF := Lib.hid hOF; clear hOF HO
          have HCr := Lib.hid (HK.out.heap ⟨by omega, by omega⟩ HC3.out)
          have hONr : wr.ownsRow w2.heap.size 128 3 (.slice aN p.needs.length qN) p.needs.length (needC p.needs) := ownsRow_keep HON.out HK.out (fun g cur _ hb hg => ⟨(Array.getElem?_eq_some_iff.1 hg).1, by omega⟩)
          have HONr := Lib.hid hONr; clear hONr
          have c0 := blk_cell HD.out 0 _ rfl
          have c1 := blk_cell HD.out 1 _ rfl
          have c2 : wr.cell? ⟨D, 2, none⟩ = some (.slice aN p.needs.length qN) := blk_cell HD.out 2 _ rfl
          have c3 := blk_cell HD.out 3 _ rfl
          have c4 : wr.cell? ⟨D, 4, none⟩ = some (.slice aF p.files.length qF) := blk_cell HD.out 4 _ rfl
          have c5 := blk_cell HD.out 5 _ rfl
          have e0 : wr.cell? ⟨C, 0, none⟩ = some (.string ⟨#[]⟩) := blk_cell HCr.out 0 _ rfl
          have e1 : wr.cell? ⟨C, 1, none⟩ = some (.string ⟨#[]⟩) := blk_cell HCr.out 1 _ rfl
          have e2 : wr.cell? ⟨C, 2, none⟩ = some (.slice none 0 0) := blk_cell HCr.out 2 _ rfl
          have e3 : wr.cell? ⟨C, 3, none⟩ = some (.slice none 0 0) := blk_cell HCr.out 3 _ rfl
          have e4 : wr.cell? ⟨C, 4, none⟩ = some (.slice none 0 0) := blk_cell HCr.out 4 _ rfl
          have e5 : wr.cell? ⟨C, 5, none⟩ = some (.slice none 0 0) := blk_cell HCr.out 5 _ rfl
          have f0 := blk_free HCr.out 0
          have f1 := blk_free HCr.out 1
          have f2 := blk_free HCr.out 2
          have f3 := blk_free HCr.out 3
          have f4 := blk_free HCr.out 4
          have f5 := blk_free HCr.out 5
          go_wp2_with fail
          obtain ⟨hs6, hbut⟩ := set6p HCr.out (.string (bs p.name)) (.string (bs p.ver)) (.slice aN p.needs.length qN) (.slice ac p.conf.length cc) (.slice aF p.files.length qF) (.slice au p.units.length cu)
          generalize ((((((wr.setCell ⟨C, 0, none⟩ (.string (bs p.name))).setCell ⟨C, 1, none⟩ (.string (bs p.ver))).setCell ⟨C, 2, none⟩ (.slice aN p.needs.length qN)).setCell ⟨C, 3, none⟩ (.slice ac p.conf.length cc)).setCell ⟨C, 4, none⟩ (.slice aF p.files.length qF)).setCell ⟨C, 5, none⟩ (.slice au p.units.length cu)) = wf at hs6 hbut ⊢
          clear c0 c1 c2 c3 c4 c5 f0 f1 f2 f3 f4 f5 e0 e1 e2 e3 e4 e5
          have c0 := blk_cell hs6 0 _ rfl
          have c1 := blk_cell hs6 1 _ rfl
          have c2 := blk_cell hs6 2 _ rfl
          have c3 := blk_cell hs6 3 _ rfl
          have c4 := blk_cell hs6 4 _ rfl
          have c5 := blk_cell hs6 5 _ rfl
          refine bodyPost_ret (v := .agg #[.string (bs p.name), .string (bs p.ver), .slice aN p.needs.length qN, .slice ac p.conf.length cc, .slice aF p.files.length qF, .slice au p.units.length cu]) (by simp [results, Tryz.results43, go_sem, c0, c1, c2, c3, c4, c5]) rfl ?_
          have hxf : Ext w wf := (((Keep.of_ext HXr2.out).trans ((Keep.of_but hbut).mono (fun j _ (hj : j < w.heap.size) => by show j ≠ C; omega))).ext_lt)
          rw [HR.out]
          refine ⟨aN, qN, aF, qF, rfl, (ownsRow_needs (ownsRow_keep HONr.out (Keep.of_but hbut) (fun g cur _ hb hg => by show g ≠ C; omega))).1, ?_, hxf⟩
          obtain ⟨L, h1, h2, h3⟩ := HOF.out
          have h4 : OwnFq w wf w3.heap.size aF qF p.files := ⟨L, h1, ownsRow_keep h2 (Keep.of_but hbut) (fun g cur _ hb hg => by show g ≠ C; omega), h3⟩
          exact (h4.files hxf).1
end Go.Proofs.YtnclibfhbngkjaaGreatDoor
