/- farrierlaw11.key: what a package that is there says, as text: the document's bytes of it, of its files the sums alone. -/
import Derived.Test.YtnclibfhbngkjaaGreatDoorArcPlain
import Derived.Test.YtnclibfhbngkjaaGreatDoorRef02
import Derived.Test.YtnclibfhbngkjaaGreatDoorRef10Pack
import Derived.Test.YtnclibfhbngkjaaGreatDoorM3
import Derived.Outline
namespace Go.Proofs.YtnclibfhbngkjaaGreatDoor
open Go.RowKit
theorem ways_right {p : PkgD} (h : rightP p = true) : ∀ n ∈ p.needs, 0 ≤ n.way ∧ n.way < 4294967296 := by
  intro n hn
  unfold rightP at h
  simp only [Bool.and_eq_true] at h
  have h2 := List.all_eq_true.1 h.2.1 n hn
  unfold needR at h2
  simp only [Bool.and_eq_true, Bool.or_eq_true, decide_eq_true_eq] at h2
  rcases h2.2 with h3 | h3 <;> omega
/-- Files (as the document has them) in a row of the call's own, their bytes elsewhere, in blocks of the call's own. -/
def OwnK (w : World) (base : Nat) (a : Option Addr) (cap : Nat) (D : List FileD) : Prop :=
  ∃ L : List (FileD × (Option Addr × Nat)), L.map Prod.fst = D ∧ w.ownsRow base 95 3 (.slice a D.length cap) D.length (fileC L) ∧
    ∀ x ∈ L, x.1.data.length ≤ x.2.2 ∧ BytesS (fun k => base ≤ k ∧ some k ≠ (Value.slice a D.length cap).ownBlock) w x.2.1 x.1.data
theorem OwnK.keep {w w' : World} {base R : Nat} {a : Option Addr} {cap : Nat} {D : List FileD} (h : OwnK w base a cap D) (k : Keep (· ≠ R) w w') (hR : R < base) : OwnK w' base a cap D := by
  obtain ⟨L, h1, h2, h3⟩ := h
  exact ⟨L, h1, ownsRow_keep h2 k (fun g _ _ hb _ => by show g ≠ R; omega), fun x hx => ⟨(h3 x hx).1, Row.keep (h3 x hx).2 (k.mono (fun g _ hg => by have := hg.1; show g ≠ R; omega))⟩⟩
theorem OwnK.ext {w w' : World} {base : Nat} {a : Option Addr} {cap : Nat} {D : List FileD} (h : OwnK w base a cap D) (k : Ext w w') : OwnK w' base a cap D := by
  obtain ⟨L, h1, h2, h3⟩ := h
  exact ⟨L, h1, ownsRow_ext h2 k, fun x hx => ⟨(h3 x hx).1, Row.keep (h3 x hx).2 (Keep.of_ext k)⟩⟩
theorem OwnK.add {w2 w3 : World} {base g1 cap1 : Nat} {a : Option Addr} {cap : Nat} {D : List FileD} {f : FileD} {L : List (FileD × (Option Addr × Nat))} {d : Option Addr} {q : Nat} {o : Obj}
    (h1 : L.map Prod.fst = D) (h3 : ∀ x ∈ L, x.1.data.length ≤ x.2.2 ∧ BytesS (fun k => base ≤ k ∧ some k ≠ (Value.slice a D.length cap).ownBlock) w2 x.2.1 x.1.data)
    (hq : f.data.length ≤ q) (hd : BytesS (fun k => base ≤ k ∧ some k ≠ (Value.slice a D.length cap).ownBlock) w2 d f.data)
    (hown : w3.ownsRow base 95 3 (.slice (some ⟨g1, 0, none⟩) (D.length + 1) cap1) (D.length + 1) (fileC L ++ [.string (bs f.path), .bool f.config, .slice d f.data.length q]))
    (hk : Keep (fun k => some k ≠ (Value.slice a D.length cap).ownBlock) (w2.alloc o) w3) (hat : (Value.slice a D.length cap).ownBlock = some g1 ∨ g1 = (w2.alloc o).heap.size) :
    OwnK w3 base (some ⟨g1, 0, none⟩) cap1 (D ++ [f]) := by
  have hb : ∀ {p : Option Addr} {l : By}, BytesS (fun k => base ≤ k ∧ some k ≠ (Value.slice a D.length cap).ownBlock) w2 p l → BytesS (fun k => base ≤ k ∧ some k ≠ (Value.slice (some ⟨g1, 0, none⟩) (D ++ [f]).length cap1).ownBlock) w3 p l := by
    intro p l hb
    have e1 : BytesS (fun k => base ≤ k ∧ some k ≠ (Value.slice a D.length cap).ownBlock ∧ k < (w2.alloc o).heap.size) (w2.alloc o) p l :=
      (Row.keep hb (Keep.of_ext (Ext.alloc w2 o))).mono (fun k hk hs => ⟨hs.1, hs.2, hk⟩)
    refine (Row.keep e1 (hk.mono (fun k _ hs => hs.2.1))).mono (fun k _ hs => ⟨hs.1, ?_⟩)
    show some k ≠ some g1
    rcases hat with hat | hat
    · rw [hat] at hs; exact hs.2.1
    · intro e; have := Option.some.inj e; have := hs.2.2; omega
  refine ⟨L ++ [(f, d, q)], by rw [List.map_append, h1]; rfl, ?_, ?_⟩
  · rw [List.length_append]
    simpa [fileC] using hown
  · intro x hx
    rcases List.mem_append.1 hx with hx | hx
    · exact ⟨(h3 x hx).1, hb (h3 x hx).2⟩
    · rw [List.mem_singleton.1 hx]
      exact ⟨hq, hb hd⟩
theorem OwnK.lt {w : World} {base : Nat} {a : Option Addr} {cap : Nat} {D : List FileD} (h : OwnK w base a cap D) (g : Nat) (e : (Value.slice a D.length cap).ownBlock = some g) : g < w.heap.size := by
  obtain ⟨L, _, h2, _⟩ := h
  exact (World.ownsRow.lt h2 g e).2
theorem OwnK.files {w : World} {base : Nat} {a : Option Addr} {cap : Nat} {D : List FileD} (h : OwnK w base a cap D) : FilesM w a D ∧ D.length ≤ cap := by
  obtain ⟨L, rfl, h, hb⟩ := h
  have hLl : (L.map Prod.fst).length = L.length := List.length_map _
  rcases h.2 with ⟨h1, h2⟩ | ⟨g, c, cur, h1, _, hg, hn, hm, hs, ht⟩
  · exact ⟨Or.inl (List.eq_nil_of_length_eq_zero h2), by omega⟩
  · simp only [Value.slice.injEq] at h1
    obtain ⟨rfl, _, rfl⟩ := h1
    have e0 : ∀ (j : Nat) (v : Value), (cur.toList.take ((L.map Prod.fst).length * 3))[j]? = some v → cur[j]? = some v := by
      intro j v hj
      rw [List.getElem?_take] at hj
      split at hj
      · simpa using hj
      · cases hj
    refine ⟨Or.inr ⟨g, 0, rfl, (Array.getElem?_eq_some_iff.1 hg).1, fun i hi => ?_⟩, by omega⟩
    have hi' : i < L.length := by omega
    have h3 := fileC_at L i hi'
    rw [← ht] at h3
    have eD : (L.map Prod.fst).getD i fz = L[i].1 := by simp [hi']
    obtain ⟨b1, b2⟩ := hb L[i] (List.getElem_mem hi')
    rw [eD]
    refine ⟨?_, ?_, L[i].2.1, L[i].2.2, ?_, b1, b2.bytes⟩
    · rw [Nat.zero_add]; exact blk_cell hg _ _ (e0 _ _ h3.1)
    · rw [Nat.zero_add]; exact blk_cell hg _ _ (e0 _ _ h3.2.1)
    · rw [Nat.zero_add]; exact blk_cell hg _ _ (e0 _ _ h3.2.2)
theorem OwnK.new0 (w : World) : OwnK (w.alloc (.cells #[] 95)) w.heap.size (some ⟨w.heap.size, 0, none⟩) 0 [] :=
  ⟨[], rfl, ⟨rfl, Or.inr ⟨w.heap.size, 0, #[], rfl, Nat.le_refl _, heap_alloc_new w _, Nat.le_refl _, by unfold maxLen; omega, rfl, rfl⟩⟩, by simp⟩
theorem sumB_len (l : By) : (sumB l).length = 4 := rfl
theorem ofF_snoc {L : List FileD} {k : Nat} (h : k < L.length) : (L.take (k + 1)).map ofF = (L.take k).map ofF ++ [ofF (L.getD k fz)] := by
  rw [List.take_succ_eq_append_getElem h, List.map_append]; simp [h]
set_option maxRecDepth 100000 in
set_option maxHeartbeats 6400000 in
theorem base_key (p : PkgD) (an ac af au : Option Addr) (cn cc cf cu : Nat) (w : World) (hM : PkgM w p ⟨an, ac, af, au, cn, cc, cf, cu⟩) (hr : rightP p = true) :
    Calls Tryz.prog 12 #[.agg #[.string (bs p.name), .string (bs p.ver), .slice an p.needs.length cn, .slice ac p.conf.length cc, .slice af p.files.length cf, .slice au p.units.length cu]] w fun e w' => e = .returned (.string (bs (packP (ofP p)))) ∧ Ext w w' := by
  obtain ⟨R, hR⟩ : ∃ R : Ending → World → Prop, R = fun e w' => e = .returned (.string (bs (packP (ofP p)))) ∧ Ext w w' := ⟨_, rfl⟩
  rw [← hR]
  have HR := Lib.hid hR; clear hR
  have HM := Lib.hid hM; clear hM
  have hfit := FitP.of_right hr
  have hnn := hfit.nn
  have hnf := hfit.nf
  have hfd := hfit.files
  have HFIT := Lib.hid hfit; clear hfit
  have HRT := Lib.hid hr; clear hr
  have HFD := Lib.hid hfd; clear hfd
  have hx0 := Ext.alloc w (.cells #[.string (bs p.name), .string (bs p.ver), .slice an p.needs.length cn, .slice ac p.conf.length cc, .slice af p.files.length cf, .slice au p.units.length cu] 31)
  have HX0 := Lib.hid hx0; clear hx0
  have hpl := fun W hM => law_plain p an ac af au cn cc cf cu W hM HFIT.out
  have HPL := Lib.hid hpl; clear hpl
  go_enter Tryz.func12, Tryz.ntmps12
  go_upto_region 1 with (fail)
  go_upto_region 2 with (first
    | (go_at_call 43; refine (HPL.out _ (HM.out.ext HX0.out)).mono ?_; rintro e w2 ⟨an2, cn2, af2, cf2, rfl, hN2, hF2, hx2⟩; have HN2 := Lib.hid hN2; have HF2 := Lib.hid hF2; have HX2 := Lib.hid (HX0.out.trans hx2); clear hN2 hF2 hx2))
  have hb3 := heap_alloc_new w2 (.cells #[.string (bs p.name), .string (bs p.ver), .slice an2 p.needs.length cn2, .slice ac p.conf.length cc, .slice af2 p.files.length cf2, .slice au p.units.length cu] 93)
  have hx3 := Ext.alloc w2 (.cells #[.string (bs p.name), .string (bs p.ver), .slice an2 p.needs.length cn2, .slice ac p.conf.length cc, .slice af2 p.files.length cf2, .slice au p.units.length cu] 93)
  have hz3 : (w2.alloc (.cells #[.string (bs p.name), .string (bs p.ver), .slice an2 p.needs.length cn2, .slice ac p.conf.length cc, .slice af2 p.files.length cf2, .slice au p.units.length cu] 93)).heap.size = w2.heap.size + 1 := by simp
  have HB3 := Lib.hid hb3; clear hb3
  generalize w2.alloc (.cells #[.string (bs p.name), .string (bs p.ver), .slice an2 p.needs.length cn2, .slice ac p.conf.length cc, .slice af2 p.files.length cf2, .slice au p.units.length cu] 93) = w3 at HB3 hx3 hz3 ⊢
  obtain ⟨C, hC⟩ : ∃ C, C = w2.heap.size := ⟨_, rfl⟩
  rw [← hC] at HB3 hz3 ⊢
  have hwC : w.heap.size ≤ C := by have := HX2.out.size; omega
  have HF3 := Lib.hid (HF2.out.ext hx3)
  have HX23 := Lib.hid hx3
  have HC2 := Lib.hid hC
  clear hx3 HF2 hC
  have ho4 := OwnK.new0 w3
  have hx4 := Ext.alloc w3 (.cells #[] 95)
  have hb4 := hx4.heap HB3.out
  have d4 : (w3.alloc (.cells #[] 95)).cell? ⟨C, 4, none⟩ = some (.slice af2 p.files.length cf2) := blk_cell hb4 4 _ rfl
  have HO4 := Lib.hid ho4; clear ho4 hb4
  have HX4 := Lib.hid hx4; clear hx4
  have HZ3 := Lib.hid hz3; clear hz3
  clear HPL HX0
  go_wp2_with fail
  clear d4
  generalize (w3.alloc (.cells #[] 95)) = w4 at HO4 HX4 ⊢
  obtain ⟨G, hG⟩ : ∃ G, G = w3.heap.size := ⟨_, rfl⟩
  rw [← hG] at HO4 ⊢
  have hz3 := HZ3.out
  have hCG : C < G := by omega
  have hwG : w.heap.size ≤ G := by omega
  have HG := Lib.hid hG; clear hG hz3 HZ3
  go_loopw [4, 14] (fun v i wr => ∃ (D : List FileD) (aF : Option Addr) (qF : Nat), v = .slice aF D.length qF ∧ i = .int .i64 D.length ∧ D.length ≤ p.files.length ∧ Hid (D = (p.files.take D.length).map ofF) ∧ Hid (OwnK wr G aF qF D) ∧ Hid (Keep (fun j => j < G) w4 wr)) (fun _ i _ => p.files.length - (intOf i).toNat)
  case atStart => exact ⟨[], _, _, rfl, rfl, Nat.zero_le _, Lib.hid rfl, HO4, Lib.hid (Keep.refl _ _)⟩
  case round =>
    obtain ⟨D, aF, qF, rfl, rfl, hk, HD, HO, HK⟩ := hrel
    have hx3r : Ext w3 wr := ((Keep.of_ext HX4.out).trans (HK.out.mono (fun j _ (hj : j < w3.heap.size) => by have := HG.out; show j < G; omega))).ext_lt
    have hGr : G ≤ wr.heap.size := by have := hx3r.size; have := HG.out; omega
    have HX3r := Lib.hid hx3r; clear hx3r
    by_cases hlt : D.length < p.files.length
    · obtain ⟨gN, off, rfl, _, hfa⟩ := (HF3.out.ext HX3r.out).at hlt
      have hts := ofF_snoc hlt
      have hfd := HFD.out _ (List.getElem_mem hlt)
      have eg : p.files[D.length] = p.files.getD D.length fz := by simp [hlt]
      rw [eg] at hfd; clear eg
      obtain ⟨q, hq⟩ : ∃ q, q = p.files.getD D.length fz := ⟨_, rfl⟩
      rw [← hq] at hfa hts hfd
      rw [← HD.out] at hts
      have HTS := Lib.hid hts; clear hts hq
      obtain ⟨mp, mc, md⟩ := q
      obtain ⟨h1, h2, fd, fc, h3, hfc, hfb⟩ := hfa
      simp only at h1 h2 h3 hfc hfb hfd
      have hi0 : (0 : Int) ≤ (D.length : Int) := by omega
      have hi1 : (D.length : Int) < (p.files.length : Int) := by omega
      have hn0 := cell_new wr #[.string (bs mp), .bool mc, .slice fd md.length fc] 95 0 _ rfl
      have hn1 := cell_new wr #[.string (bs mp), .bool mc, .slice fd md.length fc] 95 1 _ rfl
      have hn2 := cell_new wr #[.string (bs mp), .bool mc, .slice fd md.length fc] 95 2 _ rfl
      have hxn := Ext.alloc wr (.cells #[.string (bs mp), .bool mc, .slice fd md.length fc] 95)
      have HFB := Lib.hid (hfb.ext hxn); clear hfb
      have HZ := Lib.hid (And.intro hn0 (And.intro hn1 (And.intro hn2 hxn))); clear hn0 hn1 hn2 hxn
      go_upto_region 6 with (fail)
      generalize wr.alloc (.cells #[.string (bs mp), .bool mc, .slice fd md.length fc] 95) = wn at HZ HFB ⊢
      clear h1 h2 h3
      obtain ⟨n0, n1, n2, hxn⟩ := HZ.out
      obtain ⟨F, hF⟩ : ∃ F, F = wr.heap.size := ⟨_, rfl⟩
      rw [← hF] at n0 n1 n2 ⊢
      have HXN := Lib.hid hxn; clear hxn HZ hF
      have hsum := ref_sum fd fc md wn HFB.out (by omega)
      have HSUM := Lib.hid hsum; clear hsum
      have hs32 : (crcL md).toNat < 4294967296 := (crcL md).isLt
      have hsb : sumB md = num4 (crcL md).toNat := rfl
      have HSB := Lib.hid hsb; clear hsb
      generalize (crcL md).toNat = s0 at HSUM HSB hs32
      have e0 := byte_of s0
      have e1 := byte_of (s0 / 256)
      have e2 := byte_of (s0 / 65536)
      have e3 := byte_of (s0 / 16777216)
      have H4 := Lib.hid (And.intro e0 (And.intro e1 (And.intro e2 e3)))
      clear e0 e1 e2 e3
      go_upto_region 7 with (first
        | (go_at_call 44; refine (HSUM.out).mono ?_; rintro e w6 ⟨rfl, hx⟩; have m0 := hx.cell n0; have m1 := hx.cell n1; have HX6 := Lib.hid (HXN.out.trans hx); clear hx n0 n1 n2))
      have hz6 := HX6.out.size
      have hbl : ((w6.alloc (.cells #[.int .u8 ((s0 : Int) % 256), .int .u8 ((s0 : Int) / 256 % 256), .int .u8 ((s0 : Int) / 65536 % 256), .int .u8 ((s0 : Int) / 16777216)] 5)).alloc (.cells #[.string (bs mp), .bool mc, .slice (some ⟨w6.heap.size, 0, none⟩) 4 4] 95)).heap[w6.heap.size + 1]? = some (.cells #[.string (bs mp), .bool mc, .slice (some ⟨w6.heap.size, 0, none⟩) 4 4] 95 (0, 0)) := by
        have h := heap_alloc_new (w6.alloc (.cells #[.int .u8 ((s0 : Int) % 256), .int .u8 ((s0 : Int) / 256 % 256), .int .u8 ((s0 : Int) / 65536 % 256), .int .u8 ((s0 : Int) / 16777216)] 5)) (.cells #[.string (bs mp), .bool mc, .slice (some ⟨w6.heap.size, 0, none⟩) 4 4] 95)
        rw [World.size_alloc] at h
        exact h
      have HBL := Lib.hid hbl; clear hbl
      have hbd : BytesS (fun k => G ≤ k ∧ some k ≠ (Value.slice aF D.length qF).ownBlock) (w6.alloc (.cells #[.int .u8 ((s0 : Int) % 256), .int .u8 ((s0 : Int) / 256 % 256), .int .u8 ((s0 : Int) / 65536 % 256), .int .u8 ((s0 : Int) / 16777216)] 5)) (some ⟨w6.heap.size, 0, none⟩) (sumB md) := by
        have hlt6 := HO.out.lt
        rw [HSB.out]
        refine (ownB_lit w6 _ (num4 s0) ?_ (by simp [num4_len])).fresh (fun k hk => ⟨by omega, fun e => by have := hlt6 k e.symm; omega⟩)
        obtain ⟨e0, e1, e2, e3⟩ := H4.out
        simp only [num4, List.map_cons, List.map_nil, e0, e1, e2, e3]
        simp <;> omega
      have HBD := Lib.hid hbd; clear hbd
      go_wp2_with (first
        | (at_builtin; obtain ⟨L, hL1, hL2, hL3⟩ := HO.out.ext (HX6.out.trans (Ext.alloc w6 (.cells #[.int .u8 ((s0 : Int) % 256), .int .u8 ((s0 : Int) / 256 % 256), .int .u8 ((s0 : Int) / 65536 % 256), .int .u8 ((s0 : Int) / 16777216)] 5))); refine append_big rfl (.tmp 21) (.tmp 39) 91 95 (.agg #[.string ⟨#[]⟩, .bool false, .slice none 0 0]) 3 48 rfl Tryz.underlying91 info_fileq rfl (by decide) G aF D.length qF (fileC L) rfl (ownsRow_ext hL2 (Ext.alloc _ _)) (w6.heap.size + 1) 1 1 [.string (bs mp), .bool mc, .slice (some ⟨w6.heap.size, 0, none⟩) 4 4] _ _ rfl (by rfl) HBL.out (by simp [Value.oneCell']) (by omega) (by omega) (by decide) ?_ (D.length + 1) rfl ?_; (simp; omega); intro g1 cap1 w8 hown3 hk3 hb3 hat3; have hadd := OwnK.add (f := ofF ⟨mp, mc, md⟩) hL1 hL3 (Nat.le_refl 4) HBD.out hown3 hk3 hat3; have HO8 := Lib.hid hadd; have HK8 := Lib.hid ((Keep.of_ext (S := fun j => j < G) (HX6.out.trans ((Ext.alloc w6 (.cells #[.int .u8 ((s0 : Int) % 256), .int .u8 ((s0 : Int) / 256 % 256), .int .u8 ((s0 : Int) / 65536 % 256), .int .u8 ((s0 : Int) / 16777216)] 5)).trans (Ext.alloc _ _)))).trans (Keep.of_below hb3)); clear hL1 hL2 hL3 hown3 hk3 hb3 hat3 hadd))
      go_roundw
      case rel =>
        exact ⟨D ++ [ofF ⟨mp, mc, md⟩], some ⟨g1, 0, none⟩, cap1, by simp, (by first | (simp; done) | (simp; go_num)), (by simp only [List.length_append, List.length_cons, List.length_nil]; omega), Lib.hid (by rw [← HTS.out]; simp), HO8, Lib.hid (HK.out.trans HK8.out)⟩
      case measure => simp [intOf]; omega
    · have hkk : D.length = p.files.length := by omega
      have hDe : D = p.files.map ofF := by have h := HD.out; rw [hkk, List.take_length] at h; exact h
      have HDE := Lib.hid hDe; clear hDe
      rw [hkk]
      clear hkk hlt hk
      have hbr := HX3r.out.heap HB3.out
      have d4 := blk_free hbr 4
      have v4 := blk_cell hbr 4 _ rfl
      have HBR := Lib.hid hbr; clear hbr
      have HX2r := Lib.hid (HX23.out.trans HX3r.out)
      go_upto_region 10 with fail
      have hbf := setCell_row HBR.out (i := 4) (.slice aF p.files.length qF)
      have hbut := (But.refl C wr).setCell 4 (.slice aF p.files.length qF)
      generalize wr.setCell ⟨C, 4, none⟩ (.slice aF p.files.length qF) = wf at hbf hbut ⊢
      have hx2f : Ext w2 wf := But.ext HX2r.out hbut (by have := HC2.out; omega)
      have hof := HO.out.keep (Keep.of_but hbut) hCG
      have c0 := blk_cell hbf 0 _ rfl
      have c1 := blk_cell hbf 1 _ rfl
      have c2 := blk_cell hbf 2 _ rfl
      have c3 := blk_cell hbf 3 _ rfl
      have c4 := blk_cell hbf 4 _ rfl
      have c5 := blk_cell hbf 5 _ rfl
      have hfl : FilesM wf aF (p.files.map ofF) := by rw [← HDE.out]; exact hof.files.1
      have HXF := Lib.hid (HX2.out.trans hx2f)
      have hpm : PkgM wf (ofP p) ⟨an2, ac, aF, au, cn2, cc, qF, cu⟩ := ⟨HN2.out.ext hx2f, (HM.out.ext HXF.out).conf, hfl, (HM.out.ext HXF.out).units⟩
      have hpk := pack10 (ofP p) an2 ac aF au cn2 cc qF cu wf hpm (FitP.of_right (ofP_right HRT.out)) (ways_right (ofP_right HRT.out))
      rw [show (ofP p).files.length = p.files.length from by simp [ofP]] at hpk
      have HPK : Hid (Calls Tryz.prog 45 #[.agg #[.string (bs p.name), .string (bs p.ver), .slice an2 p.needs.length cn2, .slice ac p.conf.length cc, .slice aF p.files.length qF, .slice au p.units.length cu]] wf (PackR (packP (ofP p)) wf)) := Lib.hid hpk
      clear hpk hpm hfl hof hx2f hbut hbf
      go_wp2_with (first
        | (go_at_call 45; refine HPK.out.mono ?_; rintro e w9 ⟨a9, c9, rfl, ho9, hx9⟩; have u9 := conv_text (c := c9) ho9.bytes.1; have HX9 := Lib.hid hx9; clear ho9 hx9))
      rw [HR.out]
      exact ⟨rfl, HXF.out.trans HX9.out⟩
end Go.Proofs.YtnclibfhbngkjaaGreatDoor
