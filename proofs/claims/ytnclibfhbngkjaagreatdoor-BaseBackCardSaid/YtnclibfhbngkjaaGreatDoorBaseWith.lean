/- base.With, Get: bases with some more. -/
import Derived.Test.YtnclibfhbngkjaaGreatDoorM1
import Derived.Test.YtnclibfhbngkjaaGreatDoorBaseClone
import Derived.Test.YtnclibfhbngkjaaGreatDoorOrdersK
import Derived.Deep.DrawnRows
import Derived.Carry
import Derived.Outline
namespace Go.Proofs.YtnclibfhbngkjaaGreatDoor
open Go.RowKit
attribute [local go_sem ↓] Go.wp_at_zero Go.wp_at_succ
def ez : PkgD × PkgA := (pz, ⟨none, none, none, none, 0, 0, 0, 0⟩)
/-- A package's six cells, at a place. -/
def EntAt (w : World) (g o : Nat) (x : PkgD × PkgA) : Prop :=
  (w.cell? ⟨g, o, none⟩ = some (.string (bs x.1.name)) ∧ w.cell? ⟨g, o + 1, none⟩ = some (.string (bs x.1.ver)) ∧ w.cell? ⟨g, o + 2, none⟩ = some (.slice x.2.an x.1.needs.length x.2.cn) ∧ w.cell? ⟨g, o + 3, none⟩ = some (.slice x.2.ac x.1.conf.length x.2.cc) ∧ w.cell? ⟨g, o + 4, none⟩ = some (.slice x.2.af x.1.files.length x.2.cf) ∧ w.cell? ⟨g, o + 5, none⟩ = some (.slice x.2.au x.1.units.length x.2.cu)) ∧ EntM w x.1 x.2 ∧ PkgC x.1 x.2
theorem EntAt.ext {w w' : World} {g o : Nat} {x : PkgD × PkgA} (h : EntAt w g o x) (k : Ext w w') : EntAt w' g o x :=
  ⟨⟨k.cell h.1.1, k.cell h.1.2.1, k.cell h.1.2.2.1, k.cell h.1.2.2.2.1, k.cell h.1.2.2.2.2.1, k.cell h.1.2.2.2.2.2⟩, h.2.1.ext k, h.2.2⟩
/-- Packages lie so. -/
def EntsL (w : World) (a : Option Addr) (L : List (PkgD × PkgA)) : Prop :=
  L = [] ∨ ∃ g off, a = some ⟨g, off, none⟩ ∧ g < w.heap.size ∧ ∀ i, i < L.length → EntAt w g (off + i * 6) (L.getD i ez)
theorem EntsL.ext {w w' : World} {a : Option Addr} {L : List (PkgD × PkgA)} (h : EntsL w a L) (k : Ext w w') : EntsL w' a L := by
  rcases h with h | ⟨g, off, ha, hg, hc⟩
  · exact Or.inl h
  · exact Or.inr ⟨g, off, ha, Nat.lt_of_lt_of_le hg k.size, fun i hi => (hc i hi).ext k⟩
theorem EntsL.at {w : World} {a : Option Addr} {L : List (PkgD × PkgA)} (h : EntsL w a L) {i : Nat} (hi : i < L.length) :
    ∃ g off, a = some ⟨g, off, none⟩ ∧ g < w.heap.size ∧ EntAt w g (off + i * 6) (L.getD i ez) := by
  rcases h with h | ⟨g, off, ha, hg, hc⟩
  · rw [h] at hi; simp at hi
  · exact ⟨g, off, ha, hg, hc i hi⟩
theorem base_copy_any (bd N : Nat) (pm : Option Nat) (f : BaseF) (A : By → PkgA) (w : World) (hd : MapF keyS w 9 bd 0 (fun _ => none)) (hs : (pm = none ∧ f = noneF) ∨ ∃ b, pm = some b ∧ EntsM w b N f A) (hlt : ∀ b, pm = some b → b ≠ bd) (hN : N ≤ 100000) :
    Calls Tryz.prog 58 #[.map (some bd), .map pm] w fun e w' => e = .returned (.tuple #[]) ∧ MapF keyS w' 9 bd N (entF f A) ∧ Keep (· ≠ bd) w w' := by
  rcases hs with ⟨rfl, rfl⟩ | ⟨b, rfl, h⟩
  · exact (base_copy_nil bd w hd).mono fun e w' ⟨he, hm, hk⟩ => ⟨he, hm.mono (Nat.zero_le _), hk⟩
  · exact base_copy bd b N f A w hd h (hlt b rfl) hN
/-- How long a right package's lists are. -/
theorem right_lens {e : PkgD} (h : rightP e = true) : e.name.length ≤ 12 ∧ e.needs.length ≤ 8 ∧ e.conf.length ≤ 8 ∧ e.files.length ≤ 12 ∧ e.units.length ≤ 4 := by
  unfold rightP headP at h
  simp only [Bool.and_eq_true, decide_eq_true_eq] at h
  exact ⟨nameL_12 h.1.1, h.1.2.2.1, h.1.2.2.2.1, h.1.2.2.2.2.1, h.1.2.2.2.2.2⟩
/-- What lies in cells lies elsewhere than in a block that holds a map's address alone. -/
theorem RunM.keep {w w' : World} {B : Nat} {t : TypeId} {m : Option Nat} {a : Option Addr} {us : List Value} (h : RunM w a us) (k : Keep (· ≠ B) w w') (hB : w.heap[B]? = some (.cells #[.map m] t (0, 0))) (hu : ∀ u ∈ us, u ≠ Value.map m) : RunM w' a us := by
  rcases h with h | ⟨g, off, ha, hg, hc⟩
  · exact Or.inl h
  · refine Or.inr ⟨g, off, ha, Nat.lt_of_lt_of_le hg k.size, fun j u hj => ?_⟩
    have hne : g ≠ B := by
      intro e
      subst e
      have h1 := hc j u hj
      rw [cell_of_row _ _ _ _ _ _ hB] at h1
      have h2 := List.mem_of_getElem? hj
      refine hu u h2 ?_
      have hlt := (Array.getElem?_eq_some_iff.1 h1).1
      simp only [List.size_toArray, List.length_cons, List.length_nil] at hlt
      have h0 : off + j = 0 := by omega
      rw [h0] at h1
      exact (Option.some.inj h1).symm
    exact k.cell hne (hc j u hj)
theorem EntM.keep {w w' : World} {B : Nat} {t : TypeId} {m : Option Nat} {p : PkgD} {A : PkgA} (h : EntM w p A) (k : Keep (· ≠ B) w w') (hB : w.heap[B]? = some (.cells #[.map m] t (0, 0))) : EntM w' p A := by
  refine ⟨needs_run.2 ((needs_run.1 h.needs).keep k hB ?_), strs_run.2 ((strs_run.1 h.conf).keep k hB ?_), filesE_run.2 ((filesE_run.1 h.files).keep k hB ?_), strs_run.2 ((strs_run.1 h.units).keep k hB ?_)⟩
  · intro u hu
    obtain ⟨x, _, hx⟩ := List.mem_flatMap.1 hu
    simp only [needV3, List.mem_cons, List.not_mem_nil, or_false] at hx
    rcases hx with rfl | rfl | rfl <;> simp
  · intro u hu
    obtain ⟨x, _, rfl⟩ := List.mem_map.1 hu
    simp
  · intro u hu
    obtain ⟨x, _, hx⟩ := List.mem_flatMap.1 hu
    simp only [fileV3, List.mem_cons, List.not_mem_nil, or_false] at hx
    rcases hx with rfl | rfl | rfl <;> simp
  · intro u hu
    obtain ⟨x, _, rfl⟩ := List.mem_map.1 hu
    simp
theorem RunM.keep_map {w w' : World} {B : Nat} {es : Array MapEntry} {cl : Nat} {a : Option Addr} {us : List Value} (h : RunM w a us) (k : Keep (· ≠ B) w w') (hB : w.heap[B]? = some (.map es cl)) : RunM w' a us := by
  rcases h with h | ⟨g, off, ha, hg, hc⟩
  · exact Or.inl h
  · refine Or.inr ⟨g, off, ha, Nat.lt_of_lt_of_le hg k.size, fun j u hj => ?_⟩
    have hne : g ≠ B := by
      intro e
      subst e
      have h1 := hc j u hj
      unfold World.cell? at h1
      rw [hB] at h1
      simp at h1
    exact k.cell hne (hc j u hj)
theorem EntM.keep_map {w w' : World} {B : Nat} {es : Array MapEntry} {cl : Nat} {p : PkgD} {A : PkgA} (h : EntM w p A) (k : Keep (· ≠ B) w w') (hB : w.heap[B]? = some (.map es cl)) : EntM w' p A :=
  ⟨needs_run.2 ((needs_run.1 h.needs).keep_map k hB), strs_run.2 ((strs_run.1 h.conf).keep_map k hB), filesE_run.2 ((filesE_run.1 h.files).keep_map k hB), strs_run.2 ((strs_run.1 h.units).keep_map k hB)⟩
theorem EntsM.keep {w w' : World} {B : Nat} {t : TypeId} {m : Option Nat} {b N : Nat} {f : BaseF} {A : By → PkgA} (h : EntsM w b N f A) (k : Keep (· ≠ B) w w') (hB : w.heap[B]? = some (.cells #[.map m] t (0, 0))) : EntsM w' b N f A := by
  obtain ⟨es, cl, hb⟩ : ∃ es cl, w.heap[b]? = some (.map es cl) := by
    obtain ⟨D, ⟨es, cl, hb, _⟩, _⟩ := h.1
    exact ⟨es, cl, hb⟩
  have hne : b ≠ B := by
    intro e
    subst e
    rw [hb] at hB
    cases hB
  exact ⟨h.1.keep k hne, fun x e he => ⟨(h.2 x e he).1.keep k hB, (h.2 x e he).2⟩⟩
theorem RunM.fresh {w w' : World} {S : Nat → Prop} {base : Nat} {a : Option Addr} {us : List Value} (h : RunM w a us) (hf : Fresh base a) (k : Keep S w w') (hS : ∀ g, base ≤ g → S g) : RunM w' a us := by
  rcases h with h | ⟨g, off, ha, hg, hc⟩
  · exact Or.inl h
  · exact Or.inr ⟨g, off, ha, Nat.lt_of_lt_of_le hg k.size, fun j u hj => k.cell (hS g (hf _ ha)) (hc j u hj)⟩
theorem MapF.block {α : Type} {c : α → Lit} {w : World} {k : TypeId} {b n : Nat} {f : α → Option Value} (h : MapF c w k b n f) : ∃ es cl, w.heap[b]? = some (.map es cl) := by
  obtain ⟨D, ⟨es, cl, hb, _⟩, _⟩ := h
  exact ⟨es, cl, hb⟩
theorem BaseM.parts {w : World} {v : Value} {N : Nat} {f : BaseF} (h : BaseM w v N f) : ∃ pm A, v = .agg #[.map pm] ∧ ((pm = none ∧ f = noneF) ∨ ∃ b, pm = some b ∧ EntsM w b N f A) := by
  rcases h with ⟨hv, hf⟩ | ⟨b, A, hv, h⟩
  · exact ⟨none, fun _ => ⟨none, none, none, none, 0, 0, 0, 0⟩, hv, Or.inl ⟨rfl, hf⟩⟩
  · exact ⟨some b, A, hv, Or.inr ⟨b, rfl, h⟩⟩
theorem set4e {w : World} {B : Nat} {t : TypeId} {x0 x1 x2 x3 x4 x5 : Value} (hg : w.heap[B]? = some (.cells #[x0, x1, x2, x3, x4, x5] t (0, 0))) (v2 v3 v4 v5 : Value) :
    ((((w.setCell ⟨B, 2, none⟩ v2).setCell ⟨B, 3, none⟩ v3).setCell ⟨B, 4, none⟩ v4).setCell ⟨B, 5, none⟩ v5).heap[B]? = some (.cells #[x0, x1, v2, v3, v4, v5] t (0, 0)) := by
  have h := setCell_row (setCell_row (setCell_row (setCell_row (i := 2) hg v2) (i := 3) v3) (i := 4) v4) (i := 5) v5
  simpa using h

theorem ones_n (L : List NeedD) : ∀ u ∈ L.flatMap needV3, u.oneCell' = true := by
  intro u hu
  obtain ⟨x, _, hx⟩ := List.mem_flatMap.1 hu
  simp only [needV3, List.mem_cons, List.not_mem_nil, or_false] at hx
  rcases hx with rfl | rfl | rfl <;> rfl
theorem ones_f (L : List FileD) : ∀ u ∈ L.flatMap fileV3, u.oneCell' = true := by
  intro u hu
  obtain ⟨x, _, hx⟩ := List.mem_flatMap.1 hu
  simp only [fileV3, List.mem_cons, List.not_mem_nil, or_false] at hx
  rcases hx with rfl | rfl | rfl <;> rfl
theorem ones_s (L : List By) : ∀ u ∈ textV L, u.oneCell' = true := textV_one L
/-- What With answers. -/
def WithR (N : Nat) (f : BaseF) (w : World) (e : Ending) (w' : World) : Prop := ∃ b A, e = .returned (.agg #[.map (some b)]) ∧ w.heap.size ≤ b ∧ EntsM w' b N f A ∧ Ext w w'
set_option maxRecDepth 100000 in
set_option maxHeartbeats 6400000 in
theorem base_with (v : Value) (N : Nat) (f : BaseF) (a : Option Addr) (c : Nat) (L : List (PkgD × PkgA)) (w : World) (hb : BaseM w v N f) (hL : EntsL w a L) (hr : ∀ x ∈ L, rightP x.1 = true) (hN : N + L.length ≤ 100000) :
    Calls Tryz.prog 17 #[v, .slice a L.length c] w (WithR (N + L.length) ((L.map Prod.fst).foldl withF f) w) := by
  obtain ⟨R, hR⟩ : ∃ R, R = WithR (N + L.length) ((L.map Prod.fst).foldl withF f) w := ⟨_, rfl⟩
  rw [← hR]
  have HR := Lib.hid hR; clear hR
  obtain ⟨pm, A, rfl, hs⟩ := hb.parts
  have HS := Lib.hid hs; clear hs hb
  have HL := Lib.hid hL; clear hL
  have HRT := Lib.hid hr; clear hr
  obtain ⟨n, hn⟩ : ∃ n, n = L.length := ⟨_, rfl⟩
  rw [← hn] at hN ⊢
  have HN := Lib.hid hn; clear hn
  have hmm := @run_makeMap Tryz.prog
  go_enter Tryz.func17, Tryz.ntmps17
  go_upto_region 2 with (fail)
  have hx1 : Ext w ((((w.alloc (.cells #[.map pm] 42)).alloc (.cells #[.map none] 42)).alloc (.map #[] 0)).alloc (.cells #[.map (some (w.heap.size + 1 + 1))] 42)) := (((Ext.alloc _ _).trans (Ext.alloc _ _)).trans (Ext.alloc _ _)).trans (Ext.alloc _ _)
  have hb1 := (((Ext.alloc _ (.cells #[.map none] 42)).trans (Ext.alloc _ (.map #[] 0))).trans (Ext.alloc _ (.cells #[.map (some (w.heap.size + 1 + 1))] 42))).heap (heap_alloc_new w (.cells #[.map pm] 42))
  have hr1 := ((Ext.alloc _ (.map #[] 0)).trans (Ext.alloc _ (.cells #[.map (some (w.heap.size + 1 + 1))] 42))).heap (heap_alloc_new (w.alloc (.cells #[.map pm] 42)) (.cells #[.map none] 42))
  have hm1 := (MapF.made keyS ((w.alloc (.cells #[.map pm] 42)).alloc (.cells #[.map none] 42)) 9).ext (Ext.alloc _ (.cells #[.map (some (w.heap.size + 1 + 1))] 42))
  have ho1 := heap_alloc_new (((w.alloc (.cells #[.map pm] 42)).alloc (.cells #[.map none] 42)).alloc (.map #[] 0)) (.cells #[.map (some (w.heap.size + 1 + 1))] 42)
  simp only [World.size_alloc] at hr1 hm1 ho1
  generalize (((w.alloc (.cells #[.map pm] 42)).alloc (.cells #[.map none] 42)).alloc (.map #[] 0)).alloc (.cells #[.map (some (w.heap.size + 1 + 1))] 42) = w1 at hx1 hb1 hr1 hm1 ho1 ⊢
  obtain ⟨BX, hBX⟩ : ∃ x, x = w.heap.size := ⟨_, rfl⟩
  obtain ⟨RS, hRS⟩ : ∃ x, x = w.heap.size + 1 := ⟨_, rfl⟩
  obtain ⟨O, hO⟩ : ∃ x, x = w.heap.size + 1 + 1 + 1 := ⟨_, rfl⟩
  obtain ⟨bd, hbd⟩ : ∃ x, x = w.heap.size + 1 + 1 := ⟨_, rfl⟩
  rw [← hO, ← hbd] at ho1
  rw [← hbd] at hm1
  rw [← hRS] at hr1
  rw [← hBX] at hb1
  have HZ : Hid (BX = w.heap.size ∧ RS = w.heap.size + 1 ∧ bd = w.heap.size + 2 ∧ O = w.heap.size + 3) := Lib.hid ⟨hBX, hRS, hbd, hO⟩
  rw [← hO, ← hbd, ← hRS, ← hBX]
  clear hO hbd hRS hBX hmm
  have p0 := blk_cell hb1 0 (Value.map pm) rfl
  have q0 := blk_cell ho1 0 (Value.map (some bd)) rfl
  have HX1 := Lib.hid hx1; clear hx1
  have HR1 := Lib.hid hr1; clear hr1
  have HO1 := Lib.hid ho1; clear ho1 hb1
  have HM1 := Lib.hid hm1; clear hm1
  have hs1 := HS.out.imp id (fun ⟨b, e, h⟩ => (⟨b, e, h.ext HX1.out⟩ : ∃ b, pm = some b ∧ EntsM w1 b N f A))
  have HS1 := Lib.hid hs1; clear hs1
  have hne : ∀ b, pm = some b → b ≠ bd := by
    intro b hb
    have hz := HZ.out
    rcases HS.out with ⟨h, _⟩ | ⟨b', h, hm⟩
    · rw [h] at hb; cases hb
    · rw [h] at hb
      cases hb
      have := hm.lt
      omega
  have HNE := Lib.hid hne; clear hne
  go_upto_region 3 with (first
    | (go_at_call 58; refine (base_copy_any bd N pm f A w1 HM1.out HS1.out HNE.out (by omega)).mono ?_; rintro e w2 ⟨rfl, hm2, hk2⟩; have HM2 := Lib.hid hm2; have HK2 := Lib.hid hk2; clear hm2 hk2))
  clear p0 q0
  have hx2 : Ext w w2 := (((Keep.of_ext (S := fun j => j < w.heap.size) HX1.out).andThen HK2.out (fun j hj _ => by have := HZ.out; omega))).ext_lt
  have hr2 := HK2.out.heap (by have := HZ.out; omega) HR1.out
  have ho2 := HK2.out.heap (by have := HZ.out; omega) HO1.out
  have he2 : EntsM w2 bd N f A := ⟨HM2.out, fun x e he => by
    rcases HS.out with ⟨_, h⟩ | ⟨b, _, h⟩
    · rw [h] at he; cases he
    · exact ⟨(h.2 x e he).1.ext hx2, (h.2 x e he).2⟩⟩
  have HX2 := Lib.hid hx2; clear hx2
  have HR2 := Lib.hid hr2; clear hr2
  have HO2 := Lib.hid ho2; clear ho2
  have HE2 := Lib.hid he2; clear he2 HM1 HS1 HNE HM2 HK2 HX1 HR1 HO1
  go_wp2_with fail
  go_loopw [17] (fun i wr => ∃ k : Nat, i = .int .i64 k ∧ k ≤ n ∧ Hid (∃ A', EntsM wr bd (N + k) (((L.take k).map Prod.fst).foldl withF f) A') ∧ Hid (wr.heap[O]? = some (.cells #[.map (some bd)] 42 (0, 0))) ∧ Hid (wr.heap[RS]? = some (.cells #[.map none] 42 (0, 0))) ∧ Hid (Ext w wr)) (fun i _ => n - (intOf i).toNat)
  case atStart => exact ⟨0, rfl, Nat.zero_le _, Lib.hid ⟨A, HE2.out⟩, HO2, HR2, HX2⟩
  case round =>
    obtain ⟨k, rfl, hk, hE, hO, hRr, hX⟩ := hrel
    by_cases hlt : k < n
    · obtain ⟨A2, hE2⟩ := hE.out
      have HE2 := Lib.hid hE2; clear hE2 hE
      obtain ⟨x, hx⟩ : ∃ x, x = L.getD k ez := ⟨_, rfl⟩
      have hxL : x ∈ L := by
        have := HN.out
        rw [hx, List.getD_eq_getElem?_getD, List.getElem?_eq_getElem (by omega)]
        simp
      have hrx := HRT.out x hxL
      have hat := (HL.out.ext hX.out).at (i := k) (by have := HN.out; omega)
      rw [← hx] at hat
      have htk : (((L.take (k + 1)).map Prod.fst).foldl withF f) = withF (((L.take k).map Prod.fst).foldl withF f) x.1 := by
        have hl : k < L.length := by have := HN.out; omega
        rw [List.take_succ_eq_append_getElem hl, List.map_append, List.foldl_append, hx]
        simp [hl]
      have HTK := Lib.hid htk; clear htk hx hxL
      obtain ⟨e, ⟨an, ac, af, au, cn, cc, cf, cu⟩⟩ := x
      obtain ⟨g, off, rfl, hgl, ⟨c0, c1, c2, c3, c4, c5⟩, hent, hcap⟩ := hat
      simp only at c0 c1 c2 c3 c4 c5
      obtain ⟨hl0, hl1, hl2, hl3, hl4⟩ : e.name.length ≤ 12 ∧ e.needs.length ≤ 8 ∧ e.conf.length ≤ 8 ∧ e.files.length ≤ 12 ∧ e.units.length ≤ 4 := right_lens hrx
      have HENT := Lib.hid hent; clear hent hcap hrx
      go_upto_region 6 with (fail)
      clear c0 c1 c2 c3 c4 c5
      have hbk := heap_alloc_new wr (.cells #[.string (bs e.name), .string (bs e.ver), .slice an e.needs.length cn, .slice ac e.conf.length cc, .slice af e.files.length cf, .slice au e.units.length cu] 37)
      have hx3 := Ext.alloc wr (.cells #[.string (bs e.name), .string (bs e.ver), .slice an e.needs.length cn, .slice ac e.conf.length cc, .slice af e.files.length cf, .slice au e.units.length cu] 37)
      generalize wr.alloc (.cells #[.string (bs e.name), .string (bs e.ver), .slice an e.needs.length cn, .slice ac e.conf.length cc, .slice af e.files.length cf, .slice au e.units.length cu] 37) = w3 at hbk hx3 ⊢
      obtain ⟨B, hB⟩ : ∃ x, x = wr.heap.size := ⟨_, rfl⟩
      rw [← hB] at hbk ⊢
      have HBS := Lib.hid hB; clear hB
      have HB3 := Lib.hid hbk; clear hbk
      have HX3 := Lib.hid hx3; clear hx3
      have HENT3 := Lib.hid (HENT.out.ext HX3.out); clear HENT
      have HK := Lib.hid ((Ext.refl w3).drew)
      refine wp_region_noPanic ?_
      refine wp_region_K (S := (fun W => W.cell? ⟨B, 2, none⟩ = some (.slice an e.needs.length cn) ∧ W.cell? ⟨B, 3, none⟩ = some (.slice ac e.conf.length cc) ∧ W.cell? ⟨B, 4, none⟩ = some (.slice af e.files.length cf) ∧ W.cell? ⟨B, 5, none⟩ = some (.slice au e.units.length cu))) (I := [1, 4, 7, 10]) (by kernel_rfl) ⟨blk_cell (HK.out.heap HB3.out) 2 _ rfl, blk_cell (HK.out.heap HB3.out) 3 _ rfl, blk_cell (HK.out.heap HB3.out) 4 _ rfl, blk_cell (HK.out.heap HB3.out) 5 _ rfl⟩ (fun hHeld => ?_)
      refine wpAnyK_free (i := 0) (v := ?v100) rfl (by kernel_rfl) (by kernel_rfl) (by kernel_rfl) (fun _ _ _ h => h) (by kernel_rfl) ?hy100 (fun _ => by assumption) ?rest100
      case hy100 => (intro wq; first | (go_simp; done) | (go_simp; with_reducible rfl))
      try simp only [List.getElem_toArray, List.getElem_cons_zero, Act.put, List.setIfInBounds_toArray, List.set_cons_zero, List.set_cons_succ]
      refine wpAnyK_free (i := 3) (v := ?v103) rfl (by kernel_rfl) (by kernel_rfl) (by kernel_rfl) (fun _ _ _ h => h) (by kernel_rfl) ?hy103 (fun _ => by assumption) ?rest103
      case hy103 => (intro wq; first | (go_simp; done) | (go_simp; with_reducible rfl))
      try simp only [List.getElem_toArray, List.getElem_cons_zero, List.getElem_cons_succ, Act.put, List.setIfInBounds_toArray, List.set_cons_zero, List.set_cons_succ]
      refine wpAnyK_free (i := 6) (v := ?v106) rfl (by kernel_rfl) (by kernel_rfl) (by kernel_rfl) (fun _ _ _ h => h) (by kernel_rfl) ?hy106 (fun _ => by assumption) ?rest106
      case hy106 => (intro wq; first | (go_simp; done) | (go_simp; with_reducible rfl))
      try simp only [List.getElem_toArray, List.getElem_cons_zero, List.getElem_cons_succ, Act.put, List.setIfInBounds_toArray, List.set_cons_zero, List.set_cons_succ]
      refine wpAnyK_free (i := 9) (v := ?v109) rfl (by kernel_rfl) (by kernel_rfl) (by kernel_rfl) (fun _ _ _ h => h) (by kernel_rfl) ?hy109 (fun _ => by assumption) ?rest109
      case hy109 => (intro wq; first | (go_simp; done) | (go_simp; with_reducible rfl))
      try simp only [List.getElem_toArray, List.getElem_cons_zero, List.getElem_cons_succ, Act.put, List.setIfInBounds_toArray, List.set_cons_zero, List.set_cons_succ]
      refine wpAnyK_load (i := 1) (v := ?v101) rfl (by kernel_rfl) (by kernel_rfl) (by kernel_rfl) (fun _ _ _ h => h) (by kernel_rfl) (by kernel_rfl) ?hy101 (by assumption) ?rest101
      case hy101 => (intro wq hSw; (try dsimp only at hSw); first | (go_simp; done) | (go_simp; with_reducible rfl))
      try simp only [List.getElem_toArray, List.getElem_cons_zero, List.getElem_cons_succ, Act.put, List.setIfInBounds_toArray, List.set_cons_zero, List.set_cons_succ]
      refine wpAnyK_load (i := 4) (v := ?v104) rfl (by kernel_rfl) (by kernel_rfl) (by kernel_rfl) (fun _ _ _ h => h) (by kernel_rfl) (by kernel_rfl) ?hy104 (by assumption) ?rest104
      case hy104 => (intro wq hSw; (try dsimp only at hSw); first | (go_simp; done) | (go_simp; with_reducible rfl))
      try simp only [List.getElem_toArray, List.getElem_cons_zero, List.getElem_cons_succ, Act.put, List.setIfInBounds_toArray, List.set_cons_zero, List.set_cons_succ]
      refine wpAnyK_load (i := 7) (v := ?v107) rfl (by kernel_rfl) (by kernel_rfl) (by kernel_rfl) (fun _ _ _ h => h) (by kernel_rfl) (by kernel_rfl) ?hy107 (by assumption) ?rest107
      case hy107 => (intro wq hSw; (try dsimp only at hSw); first | (go_simp; done) | (go_simp; with_reducible rfl))
      try simp only [List.getElem_toArray, List.getElem_cons_zero, List.getElem_cons_succ, Act.put, List.setIfInBounds_toArray, List.set_cons_zero, List.set_cons_succ]
      refine wpAnyK_load (i := 10) (v := ?v110) rfl (by kernel_rfl) (by kernel_rfl) (by kernel_rfl) (fun _ _ _ h => h) (by kernel_rfl) (by kernel_rfl) ?hy110 (by assumption) ?rest110
      case hy110 => (intro wq hSw; (try dsimp only at hSw); first | (go_simp; done) | (go_simp; with_reducible rfl))
      try simp only [List.getElem_toArray, List.getElem_cons_zero, List.getElem_cons_succ, Act.put, List.setIfInBounds_toArray, List.set_cons_zero, List.set_cons_succ]
      refine wpAnyK_one (i := 2) (by kernel_rfl) rfl ?_
      intro K hK
      go_simp
      (go_at_call 40; refine (clone_n an e.needs.length cn (e.needs.flatMap needV3) _ (flat_lenm (F := needV3) (fun _ => rfl) _) ((needs_run).1 ((HENT3.out.ext HK.out).needs)) (ones_n _) (by omega)).mono ?_; rintro e2 wc2 ⟨y2, z2, rfl, hz2, hr2, hfr, hx⟩; have HF2 := Lib.hid (fun ad h => Nat.le_trans HK.out.size (hfr ad h)); clear hfr; replace HK := Lib.hid (HK.out.trans hx); have HR2 := Lib.hid hr2; clear hx hr2)
      go_wp2_with fail
      refine hK.out _ _ ⟨blk_cell (HK.out.heap HB3.out) 2 _ rfl, blk_cell (HK.out.heap HB3.out) 3 _ rfl, blk_cell (HK.out.heap HB3.out) 4 _ rfl, blk_cell (HK.out.heap HB3.out) 5 _ rfl⟩ ?_
      clear hK K
      try simp only [List.getElem_toArray, List.getElem_cons_zero, List.getElem_cons_succ, Act.put, List.setIfInBounds_toArray, List.set_cons_zero, List.set_cons_succ]
      refine wpAnyK_free (i := 12) (v := ?v112) rfl (by kernel_rfl) (by kernel_rfl) (by kernel_rfl) (fun _ _ _ h => h) (by kernel_rfl) ?hy112 (fun _ => ⟨blk_cell (HK.out.heap HB3.out) 2 _ rfl, blk_cell (HK.out.heap HB3.out) 3 _ rfl, blk_cell (HK.out.heap HB3.out) 4 _ rfl, blk_cell (HK.out.heap HB3.out) 5 _ rfl⟩) ?rest112
      case hy112 => (intro wq; first | (go_simp; done) | (go_simp; with_reducible rfl))
      try simp only [List.getElem_toArray, List.getElem_cons_zero, List.getElem_cons_succ, Act.put, List.setIfInBounds_toArray, List.set_cons_zero, List.set_cons_succ]
      refine wpAnyK_one (i := 5) (by kernel_rfl) rfl ?_
      intro K hK
      go_simp
      (go_at_call 41; refine (clone_s ac e.conf.length cc (textV e.conf) _ (by rw [textV_len]; omega) ((strs_run).1 ((HENT3.out.ext HK.out).conf)) (ones_s _) (by omega)).mono ?_; rintro e3 wc3 ⟨y3, z3, rfl, hz3, hr3, hfr, hx⟩; have HF3 := Lib.hid (fun ad h => Nat.le_trans HK.out.size (hfr ad h)); clear hfr; replace HK := Lib.hid (HK.out.trans hx); replace HR2 := Lib.hid (HR2.out.ext hx); have HR3 := Lib.hid hr3; clear hx hr3)
      go_wp2_with fail
      refine hK.out _ _ ⟨blk_cell (HK.out.heap HB3.out) 2 _ rfl, blk_cell (HK.out.heap HB3.out) 3 _ rfl, blk_cell (HK.out.heap HB3.out) 4 _ rfl, blk_cell (HK.out.heap HB3.out) 5 _ rfl⟩ ?_
      clear hK K
      try simp only [List.getElem_toArray, List.getElem_cons_zero, List.getElem_cons_succ, Act.put, List.setIfInBounds_toArray, List.set_cons_zero, List.set_cons_succ]
      refine wpAnyK_one (i := 8) (by kernel_rfl) rfl ?_
      intro K hK
      go_simp
      (go_at_call 59; refine (clone_f af e.files.length cf (e.files.flatMap fileV3) _ (flat_lenm (F := fileV3) (fun _ => rfl) _) ((filesE_run).1 ((HENT3.out.ext HK.out).files)) (ones_f _) (by omega)).mono ?_; rintro e4 wc4 ⟨y4, z4, rfl, hz4, hr4, hfr, hx⟩; have HF4 := Lib.hid (fun ad h => Nat.le_trans HK.out.size (hfr ad h)); clear hfr; replace HK := Lib.hid (HK.out.trans hx); replace HR2 := Lib.hid (HR2.out.ext hx); replace HR3 := Lib.hid (HR3.out.ext hx); have HR4 := Lib.hid hr4; clear hx hr4)
      go_wp2_with fail
      refine hK.out _ _ ⟨blk_cell (HK.out.heap HB3.out) 2 _ rfl, blk_cell (HK.out.heap HB3.out) 3 _ rfl, blk_cell (HK.out.heap HB3.out) 4 _ rfl, blk_cell (HK.out.heap HB3.out) 5 _ rfl⟩ ?_
      clear hK K
      try simp only [List.getElem_toArray, List.getElem_cons_zero, List.getElem_cons_succ, Act.put, List.setIfInBounds_toArray, List.set_cons_zero, List.set_cons_succ]
      refine wpAnyK_one (i := 11) (by kernel_rfl) rfl ?_
      intro K hK
      go_simp
      (go_at_call 41; refine (clone_s au e.units.length cu (textV e.units) _ (by rw [textV_len]; omega) ((strs_run).1 ((HENT3.out.ext HK.out).units)) (ones_s _) (by omega)).mono ?_; rintro e5 wc5 ⟨y5, z5, rfl, hz5, hr5, hfr, hx⟩; have HF5 := Lib.hid (fun ad h => Nat.le_trans HK.out.size (hfr ad h)); clear hfr; replace HK := Lib.hid (HK.out.trans hx); replace HR2 := Lib.hid (HR2.out.ext hx); replace HR3 := Lib.hid (HR3.out.ext hx); replace HR4 := Lib.hid (HR4.out.ext hx); have HR5 := Lib.hid hr5; clear hx hr5)
      go_wp2_with fail
      refine hK.out _ _ ⟨blk_cell (HK.out.heap HB3.out) 2 _ rfl, blk_cell (HK.out.heap HB3.out) 3 _ rfl, blk_cell (HK.out.heap HB3.out) 4 _ rfl, blk_cell (HK.out.heap HB3.out) 5 _ rfl⟩ ?_
      clear hK K
      try simp only [List.getElem_toArray, List.getElem_cons_zero, List.getElem_cons_succ, Act.put, List.setIfInBounds_toArray, List.set_cons_zero, List.set_cons_succ]
      have d2 := blk_cell (HK.out.heap HB3.out) 2 (Value.slice an e.needs.length cn) rfl; have f2 := blk_free (HK.out.heap HB3.out) 2; have d3 := blk_cell (HK.out.heap HB3.out) 3 (Value.slice ac e.conf.length cc) rfl; have f3 := blk_free (HK.out.heap HB3.out) 3; have d4 := blk_cell (HK.out.heap HB3.out) 4 (Value.slice af e.files.length cf) rfl; have f4 := blk_free (HK.out.heap HB3.out) 4; have d5 := blk_cell (HK.out.heap HB3.out) 5 (Value.slice au e.units.length cu) rfl; have f5 := blk_free (HK.out.heap HB3.out) 5
      refine wpAnyK_last (i := 13) (by kernel_rfl) rfl (by kernel_rfl) ?_
      intro K hK
      go_simp
      refine hK.out _ _ ?_
      clear hK K
      try simp only [List.getElem_toArray, List.getElem_cons_zero, List.getElem_cons_succ, Act.put, List.setIfInBounds_toArray, List.set_cons_zero, List.set_cons_succ]
      refine wpAnyK_free (i := 14) (v := ?v114) rfl (by kernel_rfl) (by kernel_rfl) (by kernel_rfl) (fun _ _ _ h => h) (by kernel_rfl) ?hy114 (fun h => by cases h) ?rest114
      case hy114 => (intro wq; first | (go_simp; done) | (go_simp; with_reducible rfl))
      try simp only [List.getElem_toArray, List.getElem_cons_zero, List.getElem_cons_succ, Act.put, List.setIfInBounds_toArray, List.set_cons_zero, List.set_cons_succ]
      refine wpAnyK_last (i := 15) (by kernel_rfl) rfl (by kernel_rfl) ?_
      intro K hK
      go_simp
      refine hK.out _ _ ?_
      clear hK K
      try simp only [List.getElem_toArray, List.getElem_cons_zero, List.getElem_cons_succ, Act.put, List.setIfInBounds_toArray, List.set_cons_zero, List.set_cons_succ]
      refine wpAnyK_free (i := 16) (v := ?v116) rfl (by kernel_rfl) (by kernel_rfl) (by kernel_rfl) (fun _ _ _ h => h) (by kernel_rfl) ?hy116 (fun h => by cases h) ?rest116
      case hy116 => (intro wq; first | (go_simp; done) | (go_simp; with_reducible rfl))
      try simp only [List.getElem_toArray, List.getElem_cons_zero, List.getElem_cons_succ, Act.put, List.setIfInBounds_toArray, List.set_cons_zero, List.set_cons_succ]
      refine wpAnyK_last (i := 17) (by kernel_rfl) rfl (by kernel_rfl) ?_
      intro K hK
      go_simp
      refine hK.out _ _ ?_
      clear hK K
      try simp only [List.getElem_toArray, List.getElem_cons_zero, List.getElem_cons_succ, Act.put, List.setIfInBounds_toArray, List.set_cons_zero, List.set_cons_succ]
      refine wpAnyK_free (i := 18) (v := ?v118) rfl (by kernel_rfl) (by kernel_rfl) (by kernel_rfl) (fun _ _ _ h => h) (by kernel_rfl) ?hy118 (fun h => by cases h) ?rest118
      case hy118 => (intro wq; first | (go_simp; done) | (go_simp; with_reducible rfl))
      try simp only [List.getElem_toArray, List.getElem_cons_zero, List.getElem_cons_succ, Act.put, List.setIfInBounds_toArray, List.set_cons_zero, List.set_cons_succ]
      refine wpAnyK_last (i := 19) (by kernel_rfl) rfl (by kernel_rfl) ?_
      intro K hK
      go_simp
      refine hK.out _ _ ?_
      clear hK K
      try simp only [List.getElem_toArray, List.getElem_cons_zero, List.getElem_cons_succ, Act.put, List.setIfInBounds_toArray, List.set_cons_zero, List.set_cons_succ]
      refine wpAnyK_done (by kernel_rfl) ?_ _
      refine NoPanic.normal ?_
      clear d2 d3 d4 d5 f2 f3 f4 f5
      have hsz := HBS.out
      have hOl : O < wr.heap.size := (Array.getElem?_eq_some_iff.1 hO.out).1
      have hRl : RS < wr.heap.size := (Array.getElem?_eq_some_iff.1 hRr.out).1
      have hbl := HE2.out.1.lt
      have hb6 := set4e (HK.out.heap HB3.out) (.slice y2 e.needs.length z2) (.slice y3 e.conf.length z3) (.slice y4 e.files.length z4) (.slice y5 e.units.length z5)
      have hk6 : Keep (fun j => j ≠ B) wc5 ((((wc5.setCell ⟨B, 2, none⟩ (.slice y2 e.needs.length z2)).setCell ⟨B, 3, none⟩ (.slice y3 e.conf.length z3)).setCell ⟨B, 4, none⟩ (.slice y4 e.files.length z4)).setCell ⟨B, 5, none⟩ (.slice y5 e.units.length z5)) := ((((Keep.refl _ _).setCell (fun _ h => h) _ _).setCell (fun _ h => h) _ _).setCell (fun _ h => h) _ _).setCell (fun _ h => h) _ _
      generalize (((wc5.setCell ⟨B, 2, none⟩ (.slice y2 e.needs.length z2)).setCell ⟨B, 3, none⟩ (.slice y3 e.conf.length z3)).setCell ⟨B, 4, none⟩ (.slice y4 e.files.length z4)).setCell ⟨B, 5, none⟩ (.slice y5 e.units.length z5) = w6 at hb6 hk6 ⊢
      have hx5 : Ext wr wc5 := HX3.out.trans HK.out
      have hx6 : Ext wr w6 := ((Keep.of_ext (S := fun j => j < wr.heap.size) hx5).andThen hk6 (fun j hj _ => by omega)).ext_lt
      have ho6 := hx6.heap hO.out
      have hr6 := hx6.heap hRr.out
      have hm6 := HE2.out.1.ext hx6
      have hkey : keyOf Tryz.prog 9 (.string (bs e.name)) = some (keyS e.name) := by
        have := key_str (bs e.name) (by rw [bs_size]; unfold maxLen; omega)
        rw [bs_data] at this
        exact this
      have p0 := blk_cell hb6 0 (Value.string (bs e.name)) rfl
      have p1 := blk_cell hb6 1 (Value.string (bs e.ver)) rfl
      have p2 := blk_cell hb6 2 (Value.slice y2 e.needs.length z2) rfl
      have p3 := blk_cell hb6 3 (Value.slice y3 e.conf.length z3) rfl
      have p4 := blk_cell hb6 4 (Value.slice y4 e.files.length z4) rfl
      have p5 := blk_cell hb6 5 (Value.slice y5 e.units.length z5) rfl
      have q0 := blk_cell ho6 0 (Value.map (some bd)) rfl
      have HX6 := Lib.hid hx6; clear hx6 hx5
      have HK6 := Lib.hid hk6; clear hk6 hb6 hsz
      have HO6 := Lib.hid ho6; clear ho6
      have HR6 := Lib.hid hr6; clear hr6
      have HM6 := Lib.hid hm6; clear hm6
      go_wp2_with (first
        | (at_mapUpdate; refine wpList_store_F rfl _ _ _ 40 rfl 37 str_keyed Tryz.underlying40 bd (N + k) _ rfl HM6.out (by unfold maxLen; omega) keyS_inj _ (.agg #[.string (bs e.name), .string (bs e.ver), .slice y2 e.needs.length z2, .slice y3 e.conf.length z3, .slice y4 e.files.length z4, .slice y5 e.units.length z5]) e.name rfl rfl hkey ?_; intro w7 hm7 hk7; go_frame)
        | go_in)
      have hz := HZ.out
      have hsz := HBS.out
      have hbw : B < w3.heap.size := (Array.getElem?_eq_some_iff.1 HB3.out).1
      obtain ⟨es, cl, hmb⟩ := HE2.out.1.block
      have hk67 : Keep (fun j => j ≠ bd) wr w7 := (Keep.of_ext HX6.out).trans hk7
      have hkc : Keep (fun j => j ≠ B ∧ j ≠ bd) wc5 w7 := (HK6.out.mono (fun _ _ h => h.1)).andThen hk7 (fun _ _ h => h.2)
      have hS : ∀ g, w3.heap.size ≤ g → g ≠ B ∧ g ≠ bd := fun g hg => by omega
      refine ⟨⟨k + 1, by go_num, by omega, Lib.hid ⟨fun x => if x = e.name then ⟨y2, y3, y4, y5, z2, z3, z4, z5⟩ else A2 x, hm7.same ?_, ?_⟩, Lib.hid (hk7.heap (by omega) HO6.out), Lib.hid (hk7.heap (by omega) HR6.out), Lib.hid (((Keep.of_ext (S := fun j => j < w.heap.size) hX.out).andThen hk67 (fun j hj _ => by omega)).ext_lt)⟩, by simp [intOf]; omega⟩
      · rw [HTK.out]
        funext z
        unfold entF withF
        by_cases hze : z = e.name
        · subst hze; simp [pkgV]
        · simp [hze]
      · intro x d hd
        rw [HTK.out] at hd
        unfold withF at hd
        by_cases hxe : x = e.name
        · rw [if_pos hxe] at hd
          cases hd
          simp only [if_pos hxe]
          exact ⟨⟨needs_run.2 (HR2.out.fresh HF2.out hkc hS), strs_run.2 (HR3.out.fresh HF3.out hkc hS), filesE_run.2 (HR4.out.fresh HF4.out hkc hS), strs_run.2 (HR5.out.fresh HF5.out hkc hS)⟩, hz2, hz3, hz4, hz5⟩
        · rw [if_neg hxe] at hd
          simp only [if_neg hxe]
          exact ⟨(HE2.out.2 x d hd).1.keep_map hk67 hmb, (HE2.out.2 x d hd).2⟩
    · obtain rfl : k = n := by omega
      have q0 := blk_cell hO.out 0 (Value.map (some bd)) rfl
      have r0 := blk_cell hRr.out 0 (Value.map none) rfl
      have f0 := blk_free hRr.out 0
      go_wp2_with fail
      refine bodyPost_ret (v := .agg #[.map (some bd)]) (by simp [results, Tryz.results17, go_sem, r0]) rfl ?_
      rw [HR.out]
      have hz := HZ.out
      have hk2 : Keep (fun j => j < w.heap.size) w (wr.setCell ⟨RS, 0, none⟩ (.map (some bd))) := (Keep.of_ext hX.out).setCell (fun j hj => by omega) 0 _
      have hk3 : Keep (fun j => j ≠ RS) wr (wr.setCell ⟨RS, 0, none⟩ (.map (some bd))) := (Keep.refl _ _).setCell (fun j hj => hj) 0 _
      have hlt : L.take k = L := by rw [List.take_of_length_le (by have := HN.out; omega)]
      obtain ⟨A2, hE2⟩ := hE.out
      rw [hlt] at hE2
      refine ⟨bd, A2, rfl, by omega, ?_, hk2.ext_lt⟩
      rw [← HN.out]
      exact hE2.keep hk3 hRr.out

set_option maxRecDepth 100000 in
set_option maxHeartbeats 3200000 in
theorem base_new (a : Option Addr) (c : Nat) (L : List (PkgD × PkgA)) (w : World) (hL : EntsL w a L) (hr : ∀ x ∈ L, rightP x.1 = true) (hN : L.length ≤ 100000) :
    Calls Tryz.prog 13 #[.slice a L.length c] w (WithR L.length ((L.map Prod.fst).foldl withF noneF) w) := by
  obtain ⟨R, hR⟩ : ∃ R, R = WithR L.length ((L.map Prod.fst).foldl withF noneF) w := ⟨_, rfl⟩
  rw [← hR]
  have HR := Lib.hid hR; clear hR
  have hx1 := Ext.alloc w (.cells #[.map none] 42)
  have hr1 := heap_alloc_new w (.cells #[.map none] 42)
  have hw := base_with (.agg #[.map none]) 0 noneF a c L (w.alloc (.cells #[.map none] 42)) (Or.inl ⟨rfl, rfl⟩) (hL.ext hx1) hr (by omega)
  rw [Nat.zero_add] at hw
  have HW := Lib.hid hw; clear hw hr hL
  have HX1 := Lib.hid hx1; clear hx1
  have HR1 := Lib.hid hr1; clear hr1
  go_enter Tryz.func13, Tryz.ntmps13
  go_upto_region 1 with (fail)
  generalize w.alloc (.cells #[.map none] 42) = w1 at HW HX1 HR1 ⊢
  obtain ⟨RS, hRS⟩ : ∃ x, x = w.heap.size := ⟨_, rfl⟩
  rw [← hRS] at HR1 ⊢
  have HRS := Lib.hid hRS; clear hRS
  go_wp2_with (first
    | (go_at_call 17; refine HW.out.mono ?_; rintro e w2 ⟨b2, A2, rfl, hbs, hb2, hx2⟩; have HBS := Lib.hid hbs; clear hbs; have HB2 := Lib.hid hb2; clear hb2; have HX2 := Lib.hid hx2; clear hx2; have r0 := blk_cell (HX2.out.heap HR1.out) 0 (Value.map none) rfl; have f0 := blk_free (HX2.out.heap HR1.out) 0))
  refine bodyPost_ret (v := .agg #[.map (some b2)]) (by simp [results, Tryz.results13, go_sem, r0]) rfl ?_
  rw [HR.out]
  have hrs := HRS.out
  have hr2 := HX2.out.heap HR1.out
  have hk2 : Keep (fun j => j < w.heap.size) w (w2.setCell ⟨RS, 0, none⟩ (.map (some b2))) := (Keep.of_ext (HX1.out.trans HX2.out)).setCell (fun j hj => by omega) 0 _
  have hk3 : Keep (fun j => j ≠ RS) w2 (w2.setCell ⟨RS, 0, none⟩ (.map (some b2))) := (Keep.refl _ _).setCell (fun j hj => hj) 0 _
  exact ⟨b2, A2, rfl, Nat.le_trans HX1.out.size HBS.out, HB2.out.keep hk3 hr2, hk2.ext_lt⟩

end Go.Proofs.YtnclibfhbngkjaaGreatDoor
