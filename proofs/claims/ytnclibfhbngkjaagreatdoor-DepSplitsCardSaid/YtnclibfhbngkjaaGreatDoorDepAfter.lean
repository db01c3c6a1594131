/- dep.After: which packages are there behind a change, or why it may not be done. -/
import Derived.Test.YtnclibfhbngkjaaGreatDoorDepCheck
import Derived.Test.YtnclibfhbngkjaaGreatDoorDepLaws
import Derived.Test.YtnclibfhbngkjaaGreatDoorBaseOf
import Derived.Test.YtnclibfhbngkjaaGreatDoorBaseLess
import Derived.Test.YtnclibfhbngkjaaGreatDoorArcRight
namespace Go.Proofs.YtnclibfhbngkjaaGreatDoor
open Go.RowKit
attribute [local go_sem ↓] Go.wp_at_zero Go.wp_at_succ
/-- A package's six cells, at a place. -/
def PkgAt (w : World) (g o : Nat) (x : PkgD × PkgA) : Prop :=
  (w.cell? ⟨g, o, none⟩ = some (.string (bs x.1.name)) ∧ w.cell? ⟨g, o + 1, none⟩ = some (.string (bs x.1.ver)) ∧ w.cell? ⟨g, o + 2, none⟩ = some (.slice x.2.an x.1.needs.length x.2.cn) ∧ w.cell? ⟨g, o + 3, none⟩ = some (.slice x.2.ac x.1.conf.length x.2.cc) ∧ w.cell? ⟨g, o + 4, none⟩ = some (.slice x.2.af x.1.files.length x.2.cf) ∧ w.cell? ⟨g, o + 5, none⟩ = some (.slice x.2.au x.1.units.length x.2.cu)) ∧ PkgM w x.1 x.2 ∧ PkgC x.1 x.2
theorem PkgAt.ext {w w' : World} {g o : Nat} {x : PkgD × PkgA} (h : PkgAt w g o x) (k : Ext w w') : PkgAt w' g o x :=
  ⟨⟨k.cell h.1.1, k.cell h.1.2.1, k.cell h.1.2.2.1, k.cell h.1.2.2.2.1, k.cell h.1.2.2.2.2.1, k.cell h.1.2.2.2.2.2⟩, h.2.1.ext k, h.2.2⟩
/-- Packages that came lie so. -/
def PkgsL (w : World) (a : Option Addr) (L : List (PkgD × PkgA)) : Prop :=
  L = [] ∨ ∃ g off, a = some ⟨g, off, none⟩ ∧ g < w.heap.size ∧ ∀ i, i < L.length → PkgAt w g (off + i * 6) (L.getD i ez)
theorem PkgsL.ext {w w' : World} {a : Option Addr} {L : List (PkgD × PkgA)} (h : PkgsL w a L) (k : Ext w w') : PkgsL w' a L := by
  rcases h with h | ⟨g, off, ha, hg, hc⟩
  · exact Or.inl h
  · exact Or.inr ⟨g, off, ha, Nat.lt_of_lt_of_le hg k.size, fun i hi => (hc i hi).ext k⟩
theorem PkgsL.at {w : World} {a : Option Addr} {L : List (PkgD × PkgA)} (h : PkgsL w a L) {i : Nat} (hi : i < L.length) :
    ∃ g off, a = some ⟨g, off, none⟩ ∧ g < w.heap.size ∧ PkgAt w g (off + i * 6) (L.getD i ez) := by
  rcases h with h | ⟨g, off, ha, hg, hc⟩
  · rw [h] at hi; simp at hi
  · exact ⟨g, off, ha, hg, hc i hi⟩
theorem set1_3 {w : World} {A B : Nat} {t u : TypeId} {a b0 b1 b2 : Value} (ha : w.heap[A]? = some (.cells #[a] t (0, 0))) (hb : w.heap[B]? = some (.cells #[b0, b1, b2] u (0, 0))) (hne : A ≠ B) (v v0 v1 v2 : Value) :
    ((((w.setCell ⟨A, 0, none⟩ v).setCell ⟨B, 0, none⟩ v0).setCell ⟨B, 1, none⟩ v1).setCell ⟨B, 2, none⟩ v2).cell? ⟨A, 0, none⟩ = some v ∧
    ((((w.setCell ⟨A, 0, none⟩ v).setCell ⟨B, 0, none⟩ v0).setCell ⟨B, 1, none⟩ v1).setCell ⟨B, 2, none⟩ v2).cell? ⟨B, 0, none⟩ = some v0 ∧
    ((((w.setCell ⟨A, 0, none⟩ v).setCell ⟨B, 0, none⟩ v0).setCell ⟨B, 1, none⟩ v1).setCell ⟨B, 2, none⟩ v2).cell? ⟨B, 1, none⟩ = some v1 ∧
    ((((w.setCell ⟨A, 0, none⟩ v).setCell ⟨B, 0, none⟩ v0).setCell ⟨B, 1, none⟩ v1).setCell ⟨B, 2, none⟩ v2).cell? ⟨B, 2, none⟩ = some v2 ∧
    Keep (fun j => j ≠ A ∧ j ≠ B) w ((((w.setCell ⟨A, 0, none⟩ v).setCell ⟨B, 0, none⟩ v0).setCell ⟨B, 1, none⟩ v1).setCell ⟨B, 2, none⟩ v2) := by
  have k1 : Keep (· ≠ A) w (w.setCell ⟨A, 0, none⟩ v) := (Keep.refl _ _).setCell (fun _ h => h) 0 _
  have h1 : (w.setCell ⟨A, 0, none⟩ v).heap[A]? = some (.cells #[v] t (0, 0)) := setCell_row ha v
  have h2 := k1.heap (g := B) (fun e => hne e.symm) hb
  obtain ⟨h3, hbut⟩ := set3f h2 v0 v1 v2
  have h4 := (Keep.of_but hbut).heap (g := A) hne h1
  exact ⟨blk_cell h4 0 _ rfl, blk_cell h3 0 _ rfl, blk_cell h3 1 _ rfl, blk_cell h3 2 _ rfl, (k1.mono (fun _ _ h => h.1)).trans ((Keep.of_but hbut).mono (fun _ _ h => h.2))⟩
theorem setCell_id {w : World} {B i : Nat} {cs : Array Value} {t : TypeId} {v : Value} (hg : w.heap[B]? = some (.cells cs t (0, 0))) (h : cs[i]? = some v) : w.setCell ⟨B, i, none⟩ v = w := by
  have h1 : (w.setCell ⟨B, i, none⟩ v).heap = w.heap := by
    apply Array.ext_getElem?
    intro k
    by_cases hk : k = B
    · subst hk
      rw [setCell_row hg v, hg]
      have : cs.setIfInBounds i v = cs := by
        apply Array.ext_getElem?
        intro j
        rw [Array.getElem?_setIfInBounds]
        split
        · rename_i hij
          subst hij
          split
          · exact h.symm
          · rename_i hs
            rw [Array.getElem?_eq_none (by omega)] at h
            cases h
        · rfl
      rw [this]
    · by_cases hl : k < w.heap.size
      · exact (((Keep.refl (· ≠ B) w).setCell (fun _ h => h) i v).block k hl hk)
      · have hs : (w.setCell ⟨B, i, none⟩ v).heap.size = w.heap.size := by simp
        rw [Array.getElem?_eq_none (by omega), Array.getElem?_eq_none (by omega)]
  calc w.setCell ⟨B, i, none⟩ v = { w with heap := (w.setCell ⟨B, i, none⟩ v).heap } := by simp [World.setCell]
    _ = w := by rw [h1]
/-- What Z lies in the fault's cells anyway. -/
theorem set1_3z {w : World} {A B : Nat} {t u : TypeId} {a b0 b1 b2 : Value} (_ha : w.heap[A]? = some (.cells #[a] t (0, 0))) (hb : w.heap[B]? = some (.cells #[b0, b1, b2] u (0, 0))) (hne : A ≠ B) (v : Value) :
    ((((w.setCell ⟨A, 0, none⟩ v).setCell ⟨B, 0, none⟩ b0).setCell ⟨B, 1, none⟩ b1).setCell ⟨B, 2, none⟩ b2) = w.setCell ⟨A, 0, none⟩ v := by
  have k1 : Keep (· ≠ A) w (w.setCell ⟨A, 0, none⟩ v) := (Keep.refl _ _).setCell (fun _ h => h) 0 _
  have h2 := k1.heap (g := B) (fun e => hne e.symm) hb
  rw [setCell_id (i := 0) (v := b0) h2 rfl, setCell_id (i := 1) (v := b1) h2 rfl, setCell_id (i := 2) (v := b2) h2 rfl]
theorem contains_by (a : Option Addr) (c : Nat) (L : List By) (x : By) (w : World) (hS : Strs w a L) (hl : L.length ≤ 1000000) :
    Calls Tryz.prog 63 #[.slice a L.length c, .string (bs x)] w fun e w' => e = .returned (.bool (decide (x ∈ L))) ∧ Ext w w' := by
  rcases hS with h | ⟨g, off, ha, _, hc⟩
  · subst h
    refine (Tryz.slices_Contains_string_empty a c (bs x) w).mono ?_
    rintro e w' ⟨he, rfl⟩
    exact ⟨by rw [he]; simp, Ext.refl _⟩
  · subst ha
    refine (Tryz.slices_Contains_string g off L.length c (L.map bs) (bs x) w (by simp) (by omega) (fun j hj => by
      have hj' : j < L.length := by simpa using hj
      rw [hc j hj']
      simp [List.getD_eq_getElem?_getD, hj'])).mono ?_
    rintro e w' ⟨he, rfl⟩
    refine ⟨?_, Ext.refl _⟩
    rw [he]
    congr 2
    rw [Bool.eq_iff_iff, Lib.containsS_iff, decide_eq_true_eq, List.take_of_length_le (by simp), List.mem_map]
    constructor
    · rintro ⟨y, hy, e⟩
      have : y = x := by
        have := congrArg (fun s => s.data.toList) e
        simpa [bs_data] using this
      rw [← this]; exact hy
    · intro h
      exact ⟨x, h, rfl⟩
theorem comes_append (f : BaseF) : ∀ (A B : List PkgD) (seen : List By), comesFault f seen (A ++ B) = match comesFault f seen A with
    | some x => some x
    | none => comesFault f (seen ++ A.map PkgD.name) B
  | [], B, seen => by simp [comesFault]
  | p :: A, B, seen => by
    simp only [List.cons_append, comesFault]
    cases comeFault f seen p with
    | some x => rfl
    | none =>
      simp only [comes_append f A B, List.map_cons, List.append_assoc, List.singleton_append]
theorem gos_append (f : BaseF) : ∀ (A B : List By) (seen : List By), gosFault f seen (A ++ B) = match gosFault f seen A with
    | some x => some x
    | none => gosFault f (seen ++ A) B
  | [], B, seen => by simp [gosFault]
  | p :: A, B, seen => by
    simp only [List.cons_append, gosFault]
    cases goFault f seen p with
    | some x => rfl
    | none =>
      simp only [gos_append f A B, List.append_assoc, List.singleton_append]
theorem comes_step {f : BaseF} {L : List PkgD} {k : Nat} (hk : k < L.length) (h0 : comesFault f [] (L.take k) = none) : comesFault f [] (L.take (k + 1)) = comeFault f ((L.take k).map PkgD.name) (L.getD k pz) := by
  have e : L.getD k pz = L[k] := by simp [List.getD_eq_getElem?_getD, List.getElem?_eq_getElem hk]
  rw [List.take_succ_eq_append_getElem hk, comes_append, h0, e]
  simp only [List.nil_append]
  unfold comesFault
  cases comeFault f ((L.take k).map PkgD.name) L[k] <;> rfl
theorem comes_hit {f : BaseF} {L : List PkgD} {k : Nat} {x : FaultD} (hk : k < L.length) (h0 : comesFault f [] (L.take k) = none) (h : comeFault f ((L.take k).map PkgD.name) (L.getD k pz) = some x) : comesFault f [] L = some x := by
  have h1 := comes_step hk h0
  rw [h] at h1
  have h2 : L = L.take (k + 1) ++ L.drop (k + 1) := (List.take_append_drop (k + 1) L).symm
  rw [h2, comes_append, h1]
theorem gos_step {f : BaseF} {seen L : List By} {k : Nat} (hk : k < L.length) (h0 : gosFault f seen (L.take k) = none) : gosFault f seen (L.take (k + 1)) = goFault f (seen ++ L.take k) (L.getD k []) := by
  have e : L.getD k [] = L[k] := by simp [List.getD_eq_getElem?_getD, List.getElem?_eq_getElem hk]
  rw [List.take_succ_eq_append_getElem hk, gos_append, h0, e]
  simp only
  unfold gosFault
  cases goFault f (seen ++ L.take k) L[k] <;> rfl
theorem gos_hit {f : BaseF} {seen L : List By} {k : Nat} {x : FaultD} (hk : k < L.length) (h0 : gosFault f seen (L.take k) = none) (h : goFault f (seen ++ L.take k) (L.getD k []) = some x) : gosFault f seen L = some x := by
  have h1 := gos_step hk h0
  rw [h] at h1
  have h2 : L = L.take (k + 1) ++ L.drop (k + 1) := (List.take_append_drop (k + 1) L).symm
  rw [h2, gos_append, h1]
/-- What After answers. -/
def AfterR (N : Nat) (f : BaseF) (come : List PkgD) (go : List By) (w : World) (e : Ending) (w' : World) : Prop :=
  Ext w w' ∧ ((∃ x, preFault f come go = some x ∧ e = .returned (.tuple #[.agg #[.map none], faultV x])) ∨
    (preFault f come go = none ∧ ∃ ss, NamesF (outF f come go) ss ∧
      (((checkD (outF f come go) ss).code ≠ 0 ∧ e = .returned (.tuple #[.agg #[.map none], faultV (checkD (outF f come go) ss)])) ∨
       ((checkD (outF f come go) ss).code = 0 ∧ ∃ b A, e = .returned (.tuple #[.agg #[.map (some b)], faultV okD]) ∧ EntsM w' b (N + come.length) (outF f come go) A))))
theorem getD_map1 {L : List (PkgD × PkgA)} {k : Nat} (hk : k < L.length) : (L.map Prod.fst).getD k pz = (L.getD k ez).1 := by
  simp [List.getD_eq_getElem?_getD, List.getElem?_eq_getElem hk]
theorem one_ents {w : World} {V : Nat} {p : PkgD} {A : PkgA} (h : w.heap[V]? = some (.cells #[.string (bs p.name), .string (bs p.ver), .slice A.an p.needs.length A.cn, .slice A.ac p.conf.length A.cc, .slice A.af p.files.length A.cf, .slice A.au p.units.length A.cu] 37 (0, 0))) (hm : EntM w p A) (hc : PkgC p A) : EntsL w (some ⟨V, 0, none⟩) [(p, A)] := by
  refine Or.inr ⟨V, 0, rfl, (Array.getElem?_eq_some_iff.1 h).1, fun i hi => ?_⟩
  have : i = 0 := by simpa using hi
  subst this
  exact ⟨⟨blk_cell h 0 _ rfl, blk_cell h 1 _ rfl, blk_cell h 2 _ rfl, blk_cell h 3 _ rfl, blk_cell h 4 _ rfl, blk_cell h 5 _ rfl⟩, hm, hc⟩
set_option maxRecDepth 100000 in
set_option maxHeartbeats 12800000 in
theorem dep_after (v : Value) (N : Nat) (f : BaseF) (ca : Option Addr) (cc : Nat) (L : List (PkgD × PkgA)) (ga : Option Addr) (gc : Nat) (G : List By) (w : World) (hE : EnvN w) (hb : BaseM w v N f) (hg : GoodF f) (hL : PkgsL w ca L) (hG : Strs w ga G)
    (hfit : ∀ x ∈ L, SmallP x.1) (hgl : ∀ s ∈ G, s.length ≤ 100000) (hN : N + L.length ≤ 100000) (hGn : G.length ≤ 100000) :
    Calls Tryz.prog 24 #[v, .agg #[.slice ca L.length cc, .slice ga G.length gc]] w (AfterR N f (L.map Prod.fst) G w) := by
  obtain ⟨R, hR⟩ : ∃ R, R = AfterR N f (L.map Prod.fst) G w := ⟨_, rfl⟩
  rw [← hR]
  have HR := Lib.hid hR; clear hR
  obtain ⟨pm, A0, rfl, _⟩ := hb.parts
  obtain ⟨n, hnn⟩ : ∃ n, n = L.length := ⟨_, rfl⟩
  obtain ⟨m, hmm⟩ : ∃ m, m = G.length := ⟨_, rfl⟩
  rw [← hnn] at hN ⊢
  rw [← hmm] at hGn ⊢
  have HN := Lib.hid hnn; clear hnn
  have HM := Lib.hid hmm; clear hmm
  have hx1 : Ext w ((((w.alloc (.cells #[.map pm] 42)).alloc (.cells #[.slice ca n cc, .slice ga m gc] 61)).alloc (.cells #[.map none] 42)).alloc (.cells #[.int .i64 0, .string ⟨#[]⟩, .string ⟨#[]⟩] 63)) := (((Ext.alloc _ _).trans (Ext.alloc _ _)).trans (Ext.alloc _ _)).trans (Ext.alloc _ _)
  have hb1 := (((Ext.alloc (w.alloc (.cells #[.map pm] 42)) (.cells #[.slice ca n cc, .slice ga m gc] 61)).trans (Ext.alloc _ (.cells #[.map none] 42))).trans (Ext.alloc _ (.cells #[.int .i64 0, .string ⟨#[]⟩, .string ⟨#[]⟩] 63))).heap (heap_alloc_new w (.cells #[.map pm] 42))
  have hc1 := ((Ext.alloc ((w.alloc (.cells #[.map pm] 42)).alloc (.cells #[.slice ca n cc, .slice ga m gc] 61)) (.cells #[.map none] 42)).trans (Ext.alloc _ (.cells #[.int .i64 0, .string ⟨#[]⟩, .string ⟨#[]⟩] 63))).heap (heap_alloc_new (w.alloc (.cells #[.map pm] 42)) (.cells #[.slice ca n cc, .slice ga m gc] 61))
  have hr4 := (Ext.alloc (((w.alloc (.cells #[.map pm] 42)).alloc (.cells #[.slice ca n cc, .slice ga m gc] 61)).alloc (.cells #[.map none] 42)) (.cells #[.int .i64 0, .string ⟨#[]⟩, .string ⟨#[]⟩] 63)).heap (heap_alloc_new ((w.alloc (.cells #[.map pm] 42)).alloc (.cells #[.slice ca n cc, .slice ga m gc] 61)) (.cells #[.map none] 42))
  have hr5 := heap_alloc_new (((w.alloc (.cells #[.map pm] 42)).alloc (.cells #[.slice ca n cc, .slice ga m gc] 61)).alloc (.cells #[.map none] 42)) (.cells #[.int .i64 0, .string ⟨#[]⟩, .string ⟨#[]⟩] 63)
  simp only [World.size_alloc] at hc1 hr4 hr5
  go_enter Tryz.func24, Tryz.ntmps24
  go_upto_region 1 with (fail)
  generalize ((((w.alloc (.cells #[.map pm] 42)).alloc (.cells #[.slice ca n cc, .slice ga m gc] 61)).alloc (.cells #[.map none] 42)).alloc (.cells #[.int .i64 0, .string ⟨#[]⟩, .string ⟨#[]⟩] 63)) = w1 at hx1 hb1 hc1 hr4 hr5 ⊢
  obtain ⟨BX, hBX⟩ : ∃ x, x = w.heap.size := ⟨_, rfl⟩
  obtain ⟨CX, hCX⟩ : ∃ x, x = w.heap.size + 1 := ⟨_, rfl⟩
  obtain ⟨R4, hR4⟩ : ∃ x, x = w.heap.size + 1 + 1 := ⟨_, rfl⟩
  obtain ⟨R5, hR5⟩ : ∃ x, x = w.heap.size + 1 + 1 + 1 := ⟨_, rfl⟩
  rw [← hR5] at hr5 ⊢
  rw [← hR4] at hr4 ⊢
  rw [← hCX] at hc1 ⊢
  rw [← hBX] at hb1 ⊢
  have HZ : Hid (BX = w.heap.size ∧ CX = w.heap.size + 1 ∧ R4 = w.heap.size + 1 + 1 ∧ R5 = w.heap.size + 1 + 1 + 1) := Lib.hid ⟨hBX, hCX, hR4, hR5⟩
  clear hR5 hR4 hCX hBX
  have HB := Lib.hid (hb.ext hx1); clear hb
  have HG := Lib.hid hg; clear hg
  have HL := Lib.hid (hL.ext hx1); clear hL
  have HGS := Lib.hid (hG.ext hx1); clear hG
  have HE := Lib.hid (hE.ext hx1); clear hE
  have HFT := Lib.hid hfit; clear hfit
  have HGL := Lib.hid hgl; clear hgl
  have HX1 := Lib.hid hx1; clear hx1
  have c0 := blk_cell hc1 0 (Value.slice ca n cc) rfl
  have c1 := blk_cell hc1 1 (Value.slice ga m gc) rfl
  have HWL : Hid (R5 < w1.heap.size) := Lib.hid (Array.getElem?_eq_some_iff.1 hr5).1
  have HR4 := Lib.hid hr4; clear hr4
  have HR5 := Lib.hid hr5; clear hr5
  have HB1 := Lib.hid hb1; clear hb1
  have HC1 := Lib.hid hc1; clear hc1
  by_cases h0 : n + m = 0
  · have hd0 : ((n : Int) + (m : Int) == 0) = true := by rw [beq_iff_eq]; omega
    have H0 := Lib.hid h0; clear h0
    have n45 : R4 ≠ R5 := by have := HZ.out; omega
    have n54 : R5 ≠ R4 := by have := HZ.out; omega
    have h4r := (Ext.refl w1).heap HR4.out
    have h5r := (Ext.refl w1).heap HR5.out
    have r4 := blk_cell h4r 0 (Value.map none) rfl
    have g4 := blk_free h4r 0
    have r0 := blk_cell h5r 0 (Value.int .i64 0) rfl
    have r1 := blk_cell h5r 1 (Value.string ⟨#[]⟩) rfl
    have r2 := blk_cell h5r 2 (Value.string ⟨#[]⟩) rfl
    have g0 := blk_free h5r 0
    have g1 := blk_free h5r 1
    have g2 := blk_free h5r 2
    have hs7 := set1_3 h4r h5r (by have := HZ.out; omega) (.map none) (.int .i64 1) (.string ⟨#[]⟩) (.string ⟨#[]⟩)
    have HS7 := Lib.hid hs7; clear hs7 h4r h5r
    go_wp2_with fail
    obtain ⟨q4, q0, q1, q2, hk7⟩ := HS7.out
    refine bodyPost_ret (v := .tuple #[.agg #[.map none], .agg #[.int .i64 1, .string ⟨#[]⟩, .string ⟨#[]⟩]]) (by simp [results, Tryz.results24, go_sem, q4, q0, q1, q2]) rfl ?_
    rw [HR.out]
    have hz := HZ.out
    have hxe : Ext w _ := (((Keep.of_ext (S := fun j => j < w.heap.size) (HX1.out.trans (Ext.refl w1))).andThen hk7 (fun j hj _ => by show j ≠ R4 ∧ j ≠ R5; omega))).ext_lt
    refine ⟨hxe, ?_⟩
    refine Or.inl ⟨⟨1, [], []⟩, ?_, rfl⟩
    unfold preFault
    rw [if_pos (by rw [List.length_map, ← HN.out, ← HM.out]; exact H0.out)]
  · have hd0 : ((n : Int) + (m : Int) == 0) = false := by rw [beq_eq_false_iff_ne]; omega
    have hpre : preFault f (L.map Prod.fst) G = match comesFault f [] (L.map Prod.fst) with
      | some x => some x
      | none => gosFault f ((L.map Prod.fst).map PkgD.name) G := by
      unfold preFault
      rw [if_neg (by rw [List.length_map, ← HN.out, ← HM.out]; exact h0)]
      cases comesFault f [] (L.map Prod.fst) <;> rfl
    have HPRE := Lib.hid hpre; clear hpre h0
    go_wp2_with fail
    clear c0 c1 hd0
    go_loopw [6, 32] (fun s i wr => ∃ (k : Nat) (sa : Option Addr) (sc : Nat), s = .slice sa k sc ∧ i = .int .i64 k ∧ k ≤ n ∧ Hid (comesFault f [] ((L.map Prod.fst).take k) = none) ∧ Hid (OwnS wr w1.heap.size sa sc (((L.map Prod.fst).take k).map PkgD.name)) ∧ Hid (Ext w1 wr)) (fun _ i _ => n - (intOf i).toNat)
    case atStart => exact ⟨0, none, 0, rfl, rfl, Nat.zero_le _, Lib.hid rfl, Lib.hid (OwnS.nil _ _), Lib.hid (Ext.refl _)⟩
    case round =>
      obtain ⟨k, sa, sc, rfl, rfl, hk, hF, hO, hX⟩ := hrel
      have hsn : ((((L.map Prod.fst).take k).map PkgD.name)).length = k := by
        have := HN.out
        rw [List.length_map, List.length_take, List.length_map]; omega
      have HSN := Lib.hid hsn; clear hsn
      by_cases hlt : k < n
      · have hkL : k < L.length := by have := HN.out; omega
        have hkM : k < (L.map Prod.fst).length := by rw [List.length_map]; exact hkL
        have hmem : L.getD k ez ∈ L := by rw [List.getD_eq_getElem?_getD, List.getElem?_eq_getElem hkL]; simp
        have hsm := HFT.out _ hmem
        have hat := (HL.out.ext hX.out).at hkL
        have hgd := getD_map1 hkL
        obtain ⟨x, hx⟩ : ∃ x, x = L.getD k ez := ⟨_, rfl⟩
        rw [← hx] at hsm hat hgd
        obtain ⟨p, A⟩ := x
        obtain ⟨g, off, rfl, _, ⟨a0, a1, a2, a3, a4, a5⟩, hpm, hpc⟩ := hat
        obtain ⟨an, ac, af, au, cn, cq, cf, cu⟩ := A
        simp only at a0 a1 a2 a3 a4 a5 hsm hgd hpm hpc
        have HGD := Lib.hid hgd; clear hgd hx hmem
        have HSM := Lib.hid hsm
        have hpl : p.name.length ≤ 100000 := by have := hsm.name; omega
        clear hsm
        go_upto_region 7 with (fail)
        clear a0 a1 a2 a3 a4 a5
        have hx5 := Ext.alloc wr (.cells #[.string (bs p.name), .string (bs p.ver), .slice an p.needs.length cn, .slice ac p.conf.length cq, .slice af p.files.length cf, .slice au p.units.length cu] 31)
        have hf5 := heap_alloc_new wr (.cells #[.string (bs p.name), .string (bs p.ver), .slice an p.needs.length cn, .slice ac p.conf.length cq, .slice af p.files.length cf, .slice au p.units.length cu] 31)
        generalize wr.alloc (.cells #[.string (bs p.name), .string (bs p.ver), .slice an p.needs.length cn, .slice ac p.conf.length cq, .slice af p.files.length cf, .slice au p.units.length cu] 31) = w5 at hx5 hf5 ⊢
        obtain ⟨F, hFF⟩ : ∃ x, x = wr.heap.size := ⟨_, rfl⟩
        rw [← hFF] at hf5 ⊢
        have HFL : Hid (w1.heap.size ≤ F) := Lib.hid (by rw [hFF]; exact hX.out.size)
        clear hFF
        have HF5 := Lib.hid hf5
        have f0 := blk_cell hf5 0 (Value.string (bs p.name)) rfl
        have HX5 := Lib.hid (hX.out.trans hx5)
        have HX5' := Lib.hid hx5
        have HPM := Lib.hid (hpm.ext hx5); clear hx5 hf5 hpm
        have HPC := Lib.hid hpc; clear hpc
        have b0 := blk_cell (HX5.out.heap HB1.out) 0 (Value.map pm) rfl
        have how := base_get (.agg #[.map pm]) N f p.name w5 (HB.out.ext HX5.out) HG.out hpl
        obtain ⟨y, hy⟩ : ∃ y, y = (f p.name).getD pz := ⟨_, rfl⟩
        obtain ⟨z, hz0⟩ : ∃ z, z = (f p.name).isSome := ⟨_, rfl⟩
        rw [← hy, ← hz0] at how
        have HOW := Lib.hid how; clear how
        have HY := Lib.hid hy; clear hy
        have HZZ := Lib.hid hz0; clear hz0
        go_upto_region 8 with (first
          | (go_at_call 19; refine HOW.out.mono ?_; rintro E w6 ⟨A, rfl, _, _, hx6⟩; obtain ⟨bn, bc, bf, bu, dn, dc, df, du⟩ := A; unfold pkgV; have HX6 := Lib.hid hx6; clear hx6))
        clear b0 f0 HOW
        try simp only
        have hx7 := Ext.alloc w6 (.cells #[.string (bs y.name), .string (bs y.ver), .slice bn y.needs.length dn, .slice bc y.conf.length dc, .slice bf y.files.length df, .slice bu y.units.length du] 37)
        have hf7 := heap_alloc_new w6 (.cells #[.string (bs y.name), .string (bs y.ver), .slice bn y.needs.length dn, .slice bc y.conf.length dc, .slice bf y.files.length df, .slice bu y.units.length du] 37)
        generalize w6.alloc (.cells #[.string (bs y.name), .string (bs y.ver), .slice bn y.needs.length dn, .slice bc y.conf.length dc, .slice bf y.files.length df, .slice bu y.units.length du] 37) = w7 at hx7 hf7 ⊢
        obtain ⟨Y, hYY⟩ : ∃ x, x = w6.heap.size := ⟨_, rfl⟩
        rw [← hYY] at hf7 ⊢
        have HYL : Hid (w1.heap.size ≤ Y) := Lib.hid (by rw [hYY]; exact (HX5.out.trans HX6.out).size)
        clear hYY
        have HX7 := Lib.hid (HX5.out.trans (HX6.out.trans hx7))
        have HX7' := Lib.hid (HX5'.out.trans (HX6.out.trans hx7))
        have HF7 := Lib.hid ((HX6.out.trans hx7).heap HF5.out)
        have HPM7 := Lib.hid (HPM.out.ext (HX6.out.trans hx7)); clear hx7
        have HY7 := Lib.hid hf7; clear hf7
        have f0 := blk_cell HF7.out 0 (Value.string (bs p.name)) rfl
        have f1 := blk_cell HF7.out 1 (Value.string (bs p.ver)) rfl
        have f2 := blk_cell HF7.out 2 (Value.slice an p.needs.length cn) rfl
        have f3 := blk_cell HF7.out 3 (Value.slice ac p.conf.length cq) rfl
        have f4 := blk_cell HF7.out 4 (Value.slice af p.files.length cf) rfl
        have f5 := blk_cell HF7.out 5 (Value.slice au p.units.length cu) rfl
        have hrt := arc_right0 p an ac af au cn cq cf cu w7 (HE.out.ext HX7.out) HPM7.out HSM.out.fit HPC.out.2.2.1
        cases hr : rightP p with
        | false =>
          rw [hr] at hrt
          have HRT := Lib.hid hrt; clear hrt
          have HRR := Lib.hid hr; clear hr
          go_upto_region 9 with (first
            | (go_at_call 10; refine HRT.out.mono ?_; rintro E w8 ⟨rfl, hx8⟩; have e0 := blk_cell (hx8.heap HF7.out) 0 (Value.string (bs p.name)) rfl; have HX8 := Lib.hid hx8; clear hx8))
          clear f0 f1 f2 f3 f4 f5
          have n45 : R4 ≠ R5 := by have := HZ.out; omega
          have n54 : R5 ≠ R4 := by have := HZ.out; omega
          have n4F : R4 ≠ F := by have h1 := HFL.out; have h2 := HZ.out; have h3 := HWL.out; omega
          have nF4 : F ≠ R4 := fun e => n4F e.symm
          have h4r := (HX7.out.trans HX8.out).heap HR4.out
          have h5r := (HX7.out.trans HX8.out).heap HR5.out
          have r4 := blk_cell h4r 0 (Value.map none) rfl
          have g4 := blk_free h4r 0
          have r0 := blk_cell h5r 0 (Value.int .i64 0) rfl
          have r1 := blk_cell h5r 1 (Value.string ⟨#[]⟩) rfl
          have r2 := blk_cell h5r 2 (Value.string ⟨#[]⟩) rfl
          have g0 := blk_free h5r 0
          have g1 := blk_free h5r 1
          have g2 := blk_free h5r 2
          have hs7 := set1_3 h4r h5r (by have := HZ.out; omega) (.map none) (.int .i64 4) (.string (bs p.name)) (.string ⟨#[]⟩)
          have HS7 := Lib.hid hs7; clear hs7 h4r h5r
          go_wp2_with fail
          go_region
          go_wp2_with fail
          obtain ⟨q4, q0, q1, q2, hk7⟩ := HS7.out
          refine bodyPost_ret (v := .tuple #[.agg #[.map none], .agg #[.int .i64 4, .string (bs p.name), .string ⟨#[]⟩]]) (by simp [results, Tryz.results24, go_sem, q4, q0, q1, q2]) rfl ?_
          rw [HR.out]
          have hz := HZ.out
          have hxe : Ext w _ := (((Keep.of_ext (S := fun j => j < w.heap.size) (HX1.out.trans (HX7.out.trans HX8.out))).andThen hk7 (fun j hj _ => by show j ≠ R4 ∧ j ≠ R5; omega))).ext_lt
          refine ⟨hxe.drew, ?_⟩
          refine Or.inl ⟨⟨4, p.name, []⟩, ?_, rfl⟩
          rw [HPRE.out, comes_hit hkM hF.out (x := ⟨4, p.name, []⟩) (by rw [HGD.out]; unfold comeFault; rw [if_pos HRR.out])]
        | true =>
          rw [hr] at hrt
          have HRT := Lib.hid hrt; clear hrt
          have HRR := Lib.hid hr; clear hr
          go_upto_region 10 with (first
            | (go_at_call 10; refine HRT.out.mono ?_; rintro E w8 ⟨rfl, hx8⟩; have HX8 := Lib.hid hx8; clear hx8))
          clear f0 f1 f2 f3 f4 f5
          have e0 := blk_cell (HX8.out.heap HF7.out) 0 (Value.string (bs p.name)) rfl
          have hct := contains_by sa sc (((L.map Prod.fst).take k).map PkgD.name) p.name w8 ((hO.out.strs.1).ext (HX7'.out.trans HX8.out)) (by rw [HSN.out]; omega)
          rw [HSN.out] at hct
          by_cases hin : p.name ∈ ((L.map Prod.fst).take k).map PkgD.name
          · rw [decide_eq_true hin] at hct
            have HCT := Lib.hid hct; clear hct
            have HIN := Lib.hid hin; clear hin
            go_upto_region 11 with (first
              | (go_at_call 63; refine HCT.out.mono ?_; rintro E w9 ⟨rfl, hx9⟩; have e9 := blk_cell ((HX8.out.trans hx9).heap HF7.out) 0 (Value.string (bs p.name)) rfl; have HX9 := Lib.hid hx9; clear hx9))
            clear e0
            have n45 : R4 ≠ R5 := by have := HZ.out; omega
            have n54 : R5 ≠ R4 := by have := HZ.out; omega
            have n4F : R4 ≠ F := by have h1 := HFL.out; have h2 := HZ.out; have h3 := HWL.out; omega
            have nF4 : F ≠ R4 := fun e => n4F e.symm
            have h4r := (HX7.out.trans (HX8.out.trans HX9.out)).heap HR4.out
            have h5r := (HX7.out.trans (HX8.out.trans HX9.out)).heap HR5.out
            have r4 := blk_cell h4r 0 (Value.map none) rfl
            have g4 := blk_free h4r 0
            have r0 := blk_cell h5r 0 (Value.int .i64 0) rfl
            have r1 := blk_cell h5r 1 (Value.string ⟨#[]⟩) rfl
            have r2 := blk_cell h5r 2 (Value.string ⟨#[]⟩) rfl
            have g0 := blk_free h5r 0
            have g1 := blk_free h5r 1
            have g2 := blk_free h5r 2
            have hs7 := set1_3 h4r h5r (by have := HZ.out; omega) (.map none) (.int .i64 9) (.string (bs p.name)) (.string ⟨#[]⟩)
            have HS7 := Lib.hid hs7; clear hs7 h4r h5r
            go_wp2_with fail
            go_region
            go_wp2_with fail
            obtain ⟨q4, q0, q1, q2, hk7⟩ := HS7.out
            refine bodyPost_ret (v := .tuple #[.agg #[.map none], .agg #[.int .i64 9, .string (bs p.name), .string ⟨#[]⟩]]) (by simp [results, Tryz.results24, go_sem, q4, q0, q1, q2]) rfl ?_
            rw [HR.out]
            have hz := HZ.out
            have hxe : Ext w _ := (((Keep.of_ext (S := fun j => j < w.heap.size) (HX1.out.trans (HX7.out.trans (HX8.out.trans HX9.out)))).andThen hk7 (fun j hj _ => by show j ≠ R4 ∧ j ≠ R5; omega))).ext_lt
            refine ⟨hxe.drew, ?_⟩
            refine Or.inl ⟨⟨9, p.name, []⟩, ?_, rfl⟩
            rw [HPRE.out, comes_hit hkM hF.out (x := ⟨9, p.name, []⟩) (by rw [HGD.out]; unfold comeFault; rw [if_neg (by rw [HRR.out]; simp), if_pos HIN.out])]
          · rw [decide_eq_false hin] at hct
            have HCT := Lib.hid hct; clear hct
            have HIN := Lib.hid hin; clear hin
            have HSTEP : Hid (comesFault f [] ((L.map Prod.fst).take (k + 1)) = match f p.name with
              | none => none
              | some e => if cmpV (verL p.ver) (verL e.ver) ≤ 0 then some ⟨15, p.name, e.ver⟩ else none) := Lib.hid (by
              rw [comes_step hkM hF.out, HGD.out]
              unfold comeFault
              rw [if_neg (by rw [HRR.out]; simp), if_neg HIN.out]
              cases f p.name <;> rfl)
            cases z with
            | false =>
              have hfn : f p.name = none := by
                have h := HZZ.out
                cases hfp : f p.name with
                | none => rfl
                | some y' => rw [hfp] at h; cases h
              have HNX : Hid (comesFault f [] ((L.map Prod.fst).take (k + 1)) = none) := Lib.hid (by rw [HSTEP.out, hfn])
              clear hfn
              go_upto_region 14 with (first
                | (go_at_call 63; refine HCT.out.mono ?_; rintro E w9 ⟨rfl, hx9⟩; have HX9 := Lib.hid hx9; clear hx9))
              clear e0
              have hxa := HX7'.out.trans (HX8.out.trans HX9.out)
              have e9 := blk_cell ((HX8.out.trans HX9.out).heap HF7.out) 0 (Value.string (bs p.name)) rfl
              generalize w9 = wq at hxa e9 ⊢
              have hcur := hxa.size
              have ho1 := hX.out.size
              have HXQ := Lib.hid hxa; clear hxa
              go_wp2_with (at_builtin; refine append_big rfl _ _ 28 9 (.string ⟨#[]⟩) 1 16 rfl Tryz.underlying28 info_string rfl (by decide) w1.heap.size sa k sc _ rfl (by have h := hO.out; unfold OwnS at h; rw [HSN.out] at h; exact ownsRow_ext h (HXQ.out.trans (Ext.alloc _ _))) wq.heap.size 1 1 [.string (bs p.name)] _ _ rfl (by simp) (heap_alloc_new wq _) (by simp [Value.oneCell']) (by omega) (by omega) (by decide) ?_ (k + 1) rfl ?_; (simp; omega); intro g1 cap1 wz hown3 hk3 hb3 hat3; have O3 := Lib.hid hown3; have B3 := Lib.hid hb3; clear hown3 hk3 hb3 hat3)
              refine ⟨⟨k + 1, some ⟨g1, 0, none⟩, cap1, rfl, by go_num, by omega, HNX, Lib.hid ?_, Lib.hid (Ext.of_below' ((hX.out.trans HXQ.out).trans (Ext.alloc wq _)) B3.out)⟩, by simp [intOf]; omega⟩
              have h := O3.out
              unfold OwnS
              have e1 : ((L.map Prod.fst).take (k + 1)).map PkgD.name = ((L.map Prod.fst).take k).map PkgD.name ++ [p.name] := by
                rw [List.take_succ_eq_append_getElem hkM, List.map_append]
                have e2 : (L.map Prod.fst)[k] = p := by
                  have e3 := HGD.out
                  rw [List.getD_eq_getElem?_getD, List.getElem?_eq_getElem hkM] at e3
                  exact e3
                rw [e2]
                rfl
              have e4 : (((L.map Prod.fst).take k).map PkgD.name ++ [p.name]).length = k + 1 := by rw [List.length_append, HSN.out]; rfl
              rw [e1, e4, List.map_append]
              exact h
            | true =>
              have hfp : f p.name = some y := by
                have h := HZZ.out
                have h' := HY.out
                cases hfp : f p.name with
                | none => rw [hfp] at h; cases h
                | some y' => rw [hfp] at h'; exact congrArg some h'.symm
              have hyl := ver_len (HG.out p.name y hfp).2.1
              have hcp := fun W k => ver_compare (bs p.ver) (bs y.ver) (by rw [bs_size]; have := HSM.out.ver; omega) (by rw [bs_size]; exact hyl) W k
              simp only [bs_data] at hcp
              obtain ⟨q, hq⟩ : ∃ q, q = cmpV (verL p.ver) (verL y.ver) := ⟨_, rfl⟩
              rw [← hq] at hcp
              have HCP := Lib.hid hcp; clear hcp hyl
              have HQ := Lib.hid hq; clear hq
              have HFP := Lib.hid hfp; clear hfp
              by_cases hq0 : q ≤ 0
              · have hqd : decide (q ≤ (0 : Int)) = true := decide_eq_true hq0
                have HQ0 := Lib.hid hq0; clear hq0
                go_upto_region 13 with (first
                  | (go_at_call 63; refine HCT.out.mono ?_; rintro E w9 ⟨rfl, hx9⟩; have e1 := blk_cell ((HX8.out.trans hx9).heap HF7.out) 1 (Value.string (bs p.ver)) rfl; have y1 := blk_cell ((HX8.out.trans hx9).heap HY7.out) 1 (Value.string (bs y.ver)) rfl; have HX9 := Lib.hid hx9; clear hx9)
                  | (go_at_call 64; refine (HCP.out _ (HE.out.ext (HX7.out.trans (HX8.out.trans HX9.out)))).mono ?_; rintro E wa ⟨rfl, hxa⟩; have ea := blk_cell ((HX8.out.trans (HX9.out.trans hxa)).heap HF7.out) 0 (Value.string (bs p.name)) rfl; have ya := blk_cell ((HX8.out.trans (HX9.out.trans hxa)).heap HY7.out) 1 (Value.string (bs y.ver)) rfl; have HXA := Lib.hid hxa; clear hxa))
                clear e0 e1 y1 hqd
                have n45 : R4 ≠ R5 := by have := HZ.out; omega
                have n54 : R5 ≠ R4 := by have := HZ.out; omega
                have n4F : R4 ≠ F := by have h1 := HFL.out; have h2 := HZ.out; have h3 := HWL.out; omega
                have nF4 : F ≠ R4 := fun e => n4F e.symm
                have n4Y : R4 ≠ Y := by have h1 := HYL.out; have h2 := HZ.out; have h3 := HWL.out; omega
                have nY4 : Y ≠ R4 := fun e => n4Y e.symm
                have h4r := (HX7.out.trans (HX8.out.trans (HX9.out.trans HXA.out))).heap HR4.out
                have h5r := (HX7.out.trans (HX8.out.trans (HX9.out.trans HXA.out))).heap HR5.out
                have r4 := blk_cell h4r 0 (Value.map none) rfl
                have g4 := blk_free h4r 0
                have r0 := blk_cell h5r 0 (Value.int .i64 0) rfl
                have r1 := blk_cell h5r 1 (Value.string ⟨#[]⟩) rfl
                have r2 := blk_cell h5r 2 (Value.string ⟨#[]⟩) rfl
                have g0 := blk_free h5r 0
                have g1 := blk_free h5r 1
                have g2 := blk_free h5r 2
                have hs7 := set1_3 h4r h5r (by have := HZ.out; omega) (.map none) (.int .i64 15) (.string (bs p.name)) (.string (bs y.ver))
                have HS7 := Lib.hid hs7; clear hs7 h4r h5r
                go_wp2_with fail
                go_region
                go_wp2_with fail
                obtain ⟨q4, q0, q1, q2, hk7⟩ := HS7.out
                refine bodyPost_ret (v := .tuple #[.agg #[.map none], .agg #[.int .i64 15, .string (bs p.name), .string (bs y.ver)]]) (by simp [results, Tryz.results24, go_sem, q4, q0, q1, q2]) rfl ?_
                rw [HR.out]
                have hz := HZ.out
                have hxe : Ext w _ := (((Keep.of_ext (S := fun j => j < w.heap.size) (HX1.out.trans (HX7.out.trans (HX8.out.trans (HX9.out.trans HXA.out))))).andThen hk7 (fun j hj _ => by show j ≠ R4 ∧ j ≠ R5; omega))).ext_lt
                refine ⟨hxe.drew, ?_⟩
                refine Or.inl ⟨⟨15, p.name, y.ver⟩, ?_, rfl⟩
                rw [HPRE.out, comes_hit hkM hF.out (x := ⟨15, p.name, y.ver⟩) (by rw [← comes_step hkM hF.out, HSTEP.out, HFP.out]; simp only; rw [← HQ.out, if_pos HQ0.out])]
              · have hqd : decide (q ≤ (0 : Int)) = false := decide_eq_false hq0
                have HNX : Hid (comesFault f [] ((L.map Prod.fst).take (k + 1)) = none) := Lib.hid (by rw [HSTEP.out, HFP.out]; simp only; rw [← HQ.out, if_neg hq0])
                clear hq0
                go_upto_region 14 with (first
                  | (go_at_call 63; refine HCT.out.mono ?_; rintro E w9 ⟨rfl, hx9⟩; have e1 := blk_cell ((HX8.out.trans hx9).heap HF7.out) 1 (Value.string (bs p.ver)) rfl; have y1 := blk_cell ((HX8.out.trans hx9).heap HY7.out) 1 (Value.string (bs y.ver)) rfl; have HX9 := Lib.hid hx9; clear hx9)
                  | (go_at_call 64; refine (HCP.out _ (HE.out.ext (HX7.out.trans (HX8.out.trans HX9.out)))).mono ?_; rintro E wa ⟨rfl, hxa⟩; have HXA := Lib.hid hxa; clear hxa))
                clear e0 e1 y1 hqd
                have hxa := HX7'.out.trans (HX8.out.trans (HX9.out.trans HXA.out))
                have e9 := blk_cell ((HX8.out.trans (HX9.out.trans HXA.out)).heap HF7.out) 0 (Value.string (bs p.name)) rfl
                generalize wa = wq at hxa e9 ⊢
                have hcur := hxa.size
                have ho1 := hX.out.size
                have HXQ := Lib.hid hxa; clear hxa
                go_wp2_with (at_builtin; refine append_big rfl _ _ 28 9 (.string ⟨#[]⟩) 1 16 rfl Tryz.underlying28 info_string rfl (by decide) w1.heap.size sa k sc _ rfl (by have h := hO.out; unfold OwnS at h; rw [HSN.out] at h; exact ownsRow_ext h (HXQ.out.trans (Ext.alloc _ _))) wq.heap.size 1 1 [.string (bs p.name)] _ _ rfl (by simp) (heap_alloc_new wq _) (by simp [Value.oneCell']) (by omega) (by omega) (by decide) ?_ (k + 1) rfl ?_; (simp; omega); intro g1 cap1 wz hown3 hk3 hb3 hat3; have O3 := Lib.hid hown3; have B3 := Lib.hid hb3; clear hown3 hk3 hb3 hat3)
                refine ⟨⟨k + 1, some ⟨g1, 0, none⟩, cap1, rfl, by go_num, by omega, HNX, Lib.hid ?_, Lib.hid (Ext.of_below' ((hX.out.trans HXQ.out).trans (Ext.alloc wq _)) B3.out)⟩, by simp [intOf]; omega⟩
                have h := O3.out
                unfold OwnS
                have e1 : ((L.map Prod.fst).take (k + 1)).map PkgD.name = ((L.map Prod.fst).take k).map PkgD.name ++ [p.name] := by
                  rw [List.take_succ_eq_append_getElem hkM, List.map_append]
                  have e2 : (L.map Prod.fst)[k] = p := by
                    have e3 := HGD.out
                    rw [List.getD_eq_getElem?_getD, List.getElem?_eq_getElem hkM] at e3
                    exact e3
                  rw [e2]
                  rfl
                have e4 : (((L.map Prod.fst).take k).map PkgD.name ++ [p.name]).length = k + 1 := by rw [List.length_append, HSN.out]; rfl
                rw [e1, e4, List.map_append]
                exact h
      · obtain rfl : k = n := by omega
        have hFn := hF.out
        have hLn : (L.map Prod.fst).length = k := by rw [List.length_map, ← HN.out]
        rw [List.take_of_length_le (by omega)] at hFn
        have HFN := Lib.hid hFn; clear hFn
        have hOn := hO.out
        rw [List.take_of_length_le (by omega)] at hOn
        obtain ⟨NS, hNS⟩ : ∃ NS, NS = (L.map Prod.fst).map PkgD.name := ⟨_, rfl⟩
        rw [← hNS] at hOn
        have hNl : NS.length = k := by rw [hNS, List.length_map, hLn]
        have HNL := Lib.hid hNl; clear hNl
        have HON := Lib.hid hOn; clear hOn
        have hpre2 : preFault f (L.map Prod.fst) G = gosFault f NS G := by rw [HPRE.out, HFN.out, hNS]
        have HPR2 := Lib.hid hpre2; clear hpre2 hNS hLn
        obtain ⟨wo, rfl⟩ : ∃ wo : World, wo = wr := ⟨_, rfl⟩
        have c1 := blk_cell (hX.out.heap HC1.out) 1 (Value.slice ga m gc) rfl
        go_wp2_with fail
        clear c1
        go_loopw [6, 85] (fun s i wr => ∃ (j : Nat) (sb : Option Addr) (sd : Nat), s = .slice sb (k + j) sd ∧ i = .int .i64 j ∧ j ≤ m ∧ Hid (gosFault f NS (G.take j) = none) ∧ Hid (OwnS wr w1.heap.size sb sd (NS ++ G.take j)) ∧ Hid (Ext w1 wr)) (fun _ i _ => m - (intOf i).toNat)
        case atStart => exact ⟨0, sa, sc, rfl, rfl, Nat.zero_le _, Lib.hid rfl, Lib.hid (by simpa using HON.out), hX⟩
        case round =>
          obtain ⟨j, sb, sd, rfl, rfl, hj, hF2, hO2, hX2⟩ := hrel
          have hsn : (NS ++ G.take j).length = k + j := by
            have h1 := HNL.out
            have h2 := HM.out
            rw [List.length_append, List.length_take]; omega
          have HS2 := Lib.hid hsn; clear hsn
          by_cases hjl : j < m
          · have hjG : j < G.length := by have := HM.out; omega
            obtain ⟨g, off, rfl, _, hcs⟩ := (HGS.out.ext hX2.out).at (by intro e; rw [e] at hjG; simp at hjG)
            have a0 := hcs j hjG
            clear hcs
            have hxl := HGL.out (G.getD j []) (by rw [List.getD_eq_getElem?_getD, List.getElem?_eq_getElem hjG]; simp)
            obtain ⟨x, hx⟩ : ∃ x, x = G.getD j [] := ⟨_, rfl⟩
            rw [← hx] at a0 hxl
            have HX := Lib.hid hx; clear hx
            have b0 := blk_cell (hX2.out.heap HB1.out) 0 (Value.map pm) rfl
            have how := base_get (.agg #[.map pm]) N f x wr (HB.out.ext hX2.out) HG.out hxl
            obtain ⟨y, hy⟩ : ∃ y, y = (f x).getD pz := ⟨_, rfl⟩
            obtain ⟨z, hz0⟩ : ∃ z, z = (f x).isSome := ⟨_, rfl⟩
            rw [← hy, ← hz0] at how
            have HOW := Lib.hid how; clear how hy
            have HZZ := Lib.hid hz0; clear hz0
            go_upto_region 20 with (first
              | (go_at_call 19; refine HOW.out.mono ?_; rintro E w6 ⟨A, rfl, _, _, hx6⟩; obtain ⟨bn, bc, bf, bu, dn, dc, df, du⟩ := A; unfold pkgV; have HX6 := Lib.hid hx6; clear hx6))
            clear b0 a0 HOW
            try simp only
            have hx7 := Ext.alloc w6 (.cells #[.string (bs y.name), .string (bs y.ver), .slice bn y.needs.length dn, .slice bc y.conf.length dc, .slice bf y.files.length df, .slice bu y.units.length du] 37)
            generalize w6.alloc (.cells #[.string (bs y.name), .string (bs y.ver), .slice bn y.needs.length dn, .slice bc y.conf.length dc, .slice bf y.files.length df, .slice bu y.units.length du] 37) = w7 at hx7 ⊢
            have HX7' := Lib.hid (HX6.out.trans hx7); clear hx7
            have hct := contains_by sb sd (NS ++ G.take j) x w7 ((hO2.out.strs.1).ext HX7'.out) (by rw [HS2.out]; omega)
            rw [HS2.out] at hct
            by_cases hin : x ∈ NS ++ G.take j
            · rw [decide_eq_true hin] at hct
              have HCT := Lib.hid hct; clear hct
              have HIN := Lib.hid hin; clear hin
              go_upto_region 21 with (first
                | (go_at_call 63; refine HCT.out.mono ?_; rintro E w9 ⟨rfl, hx9⟩; have HX9 := Lib.hid hx9; clear hx9))
              have n45 : R4 ≠ R5 := by have := HZ.out; omega
              have n54 : R5 ≠ R4 := by have := HZ.out; omega
              have h4r := (hX2.out.trans (HX7'.out.trans HX9.out)).heap HR4.out
              have h5r := (hX2.out.trans (HX7'.out.trans HX9.out)).heap HR5.out
              have r4 := blk_cell h4r 0 (Value.map none) rfl
              have g4 := blk_free h4r 0
              have r0 := blk_cell h5r 0 (Value.int .i64 0) rfl
              have r1 := blk_cell h5r 1 (Value.string ⟨#[]⟩) rfl
              have r2 := blk_cell h5r 2 (Value.string ⟨#[]⟩) rfl
              have g0 := blk_free h5r 0
              have g1 := blk_free h5r 1
              have g2 := blk_free h5r 2
              have hs7 := set1_3 h4r h5r (by have := HZ.out; omega) (.map none) (.int .i64 9) (.string (bs x)) (.string ⟨#[]⟩)
              have HS7 := Lib.hid hs7; clear hs7 h4r h5r
              go_wp2_with fail
              obtain ⟨q4, q0, q1, q2, hk7⟩ := HS7.out
              refine bodyPost_ret (v := .tuple #[.agg #[.map none], .agg #[.int .i64 9, .string (bs x), .string ⟨#[]⟩]]) (by simp [results, Tryz.results24, go_sem, q4, q0, q1, q2]) rfl ?_
              rw [HR.out]
              have hz := HZ.out
              have hxe : Ext w _ := (((Keep.of_ext (S := fun j => j < w.heap.size) (HX1.out.trans (hX2.out.trans (HX7'.out.trans HX9.out)))).andThen hk7 (fun j hj _ => by show j ≠ R4 ∧ j ≠ R5; omega))).ext_lt
              refine ⟨hxe, ?_⟩
              refine Or.inl ⟨⟨9, x, []⟩, ?_, rfl⟩
              rw [HPR2.out, gos_hit hjG hF2.out (x := ⟨9, x, []⟩) (by rw [← HX.out]; unfold goFault; rw [if_pos HIN.out])]
            · rw [decide_eq_false hin] at hct
              have HCT := Lib.hid hct; clear hct
              have HIN := Lib.hid hin; clear hin
              cases z with
              | false =>
                go_upto_region 23 with (first
                  | (go_at_call 63; refine HCT.out.mono ?_; rintro E w9 ⟨rfl, hx9⟩; have HX9 := Lib.hid hx9; clear hx9))
                have n45 : R4 ≠ R5 := by have := HZ.out; omega
                have n54 : R5 ≠ R4 := by have := HZ.out; omega
                have h4r := (hX2.out.trans (HX7'.out.trans HX9.out)).heap HR4.out
                have h5r := (hX2.out.trans (HX7'.out.trans HX9.out)).heap HR5.out
                have r4 := blk_cell h4r 0 (Value.map none) rfl
                have g4 := blk_free h4r 0
                have r0 := blk_cell h5r 0 (Value.int .i64 0) rfl
                have r1 := blk_cell h5r 1 (Value.string ⟨#[]⟩) rfl
                have r2 := blk_cell h5r 2 (Value.string ⟨#[]⟩) rfl
                have g0 := blk_free h5r 0
                have g1 := blk_free h5r 1
                have g2 := blk_free h5r 2
                have hs7 := set1_3 h4r h5r (by have := HZ.out; omega) (.map none) (.int .i64 8) (.string (bs x)) (.string ⟨#[]⟩)
                have HS7 := Lib.hid hs7; clear hs7 h4r h5r
                go_wp2_with fail
                obtain ⟨q4, q0, q1, q2, hk7⟩ := HS7.out
                refine bodyPost_ret (v := .tuple #[.agg #[.map none], .agg #[.int .i64 8, .string (bs x), .string ⟨#[]⟩]]) (by simp [results, Tryz.results24, go_sem, q4, q0, q1, q2]) rfl ?_
                rw [HR.out]
                have hz := HZ.out
                have hxe : Ext w _ := (((Keep.of_ext (S := fun j => j < w.heap.size) (HX1.out.trans (hX2.out.trans (HX7'.out.trans HX9.out)))).andThen hk7 (fun j hj _ => by show j ≠ R4 ∧ j ≠ R5; omega))).ext_lt
                refine ⟨hxe, ?_⟩
                refine Or.inl ⟨⟨8, x, []⟩, ?_, rfl⟩
                rw [HPR2.out, gos_hit hjG hF2.out (x := ⟨8, x, []⟩) (by rw [← HX.out]; unfold goFault; rw [if_neg HIN.out, if_neg (by rw [← HZZ.out]; simp)])]
              | true =>
                go_upto_region 24 with (first
                  | (go_at_call 63; refine HCT.out.mono ?_; rintro E w9 ⟨rfl, hx9⟩; have HX9 := Lib.hid hx9; clear hx9))
                have hcur := (HX7'.out.trans HX9.out).size
                have ho1 := hX2.out.size
                go_wp2_with (at_builtin; refine append_big rfl _ _ 28 9 (.string ⟨#[]⟩) 1 16 rfl Tryz.underlying28 info_string rfl (by decide) w1.heap.size sb (k + j) sd _ rfl (by have h := hO2.out; unfold OwnS at h; rw [HS2.out] at h; exact ownsRow_ext h ((HX7'.out.trans HX9.out).trans (Ext.alloc _ _))) w9.heap.size 1 1 [.string (bs x)] _ _ rfl (by simp) (heap_alloc_new w9 _) (by simp [Value.oneCell']) (by omega) (by omega) (by decide) ?_ (k + j + 1) rfl ?_; (simp; omega); intro g1 cap1 wz hown3 hk3 hb3 hat3; have O3 := Lib.hid hown3; have B3 := Lib.hid hb3; clear hown3 hk3 hb3 hat3)
                refine ⟨⟨j + 1, some ⟨g1, 0, none⟩, cap1, rfl, by go_num, by omega, Lib.hid ?_, Lib.hid ?_, Lib.hid (Ext.of_below' ((hX2.out.trans (HX7'.out.trans HX9.out)).trans (Ext.alloc w9 _)) B3.out)⟩, by simp [intOf]; omega⟩
                · rw [gos_step hjG hF2.out, ← HX.out]
                  unfold goFault
                  rw [if_neg HIN.out, if_pos HZZ.out.symm]
                · have h := O3.out
                  unfold OwnS
                  have e1 : NS ++ G.take (j + 1) = (NS ++ G.take j) ++ [x] := by
                    rw [List.take_succ_eq_append_getElem hjG, ← List.append_assoc]
                    have e3 := HX.out
                    rw [List.getD_eq_getElem?_getD, List.getElem?_eq_getElem hjG] at e3
                    rw [e3]
                    rfl
                  have e4 : ((NS ++ G.take j) ++ [x]).length = k + j + 1 := by rw [List.length_append, HS2.out]; rfl
                  rw [e1, e4, List.map_append]
                  exact h
          · obtain rfl : j = m := by omega
            have hFn := hF2.out
            rw [List.take_of_length_le (by have := HM.out; omega)] at hFn
            have HPRN : Hid (preFault f (L.map Prod.fst) G = none) := Lib.hid (by rw [HPR2.out, hFn])
            clear hFn
            have hrl : ∀ x ∈ L, rightP x.1 = true := fun x hx => ((comes_none.1 HFN.out).1 x.1 (List.mem_map.2 ⟨x, hx, rfl⟩)).1
            have HRL := Lib.hid hrl; clear hrl
            have b0 := blk_cell (hX2.out.heap HB1.out) 0 (Value.map pm) rfl
            have c1 := blk_cell (hX2.out.heap HC1.out) 1 (Value.slice ga j gc) rfl
            have hwo := base_without (.agg #[.map pm]) N f ga gc G wr (HB.out.ext hX2.out) (HGS.out.ext hX2.out) HGL.out (by omega) (by have := HM.out; omega)
            rw [← HM.out] at hwo
            have HWO := Lib.hid hwo; clear hwo
            go_upto_region 27 with (first
              | (go_at_call 18; refine HWO.out.mono ?_; rintro E w3 ⟨bd, A, rfl, _, hbm, hx3⟩; have HBM := Lib.hid hbm; have HX3 := Lib.hid (hX2.out.trans hx3); clear hbm hx3))
            clear b0 c1 HWO
            have hx4 := Ext.alloc w3 (.cells #[.map (some bd)] 42)
            have hf4 := heap_alloc_new w3 (.cells #[.map (some bd)] 42)
            generalize w3.alloc (.cells #[.map (some bd)] 42) = w4 at hx4 hf4 ⊢
            obtain ⟨O, hOO⟩ : ∃ x, x = w3.heap.size := ⟨_, rfl⟩
            rw [← hOO] at hf4 ⊢
            have HOO := Lib.hid hOO; clear hOO
            have HF4 := Lib.hid hf4; clear hf4
            have HX4 := Lib.hid hx4; clear hx4
            obtain ⟨f0, hf0⟩ : ∃ f0, f0 = G.foldl lessF f := ⟨_, rfl⟩
            rw [← hf0] at HBM
            have HF0 := Lib.hid hf0; clear hf0
            have c0 := blk_cell ((HX3.out.trans HX4.out).heap HC1.out) 0 (Value.slice ca k cc) rfl
            go_wp2_with fail
            clear c0
            go_loopw [120] (fun i wr => ∃ (l : Nat), i = .int .i64 l ∧ l ≤ k ∧ Hid (∃ b A, wr.heap[O]? = some (.cells #[.map (some b)] 42 (0, 0)) ∧ EntsM wr b (N + l) ((((L.map Prod.fst).take l).map ofP).foldl withF f0) A) ∧ Hid (Ext w3 wr)) (fun i _ => k - (intOf i).toNat)
            case atStart => exact ⟨0, rfl, Nat.zero_le _, Lib.hid ⟨bd, A, HF4.out, HBM.out.ext HX4.out⟩, HX4⟩
            case round =>
              obtain ⟨l, rfl, hl, hO4, hX4⟩ := hrel
              obtain ⟨b, A4, hob, hen⟩ := hO4.out
              have HOB := Lib.hid hob; clear hob
              have HEN := Lib.hid hen; clear hen hO4
              by_cases hll : l < k
              · have hkL : l < L.length := by have := HN.out; omega
                have hkM : l < (L.map Prod.fst).length := by rw [List.length_map]; exact hkL
                have hmem : L.getD l ez ∈ L := by rw [List.getD_eq_getElem?_getD, List.getElem?_eq_getElem hkL]; simp
                have hsm := HFT.out _ hmem
                have hrr := HRL.out _ hmem
                have hat := (HL.out.ext (HX3.out.trans hX4.out)).at hkL
                have hgd := getD_map1 hkL
                obtain ⟨x, hx⟩ : ∃ x, x = L.getD l ez := ⟨_, rfl⟩
                rw [← hx] at hsm hat hgd hrr
                obtain ⟨p, A⟩ := x
                obtain ⟨g, off, rfl, _, ⟨a0, a1, a2, a3, a4, a5⟩, hpm, hpc⟩ := hat
                obtain ⟨an, ac, af, au, cn, cq, cf, cu⟩ := A
                simp only at a0 a1 a2 a3 a4 a5 hsm hgd hpm hpc hrr
                have HGD := Lib.hid hgd; clear hgd hx hmem
                have HRR := Lib.hid hrr; clear hrr
                have hfd : ∀ fl ∈ p.files, fl.data.length ≤ 100000 := fun fl hfl => by have := (hsm.files fl hfl).2; omega
                have HFD := Lib.hid hfd; clear hfd hsm hpc
                go_upto_region 30 with (fail)
                clear a0 a1 a2 a3 a4 a5
                have hx5 := Ext.alloc wr (.cells #[.string (bs p.name), .string (bs p.ver), .slice an p.needs.length cn, .slice ac p.conf.length cq, .slice af p.files.length cf, .slice au p.units.length cu] 31)
                have hf5 := heap_alloc_new wr (.cells #[.string (bs p.name), .string (bs p.ver), .slice an p.needs.length cn, .slice ac p.conf.length cq, .slice af p.files.length cf, .slice au p.units.length cu] 31)
                generalize wr.alloc (.cells #[.string (bs p.name), .string (bs p.ver), .slice an p.needs.length cn, .slice ac p.conf.length cq, .slice af p.files.length cf, .slice au p.units.length cu] 31) = w5 at hx5 hf5 ⊢
                obtain ⟨F, hFF⟩ : ∃ x, x = wr.heap.size := ⟨_, rfl⟩
                rw [← hFF] at hf5 ⊢
                clear hFF
                have HF5 := Lib.hid hf5; clear hf5
                have HOB5 := Lib.hid (hx5.heap HOB.out)
                have HPM := Lib.hid (hpm.ext hx5); clear hpm
                have HEN5 := Lib.hid (HEN.out.ext hx5); clear HEN
                have HX5 := Lib.hid (hX4.out.trans hx5); clear hx5
                have HKK := Lib.hid ((Ext.refl w5).drew)
                have hs2 : ∀ W, Ext w5 W → W.cell? ⟨O, 0, none⟩ = some (.map (some b)) ∧ W.cell? ⟨F, 0, none⟩ = some (.string (bs p.name)) ∧ W.cell? ⟨F, 1, none⟩ = some (.string (bs p.ver)) ∧ W.cell? ⟨F, 2, none⟩ = some (.slice an p.needs.length cn) ∧ W.cell? ⟨F, 3, none⟩ = some (.slice ac p.conf.length cq) ∧ W.cell? ⟨F, 4, none⟩ = some (.slice af p.files.length cf) ∧ W.cell? ⟨F, 5, none⟩ = some (.slice au p.units.length cu) := fun W x => ⟨blk_cell (x.heap HOB5.out) 0 _ rfl, blk_cell (x.heap HF5.out) 0 _ rfl, blk_cell (x.heap HF5.out) 1 _ rfl, blk_cell (x.heap HF5.out) 2 _ rfl, blk_cell (x.heap HF5.out) 3 _ rfl, blk_cell (x.heap HF5.out) 4 _ rfl, blk_cell (x.heap HF5.out) 5 _ rfl⟩
                have HS3 := Lib.hid hs2; clear hs2
                have hrl5 := right_lens HRR.out
                have hof := fun W (h : Ext w5 W) => base_of p an ac af au cn cq cf cu W (HPM.out.ext h) hrl5.2.1 hrl5.2.2.1 hrl5.2.2.2.1 hrl5.2.2.2.2 HFD.out
                clear hrl5
                obtain ⟨q, hq⟩ : ∃ q, q = ofP p := ⟨_, rfl⟩
                unfold OfR at hof
                rw [← hq] at hof
                have hqr : rightP q = true := by rw [hq]; exact ofP_right HRR.out
                have HQR := Lib.hid hqr; clear hqr
                have HQ := Lib.hid hq; clear hq
                have HOF := Lib.hid hof; clear hof
                obtain ⟨fk, hfk⟩ : ∃ fk, fk = (((L.map Prod.fst).take l).map ofP).foldl withF f0 := ⟨_, rfl⟩
                rw [← hfk] at HEN5
                have HFK := Lib.hid hfk; clear hfk
                refine wp_region_noPanic ?_
                refine wp_region_K (S := (fun W => W.cell? ⟨O, 0, none⟩ = some (.map (some b)) ∧ W.cell? ⟨F, 0, none⟩ = some (.string (bs p.name)) ∧ W.cell? ⟨F, 1, none⟩ = some (.string (bs p.ver)) ∧ W.cell? ⟨F, 2, none⟩ = some (.slice an p.needs.length cn) ∧ W.cell? ⟨F, 3, none⟩ = some (.slice ac p.conf.length cq) ∧ W.cell? ⟨F, 4, none⟩ = some (.slice af p.files.length cf) ∧ W.cell? ⟨F, 5, none⟩ = some (.slice au p.units.length cu))) (I := [0, 1]) (by kernel_rfl) (HS3.out _ HKK.out) (fun hHeld => ?_)
                clear hHeld
                generalize w5.drew = wd at HKK ⊢
                refine wpAnyK_load (i := 0) (v := ?v200) rfl (by kernel_rfl) (by kernel_rfl) (by kernel_rfl) (fun _ _ _ h => h) (by kernel_rfl) (by kernel_rfl) ?hy200 (HS3.out _ HKK.out) ?rest200
                case hy200 => (intro wq hSw; (try dsimp only at hSw); first | (go_simp; done) | (go_simp; with_reducible rfl))
                try simp only [List.getElem_toArray, List.getElem_cons_zero, Act.put, List.setIfInBounds_toArray, List.set_cons_zero, List.set_cons_succ]
                refine wpAnyK_load (i := 1) (v := ?v301) rfl (by kernel_rfl) (by kernel_rfl) (by kernel_rfl) (fun _ _ _ h => h) (by kernel_rfl) (by kernel_rfl) ?hy301 (HS3.out _ HKK.out) ?rest301
                case hy301 => (intro wq hSw; (try dsimp only at hSw); first | (go_simp; done) | (go_simp; with_reducible rfl))
                try simp only [List.getElem_toArray, List.getElem_cons_zero, List.getElem_cons_succ, Act.put, List.setIfInBounds_toArray, List.set_cons_zero, List.set_cons_succ]
                refine wpAnyK_one (i := 2) (by kernel_rfl) rfl ?_
                intro K hK
                go_simp
                go_at_call 11
                refine (HOF.out wd HKK.out).mono ?_
                rintro E wf ⟨A, rfl, hem, hpc, hx⟩
                obtain ⟨rn, rc, rf, ru, sn, sq, sf, su⟩ := A
                unfold pkgV
                simp only at hem hpc ⊢
                replace HKK := Lib.hid (HKK.out.trans hx)
                have HEM := Lib.hid hem
                have HPC := Lib.hid hpc
                clear hem hpc hx
                go_wp2_with fail
                refine hK.out _ _ (HS3.out _ HKK.out) ?_
                clear hK K
                try simp only [List.getElem_toArray, List.getElem_cons_zero, List.getElem_cons_succ, Act.put, List.setIfInBounds_toArray, List.set_cons_zero, List.set_cons_succ]
                refine wpAnyK_one (i := 3) (by kernel_rfl) rfl ?_
                intro K hK
                go_simp
                have hxa := Ext.alloc wf (.cells #[.string (bs q.name), .string (bs q.ver), .slice rn q.needs.length sn, .slice rc q.conf.length sq, .slice rf q.files.length sf, .slice ru q.units.length su] 37)
                have hbn := heap_alloc_new wf (.cells #[.string (bs q.name), .string (bs q.ver), .slice rn q.needs.length sn, .slice rc q.conf.length sq, .slice rf q.files.length sf, .slice ru q.units.length su] 37)
                generalize wf.alloc (.cells #[.string (bs q.name), .string (bs q.ver), .slice rn q.needs.length sn, .slice rc q.conf.length sq, .slice rf q.files.length sf, .slice ru q.units.length su] 37) = wg at hxa hbn ⊢
                replace HKK := Lib.hid (HKK.out.trans hxa)
                obtain ⟨V, hV⟩ : ∃ x, x = wf.heap.size := ⟨_, rfl⟩
                rw [← hV] at hbn ⊢
                have HEL := Lib.hid (one_ents (A := ⟨rn, rc, rf, ru, sn, sq, sf, su⟩) hbn (HEM.out.ext hxa) HPC.out)
                clear hbn hV hxa HEM
                refine hK.out _ _ (HS3.out _ HKK.out) ?_
                clear hK K
                try simp only [List.getElem_toArray, List.getElem_cons_zero, List.getElem_cons_succ, Act.put, List.setIfInBounds_toArray, List.set_cons_zero, List.set_cons_succ]
                have hwi := base_with (.agg #[.map (some b)]) (N + l) fk (some ⟨V, 0, none⟩) 1 [(q, ⟨rn, rc, rf, ru, sn, sq, sf, su⟩)] wg (Or.inr ⟨b, A4, rfl, HEN5.out.ext HKK.out⟩) HEL.out (by intro x hx; simp only [List.mem_singleton] at hx; subst hx; exact HQR.out) (by simp only [List.length_singleton]; omega)
                simp only [List.length_singleton, List.map_cons, List.map_nil, List.foldl_cons, List.foldl_nil] at hwi
                have HWI := Lib.hid hwi; clear hwi
                refine wpAnyK_one (i := 4) (by kernel_rfl) rfl ?_
                intro K hK
                go_simp
                go_at_call 17
                refine HWI.out.mono ?_
                rintro E w9 ⟨b2, A2, rfl, _, he9, hx⟩
                replace HKK := Lib.hid (HKK.out.trans hx)
                have HE9 := Lib.hid he9
                clear he9 hx
                go_wp2_with fail
                refine hK.out _ _ (HS3.out _ HKK.out) ?_
                clear hK K
                try simp only [List.getElem_toArray, List.getElem_cons_zero, List.getElem_cons_succ, Act.put, List.setIfInBounds_toArray, List.set_cons_zero, List.set_cons_succ]
                have HOB9 := Lib.hid (HKK.out.heap HOB5.out)
                have o9 := blk_cell HOB9.out 0 (Value.map (some b)) rfl
                have g9 := blk_free HOB9.out 0
                refine wpAnyK_last (i := 5) (by kernel_rfl) rfl (by kernel_rfl) ?_
                intro K hK
                go_simp
                refine hK.out _ _ ?_
                clear hK K
                try simp only [List.getElem_toArray, List.getElem_cons_zero, List.getElem_cons_succ, Act.put, List.setIfInBounds_toArray, List.set_cons_zero, List.set_cons_succ]
                refine wpAnyK_done (by kernel_rfl) ?_ _
                refine NoPanic.normal ?_
                clear o9 g9
                go_wp2_with fail
                have kb : Keep (· ≠ O) w9 (w9.setCell ⟨O, 0, none⟩ (.map (some b2))) := (Keep.refl _ _).setCell (fun _ h => h) 0 _
                refine ⟨⟨l + 1, by go_num, by omega, Lib.hid ⟨b2, A2, by have h := setCell_row HOB9.out (i := 0) (.map (some b2)); simpa using h, ?_⟩, Lib.hid ?_⟩, by simp [intOf]; omega⟩
                · have e1 : (((L.map Prod.fst).take (l + 1)).map ofP).foldl withF f0 = withF fk q := by
                    rw [List.take_succ_eq_append_getElem hkM, List.map_append, List.foldl_append, ← HFK.out, HQ.out]
                    have e3 := HGD.out
                    rw [List.getD_eq_getElem?_getD, List.getElem?_eq_getElem hkM] at e3
                    rw [show (L.map Prod.fst)[l] = p from e3]
                    rfl
                  rw [e1]
                  exact HE9.out.keep kb HOB9.out
                · exact ((Keep.of_ext (S := fun j => j < w3.heap.size) (HX5.out.trans HKK.out)).andThen kb (fun j hj _ => by have := HOO.out; show j ≠ O; omega)).ext_lt
              · obtain rfl : l = k := by omega
                have hLn : (L.map Prod.fst).length = l := by rw [List.length_map, ← HN.out]
                have hen := HEN.out
                rw [List.take_of_length_le (by omega), HF0.out] at hen
                obtain ⟨fo, hfo⟩ : ∃ fo, fo = outF f (L.map Prod.fst) G := ⟨_, rfl⟩
                rw [show (((L.map Prod.fst).map ofP).foldl withF (G.foldl lessF f)) = fo by rw [hfo]; rfl] at hen
                have hgo : GoodF fo := by
                  rw [hfo]
                  refine out_good HG.out (fun q hq => ?_)
                  obtain ⟨x, hx, rfl⟩ := List.mem_map.1 hq
                  exact HRL.out x hx
                have HGO := Lib.hid hgo; clear hgo
                have HFO := Lib.hid hfo; clear hfo hLn
                have HEO := Lib.hid hen; clear hen HEN
                have o0 := blk_cell HOB.out 0 (Value.map (some b)) rfl
                have hck := dep_check (.agg #[.map (some b)]) (N + l) fo wr (HE.out.ext (HX3.out.trans hX4.out)) (Or.inr ⟨b, A4, rfl, HEO.out⟩) HGO.out (by omega)
                have HCK := Lib.hid hck; clear hck
                go_upto_region 33 with (first
                  | (go_at_call 62; refine HCK.out.mono ?_; rintro E w6 ⟨ss, hss, rfl, hx6⟩; obtain ⟨fl, hfl⟩ : ∃ fl, fl = checkD fo ss := ⟨_, rfl⟩; rw [← hfl]; obtain ⟨x1, x2, x3⟩ := fl; unfold faultV; have HSS := Lib.hid hss; have HFL := Lib.hid hfl; have HX6 := Lib.hid hx6; clear hss hfl hx6))
                clear o0 HCK
                try simp only
                have hx7 := Ext.alloc w6 (.cells #[.int .i64 (x1 : Int), .string (bs x2), .string (bs x3)] 63)
                have hf7 := heap_alloc_new w6 (.cells #[.int .i64 (x1 : Int), .string (bs x2), .string (bs x3)] 63)
                generalize w6.alloc (.cells #[.int .i64 (x1 : Int), .string (bs x2), .string (bs x3)] 63) = w7 at hx7 hf7 ⊢
                obtain ⟨T, hTT⟩ : ∃ x, x = w6.heap.size := ⟨_, rfl⟩
                rw [← hTT] at hf7 ⊢
                have HTL : Hid (w1.heap.size ≤ T) := Lib.hid (by rw [hTT]; exact (HX3.out.trans (hX4.out.trans HX6.out)).size)
                clear hTT
                have t0 := blk_cell hf7 0 (Value.int .i64 (x1 : Int)) rfl
                have t1 := blk_cell hf7 1 (Value.string (bs x2)) rfl
                have t2 := blk_cell hf7 2 (Value.string (bs x3)) rfl
                have HXW := Lib.hid (HX3.out.trans (hX4.out.trans (HX6.out.trans hx7)))
                have HOB7 := Lib.hid ((HX6.out.trans hx7).heap HOB.out)
                have HEO7 := Lib.hid (HEO.out.ext (HX6.out.trans hx7)); clear hx7 hf7
                by_cases hx0 : x1 = 0
                · have hd : (((x1 : Nat) : Int) != 0) = false := by rw [bne_eq_false_iff_eq]; omega
                  have HX0 := Lib.hid hx0; clear hx0
                  have o0 := blk_cell HOB7.out 0 (Value.map (some b)) rfl
                  go_upto_region 35 with (fail)
                  clear t0 t1 t2 hd
                  have n45 : R4 ≠ R5 := by have := HZ.out; omega
                  have n54 : R5 ≠ R4 := by have := HZ.out; omega
                  have h4r := (HXW.out).heap HR4.out
                  have h5r := (HXW.out).heap HR5.out
                  have r4 := blk_cell h4r 0 (Value.map none) rfl
                  have g4 := blk_free h4r 0
                  have r0 := blk_cell h5r 0 (Value.int .i64 0) rfl
                  have r1 := blk_cell h5r 1 (Value.string ⟨#[]⟩) rfl
                  have r2 := blk_cell h5r 2 (Value.string ⟨#[]⟩) rfl
                  have g0 := blk_free h5r 0
                  have g1 := blk_free h5r 1
                  have g2 := blk_free h5r 2
                  have hs7 := set1_3 h4r h5r (by have := HZ.out; omega) (.map (some b)) (.int .i64 0) (.string ⟨#[]⟩) (.string ⟨#[]⟩)
                  have HS7 := Lib.hid hs7; clear hs7 h4r h5r
                  go_wp2_with fail
                  obtain ⟨q4, q0, q1, q2, hk7⟩ := HS7.out
                  refine bodyPost_ret (v := .tuple #[.agg #[.map (some b)], .agg #[.int .i64 0, .string ⟨#[]⟩, .string ⟨#[]⟩]]) (by simp [results, Tryz.results24, go_sem, q4, q0, q1, q2]) rfl ?_
                  rw [HR.out]
                  have hz := HZ.out
                  have hxe : Ext w _ := (((Keep.of_ext (S := fun j => j < w.heap.size) (HX1.out.trans (HXW.out))).andThen hk7 (fun j hj _ => by show j ≠ R4 ∧ j ≠ R5; omega))).ext_lt
                  refine ⟨hxe, ?_⟩
                  refine Or.inr ⟨HPRN.out, ss, by rw [← HFO.out]; exact HSS.out, Or.inr ⟨by rw [← HFO.out, ← HFL.out]; exact HX0.out, b, A4, rfl, ?_⟩⟩
                  rw [← HFO.out, List.length_map, ← HN.out, set1_3z (HXW.out.heap HR4.out) (HXW.out.heap HR5.out) (by omega) (.map (some b))]
                  exact HEO7.out.keep ((Keep.refl _ _).setCell (fun _ h => h) 0 _) (HXW.out.heap HR4.out)
                · have hd : (((x1 : Nat) : Int) != 0) = true := by rw [bne_iff_ne]; omega
                  have HX0 := Lib.hid hx0; clear hx0
                  go_upto_region 34 with (fail)
                  clear hd
                  have n45 : R4 ≠ R5 := by have := HZ.out; omega
                  have n54 : R5 ≠ R4 := by have := HZ.out; omega
                  have n4T : R4 ≠ T := by have h1 := HTL.out; have h2 := HZ.out; have h3 := HWL.out; omega
                  have nT4 : T ≠ R4 := fun e => n4T e.symm
                  have h4r := (HXW.out).heap HR4.out
                  have h5r := (HXW.out).heap HR5.out
                  have r4 := blk_cell h4r 0 (Value.map none) rfl
                  have g4 := blk_free h4r 0
                  have r0 := blk_cell h5r 0 (Value.int .i64 0) rfl
                  have r1 := blk_cell h5r 1 (Value.string ⟨#[]⟩) rfl
                  have r2 := blk_cell h5r 2 (Value.string ⟨#[]⟩) rfl
                  have g0 := blk_free h5r 0
                  have g1 := blk_free h5r 1
                  have g2 := blk_free h5r 2
                  have hs7 := set1_3 h4r h5r (by have := HZ.out; omega) (.map none) (.int .i64 (x1 : Int)) (.string (bs x2)) (.string (bs x3))
                  have HS7 := Lib.hid hs7; clear hs7 h4r h5r
                  go_wp2_with fail
                  go_region
                  go_wp2_with fail
                  obtain ⟨q4, q0, q1, q2, hk7⟩ := HS7.out
                  refine bodyPost_ret (v := .tuple #[.agg #[.map none], .agg #[.int .i64 (x1 : Int), .string (bs x2), .string (bs x3)]]) (by simp [results, Tryz.results24, go_sem, q4, q0, q1, q2]) rfl ?_
                  rw [HR.out]
                  have hz := HZ.out
                  have hxe : Ext w _ := (((Keep.of_ext (S := fun j => j < w.heap.size) (HX1.out.trans (HXW.out))).andThen hk7 (fun j hj _ => by show j ≠ R4 ∧ j ≠ R5; omega))).ext_lt
                  refine ⟨hxe.drew, ?_⟩
                  refine Or.inr ⟨HPRN.out, ss, by rw [← HFO.out]; exact HSS.out, Or.inl ⟨by rw [← HFO.out, ← HFL.out]; exact HX0.out, by rw [← HFO.out, ← HFL.out]; rfl⟩⟩
end Go.Proofs.YtnclibfhbngkjaaGreatDoor
