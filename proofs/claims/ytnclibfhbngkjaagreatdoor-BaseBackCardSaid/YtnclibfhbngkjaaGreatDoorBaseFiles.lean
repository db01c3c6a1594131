/- base.Files: the paths of all files, in order, each once. -/
import Derived.Test.YtnclibfhbngkjaaGreatDoorM4
import Derived.Test.YtnclibfhbngkjaaGreatDoorBaseOwner
import Derived.Test.YtnclibfhbngkjaaGreatDoorDepHold
import Derived.Test.YtnclibfhbngkjaaGreatDoorRowApp
namespace Go.Proofs.YtnclibfhbngkjaaGreatDoor
open Go.RowKit
attribute [local go_sem ↓] Go.wp_at_zero Go.wp_at_succ
/-- The names that a range has shown. -/
def Shown (f : BaseF) (left : By → Bool) (ss : List By) : Prop := ss.Nodup ∧ ∀ x, x ∈ ss ↔ (f x).isSome = true ∧ left x = false
def allPaths (f : BaseF) (ss : List By) : List By := Lib.compact ((pathsF f ss).mergeSort fun x y => decide (x ≤ y))
/-- What Files answers. -/
def FilesR (f : BaseF) (w : World) (e : Ending) (w' : World) : Prop := ∃ a c ss, e = .returned (.slice a (allPaths f ss).length c) ∧ Strs w' a (allPaths f ss) ∧ ss.Nodup ∧ (∀ x, x ∈ ss ↔ (f x).isSome = true) ∧ (allPaths f ss).length ≤ 1200000 ∧ Ext w w'
theorem mem_allPaths (f : BaseF) (ss : List By) (p : By) : p ∈ allPaths f ss ↔ p ∈ pathsF f ss := by
  unfold allPaths
  rw [compact_mem, (List.mergeSort_perm _ _).mem_iff]
theorem pathsF_snoc (f : BaseF) (ss : List By) (x : By) : pathsF f (ss ++ [x]) = pathsF f ss ++ ((f x).getD pz).files.map FileD.path := by simp [pathsF]
theorem pathsF_len {f : BaseF} (hg : GoodF f) : ∀ (ss : List By), (∀ x ∈ ss, (f x).isSome = true) → (pathsF f ss).length ≤ 12 * ss.length
  | [], _ => by simp [pathsF]
  | x :: ss, h => by
    obtain ⟨e, he⟩ := Option.isSome_iff_exists.1 (h x (by simp))
    have h1 := (right_lens (hg x e he).2.1).2.2.2.1
    have h2 := pathsF_len hg ss (fun y hy => h y (by simp [hy]))
    have : pathsF f (x :: ss) = e.files.map FileD.path ++ pathsF f ss := by simp [pathsF, he]
    rw [this, List.length_append, List.length_map, List.length_cons]
    omega
theorem allPaths_len (f : BaseF) (ss : List By) : (allPaths f ss).length ≤ (pathsF f ss).length := by
  unfold allPaths Lib.compact Lib.compactUpTo
  rw [List.length_map]
  refine Nat.le_trans (List.length_filter_le _ _) ?_
  rw [List.length_range, (List.mergeSort_perm _ _).length_eq]
  exact Nat.le_refl _
set_option maxRecDepth 100000 in
set_option maxHeartbeats 6400000 in
theorem files_some (b N : Nat) (f : BaseF) (A : By → PkgA) (w : World) (hE : EntsM w b N f A) (hg : GoodF f) (hN : N ≤ 100000) :
    Calls Tryz.prog 26 #[.agg #[.map (some b)]] w (FilesR f w) := by
  obtain ⟨R, hR⟩ : ∃ R, R = FilesR f w := ⟨_, rfl⟩
  rw [← hR]
  have HR := Lib.hid hR; clear hR
  have HE := Lib.hid hE; clear hE
  have HG := Lib.hid hg; clear hg
  have hbl := HE.out.lt
  have hx1 := Ext.alloc w (.cells #[.map (some b)] 42)
  have HX1 := Lib.hid hx1; clear hx1
  go_enter Tryz.func26, Tryz.ntmps26
  go_wp2_with (first
    | (at_range; refine wpList_range_F rfl _ 40 rfl 37 str_keyed Tryz.underlying40 b N (entF f A) rfl (HE.out.1.ext HX1.out) ?_; intro w0 c0 hg0 hx0 hs0)
    | go_in)
  go_frame
  rw [World.size_alloc] at hg0 hs0
  simp only [World.size_alloc]
  obtain ⟨r, hr⟩ : ∃ r, r = w.heap.size + 1 := ⟨_, rfl⟩
  rw [← hr] at hg0 hs0 ⊢
  obtain ⟨s0, hs00⟩ : ∃ s0, s0 = w0.heap.size := ⟨_, rfl⟩
  rw [← hs00] at hs0
  have HS0 := Lib.hid hs00; clear hs00
  have HZ : Hid (r = w.heap.size + 1 ∧ s0 = r + 1) := Lib.hid ⟨hr, hs0⟩
  have hx00 := HX1.out.trans hx0
  have HX0 := Lib.hid hx00; clear hx00 hx0 hr hs0
  go_loopw [3] (fun o wr => ∃ (left : By → Bool) (cnt : Nat) (ss : List By) (a : Option Addr) (c : Nat), o = .slice a (pathsF f ss).length c ∧ ss.length + cnt ≤ N ∧ Hid (MapG keyS wr 9 b r N (entF f A) left cnt) ∧ Hid (Shown f left ss) ∧ Hid (OwnS wr s0 a c (pathsF f ss)) ∧ Hid (Ext w wr) ∧ Hid (s0 ≤ wr.heap.size)) (fun _ wr => wr.rangeLeft b r)
  case atStart =>
    refine ⟨_, c0, [], none, 0, rfl, by have := hg0.cnt_le; simp; omega, Lib.hid hg0, Lib.hid ⟨by simp, fun x => ?_⟩, Lib.hid (OwnS.nil _ _), HX0, Lib.hid (by rw [HS0.out]; exact Nat.le_refl _)⟩
    unfold entF
    cases hf : f x <;> simp [hf]
  case round =>
    obtain ⟨left, cnt, ss, a, c, rfl, hk, hg, hsh, hO, hX, hS⟩ := hrel
    have HGC := Lib.hid hg.out.count
    have hlen : (pathsF f ss).length ≤ 12 * ss.length := pathsF_len HG.out ss (fun x hx => ((hsh.out.2 x).1 hx).1)
    go_wp2_with (first
      | (at_next; refine wpList_next_F rfl _ rfl str_keyed (fun x => .string (bs x)) keyS_inj inv_str b r N (entF f A) left cnt rfl hg.out ?_ ?_)
      | go_in)
    · intro hl
      have HL := Lib.hid hl; clear hl
      go_wp2_with (first
        | (go_at_call 65; refine (own_sort s0 a c (pathsF f ss) wr hO.out hS.out (by omega)).mono ?_; rintro e w5 ⟨rfl, hs5, hb5⟩; have HS5 := Lib.hid hs5; have HB5 := Lib.hid hb5; have hz5 := hb5.size; clear hs5 hb5)
        | (go_at_call 66; have hcc := own_compact s0 a c ((pathsF f ss).mergeSort fun x y => decide (x ≤ y)) w5 HS5.out (Nat.le_trans hS.out hz5) (by rw [(List.mergeSort_perm _ _).length_eq]; omega); rw [(List.mergeSort_perm _ _).length_eq] at hcc; refine hcc.mono ?_; rintro e w6 ⟨rfl, hs6, hb6⟩; have HS6 := Lib.hid hs6; have HB6 := Lib.hid hb6; clear hs6 hb6 hcc))
      rw [HR.out]
      have hz := HZ.out
      have hal := allPaths_len f ss
      refine ⟨a, c, ss, rfl, HS6.out, hsh.out.1, fun x => by rw [hsh.out.2 x, HL.out x]; simp, by omega, ?_⟩
      exact Ext.of_below' (Ext.of_below' hX.out (HB5.out.mono (by omega))) (HB6.out.mono (by omega))
    · intro x v w1 cnt1 hkey hlx hfx hg1 hlt hk1 hs1 hen
      obtain ⟨e, he, hv⟩ := entF_some hfx
      have hent := (HE.out.2 x e he).1.files
      generalize A x = Ax at hv hent
      obtain ⟨an, ac, af, au, cn, cc, cf, cu⟩ := Ax
      unfold pkgV at hv
      simp only at hv hent
      subst hv
      have hle := (right_lens (HG.out x e he).2.1).2.2.2.1
      have HE1 := Lib.hid he; clear he
      have HFX := Lib.hid hfx; clear hfx
      have HG1 := Lib.hid hg1; clear hg1
      have HO1 : Hid (OwnS w1 s0 a c (pathsF f ss)) := Lib.hid (ownsRow_keep hO.out hk1 (fun g _ _ hb _ => by have := HZ.out; show g ≠ r; omega))
      have HXX : Hid (Ext w w1) := Lib.hid (((Keep.of_ext (S := fun j => j < w.heap.size) hX.out).andThen hk1 (fun j hj _ => by have := HZ.out; show j ≠ r; omega)).ext_lt)
      have HLX := Lib.hid hlx; clear hlx
      have HS1 : Hid (s0 ≤ w1.heap.size) := Lib.hid (by rw [hs1]; exact hS.out)
      have HFI := Lib.hid hent; clear hent hk1 hs1
      go_upto_region 5 with (fail)
      have hx2 := Ext.alloc w1 (.cells #[.string (bs e.name), .string (bs e.ver), .slice an e.needs.length cn, .slice ac e.conf.length cc, .slice af e.files.length cf, .slice au e.units.length cu] 37)
      have hf2 := heap_alloc_new w1 (.cells #[.string (bs e.name), .string (bs e.ver), .slice an e.needs.length cn, .slice ac e.conf.length cc, .slice af e.files.length cf, .slice au e.units.length cu] 37)
      generalize w1.alloc (.cells #[.string (bs e.name), .string (bs e.ver), .slice an e.needs.length cn, .slice ac e.conf.length cc, .slice af e.files.length cf, .slice au e.units.length cu] 37) = w2 at hx2 hf2 ⊢
      obtain ⟨F, hF⟩ : ∃ x, x = w1.heap.size := ⟨_, rfl⟩
      rw [← hF] at hf2 ⊢
      clear hF
      have d4 := blk_cell hf2 4 (Value.slice af e.files.length cf) rfl
      have HX2 := Lib.hid hx2; clear hx2
      go_wp2_with fail
      clear d4 hf2
      go_loopw [3, 18] (fun o i wr => ∃ (D : List By) (a2 : Option Addr) (c2 j : Nat), o = .slice a2 D.length c2 ∧ i = .int .i64 j ∧ j ≤ e.files.length ∧ Hid (D = pathsF f ss ++ (e.files.take j).map FileD.path) ∧ Hid (MapG keyS wr 9 b r N (entF f A) (fun z => left z && !decide (z = x)) cnt1) ∧ Hid (OwnS wr s0 a2 c2 D) ∧ Hid (Ext w wr) ∧ Hid (s0 ≤ wr.heap.size)) (fun _ i _ => e.files.length - (intOf i).toNat)
      case atStart => exact ⟨pathsF f ss, a, c, 0, rfl, rfl, Nat.zero_le _, Lib.hid (by simp), Lib.hid (HG1.out.ext HX2.out), Lib.hid (HO1.out.ext HX2.out), Lib.hid (HXX.out.trans HX2.out), Lib.hid (Nat.le_trans HS1.out HX2.out.size)⟩
      case round =>
        obtain ⟨D, a2, c2, j, rfl, rfl, hj, hD, hg2, hO2, hX2, hS2⟩ := hrel
        have hDl : D.length ≤ 1300000 := by
          rw [hD.out, List.length_append, List.length_map, List.length_take]
          omega
        by_cases hjl : j < e.files.length
        · obtain ⟨g, off, rfl, _, h1, h2, h3⟩ := (HFI.out.ext hX2.out).at hjl
          obtain ⟨m, hm⟩ : ∃ m, m = e.files.getD j fz := ⟨_, rfl⟩
          rw [← hm] at h1 h2 h3
          obtain ⟨mp, mc, md⟩ := m
          simp only at h1 h2 h3
          have HMM := Lib.hid hm; clear hm
          go_upto_region 8 with (fail)
          clear h1 h2 h3
          have hx4 := Ext.alloc wr (.cells #[.string (bs mp), .bool mc, .int .u32 (le32 md : Nat)] 71)
          have hf4 := heap_alloc_new wr (.cells #[.string (bs mp), .bool mc, .int .u32 (le32 md : Nat)] 71)
          generalize wr.alloc (.cells #[.string (bs mp), .bool mc, .int .u32 (le32 md : Nat)] 71) = w4 at hx4 hf4 ⊢
          obtain ⟨G, hGG⟩ : ∃ x, x = wr.heap.size := ⟨_, rfl⟩
          rw [← hGG] at hf4 ⊢
          clear hGG
          have f0 := blk_cell hf4 0 (Value.string (bs mp)) rfl
          have HX4 := Lib.hid hx4
          have hs4 := hx4.size
          have hs2 := hS2.out
          clear hx4 hf4
          go_wp2_with (at_builtin; refine append_big rfl _ _ 28 9 (.string ⟨#[]⟩) 1 16 rfl Tryz.underlying28 info_string rfl (by decide) s0 a2 D.length c2 _ rfl (ownsRow_ext hO2.out (HX4.out.trans (Ext.alloc _ _))) w4.heap.size 1 1 [.string (bs mp)] _ _ rfl (by simp) (heap_alloc_new w4 _) (by simp [Value.oneCell']) (by omega) (by omega) (by decide) ?_ (D.length + 1) rfl ?_; (simp; omega); intro g1 cap1 w5 hown3 hk3 hb3 hat3; have O3 := Lib.hid hown3; have B3 := Lib.hid hb3; clear hown3 hk3 hb3 hat3)
          have hz := HZ.out
          have hxa := HX4.out.trans (Ext.alloc w4 (.cells #[.string (bs mp)] 9))
          have hb5 := B3.out.size
          rw [World.size_alloc] at hb5
          refine ⟨⟨D ++ [mp], some ⟨g1, 0, none⟩, cap1, j + 1, by simp, by go_num, by omega, Lib.hid ?_, Lib.hid ((hg2.out.ext hxa).keep (Keep.of_below B3.out) (by show b < s0; omega) (by show r < s0; omega)), Lib.hid ?_, Lib.hid (Ext.of_below' (hX2.out.trans hxa) (B3.out.mono (by omega))), Lib.hid ?_⟩, by simp [intOf]; omega⟩
          · rw [hD.out, List.take_succ_eq_append_getElem hjl, List.map_append, List.append_assoc]
            have e1 : e.files[j] = ⟨mp, mc, md⟩ := by
              have := HMM.out
              rw [this]
              simp [List.getD_eq_getElem?_getD, List.getElem?_eq_getElem hjl]
            rw [e1]
            rfl
          · have := O3.out
            unfold OwnS
            rw [List.length_append, List.map_append]
            exact this
          · omega
        · obtain rfl : j = e.files.length := by omega
          go_wp2_with fail
          go_roundw
          case rel =>
            have hD2 := hD.out
            rw [List.take_length] at hD2
            have hps : pathsF f (ss ++ [x]) = D := by rw [pathsF_snoc, HE1.out, hD2]; rfl
            refine ⟨_, cnt1, ss ++ [x], a2, c2, by rw [hps], by simp; omega, hg2, Lib.hid ⟨?_, fun z => ?_⟩, Lib.hid (by rw [hps]; exact hO2.out), hX2, hS2⟩
            · rw [List.nodup_append]
              refine ⟨hsh.out.1, by simp, fun y hy z hz e => ?_⟩
              simp only [List.mem_singleton] at hz
              subst hz
              subst e
              have := ((hsh.out.2 _).1 hy).2
              rw [HLX.out] at this
              cases this
            · rw [List.mem_append, hsh.out.2 z, List.mem_singleton]
              by_cases hzx : z = x
              · subst hzx
                simp [HE1.out]
              · simp [hzx]
          case measure =>
            rw [hg2.out.count, HGC.out]
            exact hlt
theorem files_none (w : World) : Calls Tryz.prog 26 #[.agg #[.map none]] w (FilesR noneF w) := by
  obtain ⟨R, hR⟩ : ∃ R, R = FilesR noneF w := ⟨_, rfl⟩
  rw [← hR]
  have HR := Lib.hid hR; clear hR
  have hx1 := Ext.alloc w (.cells #[.map none] 42)
  have hb1 := heap_alloc_new w (.cells #[.map none] 42)
  go_enter Tryz.func26, Tryz.ntmps26
  go_upto_region 2 with (fail)
  generalize w.alloc (.cells #[.map none] 42) = w1 at hx1 hb1 ⊢
  obtain ⟨BX, hBX⟩ : ∃ x, x = w.heap.size := ⟨_, rfl⟩
  rw [← hBX] at hb1 ⊢
  clear hBX
  have p0 := blk_cell hb1 0 (Value.map none) rfl
  have HX1 := Lib.hid hx1; clear hx1 hb1
  have hrg := run_range_nilMap (P := Tryz.prog) w1 40 _ _ Tryz.underlying40
  have hnx : ∀ ty, (Instr.next (.pointer (some ⟨w1.heap.size, 0, none⟩)) false ty).run Tryz.prog (w1.alloc (.mapIter none 0 #[] 0)) = _ := fun ty => run_next_nilMap _ ty 0 0 #[]
  go_wp2
  refine wp_loop_rounds 1 ?_
  rw [rounds_succ]
  go_wp2_with (first
    | (go_at_call 65; refine (own_sort (w1.alloc (.mapIter none 0 #[] 0)).heap.size none 0 [] _ (OwnS.nil _ _) (Nat.le_refl _) (by simp)).mono ?_; rintro e w5 ⟨rfl, hs5, hb5⟩; have HB5 := Lib.hid hb5; clear hs5 hb5)
    | (go_at_call 66; refine (Tryz.slices_Compact_string_empty none 0 _).mono ?_; rintro e w6 ⟨rfl, rfl⟩))
  rw [HR.out]
  have hal : allPaths noneF [] = [] := by unfold allPaths pathsF; simp; rfl
  exact ⟨none, 0, [], by rw [hal]; rfl, Or.inl hal, by simp, by simp [noneF], by have := allPaths_len noneF []; simp only [pathsF, List.flatMap_nil, List.length_nil] at this; omega, HX1.out.trans ((Ext.alloc _ _).trans HB5.out)⟩
theorem base_files (v : Value) (N : Nat) (f : BaseF) (w : World) (hb : BaseM w v N f) (hg : GoodF f) (hN : N ≤ 100000) : Calls Tryz.prog 26 #[v] w (FilesR f w) := by
  rcases hb with ⟨rfl, rfl⟩ | ⟨b, A, rfl, h⟩
  · exact files_none w
  · exact files_some b N f A w h hg hN
end Go.Proofs.YtnclibfhbngkjaaGreatDoor
