/- Several texts of mine, one behind the other: BytesEq, RowsEq, BasePack, BaseSame, SortOwn. -/
import Derived.Test.YtnclibfhbngkjaaGreatDoorM2
import Derived.BigQuiet
import Derived.Deep.RegionHeld3
import Derived.Deep.Cut
import Derived.Deep.QuietTactic
import Derived.Outline
import Derived.Test.YtnclibfhbngkjaaGreatDoorPack
import Derived.Test.YtnclibfhbngkjaaGreatDoorBaseParts
import Derived.Test.YtnclibfhbngkjaaGreatDoorM3
import Derived.Test.YtnclibfhbngkjaaGreatDoorBaseOwner
import Derived.Test.YtnclibfhbngkjaaGreatDoorPackAll
import Derived.Sort.OwnSorted
import Derived.Lib.SlicesCompact
import Derived.Laws.IdiomCopy
import Derived.Shelf.SortM.Plain
import Derived.Shelf.SortM.SortNone
namespace Go.Proofs.YtnclibfhbngkjaaGreatDoor
open Go.RowKit
theorem take_byte {l m : List UInt8} {k : Nat} (h : l.take k = m.take k) (hl : k < l.length) (hm : k < m.length) (he : byteAt l k = byteAt m k) : l.take (k + 1) = m.take (k + 1) := by
  rw [List.take_succ_eq_append_getElem hl, List.take_succ_eq_append_getElem hm, h]
  have : l[k] = m[k] := by
    apply UInt8.toNat_inj.1
    simpa [byteAt, hl, hm] using he
  rw [this]
set_option maxRecDepth 100000 in
set_option maxHeartbeats 3200000 in
theorem bytes_equal (a b : Option Addr) (c d : Nat) (l m : List UInt8) (w : World) (ha : Bytes w a l) (hb : Bytes w b m) (hl : l.length ≤ 100000) (hm : m.length ≤ 100000) :
    Calls Tryz.prog 57 #[.slice a l.length c, .slice b m.length d] w fun e w' => e = .returned (.bool (decide (l = m))) ∧ Ext w w' := by
  obtain ⟨R, hR⟩ : ∃ R : Ending → World → Prop, R = fun e w' => e = .returned (.bool (decide (l = m))) ∧ Ext w w' := ⟨_, rfl⟩
  rw [← hR]
  have HR := Lib.hid hR; clear hR
  have HA := Lib.hid ha; clear ha
  have HB := Lib.hid hb; clear hb
  obtain ⟨n, hn⟩ : ∃ n, n = l.length := ⟨_, rfl⟩
  obtain ⟨p, hp⟩ : ∃ p, p = m.length := ⟨_, rfl⟩
  rw [← hn] at hl ⊢
  rw [← hp] at hm ⊢
  have HN := Lib.hid hn; clear hn
  have HP := Lib.hid hp; clear hp
  by_cases hnp : n = p
  · subst hnp
    go_enter Tryz.func57, Tryz.ntmps57
    go_wp2_with fail
    go_loopw [13] (fun i wr => ∃ k : Nat, i = .int .i64 k ∧ k ≤ n ∧ Hid (l.take k = m.take k) ∧ Hid (Ext w wr)) (fun i _ => n - (intOf i).toNat)
    case atStart => exact ⟨0, rfl, Nat.zero_le _, Lib.hid rfl, Lib.hid (Ext.refl _)⟩
    case round =>
      obtain ⟨k, rfl, hk, ht, hx⟩ := hrel
      by_cases hlt : k < n
      · obtain ⟨g, off, rfl, _, hc⟩ := (HA.out.ext hx.out).at (by have := HN.out; intro e; rw [e] at this; simp at this; omega)
        obtain ⟨g2, off2, rfl, _, hc2⟩ := (HB.out.ext hx.out).at (by have := HP.out; intro e; rw [e] at this; simp at this; omega)
        have c1 := hc k (by have := HN.out; omega)
        have c2 := hc2 k (by have := HP.out; omega)
        clear hc hc2
        obtain ⟨x, hxx⟩ : ∃ x, x = byteAt l k := ⟨_, rfl⟩
        obtain ⟨y, hyy⟩ : ∃ y, y = byteAt m k := ⟨_, rfl⟩
        rw [← hxx] at c1
        rw [← hyy] at c2
        have i0 : (0 : Int) ≤ (k : Int) := by omega
        have i1 : (k : Int) < (n : Int) := by omega
        by_cases hxy : x = y
        · have n1 : ((x : Int) != (y : Int)) = false := by rw [hxy]; simp
          have HXY := Lib.hid hxy; clear hxy
          have HX := Lib.hid hxx; clear hxx
          have HY := Lib.hid hyy; clear hyy
          go_upto_region 6 with fail
          go_quiet (fail)
          all_goals (
            go_wp2_with fail
            refine ⟨⟨k + 1, by go_num, by omega, Lib.hid (take_byte ht.out (by have := HN.out; omega) (by have := HP.out; omega) (by rw [← HX.out, ← HY.out, HXY.out])), Lib.hid (hx.out.drewN _)⟩, by simp [intOf]; omega⟩)
        · have n1 : ((x : Int) != (y : Int)) = true := by rw [bne_iff_ne]; omega
          have HXY := Lib.hid hxy; clear hxy
          have HX := Lib.hid hxx; clear hxx
          have HY := Lib.hid hyy; clear hyy
          go_upto_region 6 with fail
          go_quiet (fail)
          all_goals (
            go_wp2_with fail
            rw [HR.out]
            refine ⟨?_, hx.out.drewN _⟩
            have : ¬ l = m := by
              intro e
              apply HXY.out
              rw [HX.out, HY.out, e]
            rw [decide_eq_false this]
            rfl)
      · obtain rfl : k = n := by omega
        go_wp2_with fail
        rw [HR.out]
        have e : l = m := by
          have h := ht.out
          rw [List.take_of_length_le (by have := HN.out; omega), List.take_of_length_le (by have := HP.out; omega)] at h
          exact h
        rw [decide_eq_true e]
        exact ⟨rfl, hx.out⟩
  · have n1 : ((n : Int) != (p : Int)) = true := by rw [bne_iff_ne]; omega
    have HNP := Lib.hid hnp; clear hnp
    go_enter Tryz.func57, Tryz.ntmps57
    go_wp2_with fail
    rw [HR.out]
    have : ¬ l = m := by
      intro e
      apply HNP.out
      rw [HN.out, HP.out, e]
    rw [decide_eq_false this]
    exact ⟨rfl, Ext.refl _⟩
end Go.Proofs.YtnclibfhbngkjaaGreatDoor
namespace Go.Proofs.YtnclibfhbngkjaaGreatDoor
open Go.RowKit
set_option maxHeartbeats 1600000 in
theorem same_one (a b : Option Addr) (c d : Nat) (l m : List UInt8) (w : World) (ha : Bytes w a l) (hb : Bytes w b m) (hl : l.length ≤ 100000) (hm : m.length ≤ 100000) :
    Calls Tryz.prog 56 #[.slice a l.length c, .slice b m.length d] w fun e w' => e = .returned (.bool (decide (l = m))) ∧ Ext w w' := by
  have h := bytes_equal a b c d l m w ha hb hl hm
  have H := Lib.hid h; clear h ha hb
  go_enter Tryz.func56, Tryz.ntmps56
  go_wp2_with (go_at_call 57; refine H.out.mono ?_; rintro e w' ⟨rfl, hx⟩)
  go_ret
  exact ⟨rfl, hx⟩
set_option maxRecDepth 100000 in
set_option maxHeartbeats 3200000 in
theorem rows_equal (a b : Option Addr) (c d : Nat) (L M : List (List UInt8)) (w : World) (hL : Parts w a L) (hM : Parts w b M) (h1 : ∀ l ∈ L, l.length ≤ 100000) (h2 : ∀ l ∈ M, l.length ≤ 100000) (hl : L.length ≤ 100000) (hm : M.length ≤ 100000) :
    Calls Tryz.prog 55 #[.slice a L.length c, .slice b M.length d, .func (.func 56) #[] #[]] w fun e w' => e = .returned (.bool (decide (L = M))) ∧ Ext w w' := by
  obtain ⟨R, hR⟩ : ∃ R : Ending → World → Prop, R = fun e w' => e = .returned (.bool (decide (L = M))) ∧ Ext w w' := ⟨_, rfl⟩
  rw [← hR]
  have HR := Lib.hid hR; clear hR
  have HA := Lib.hid hL; clear hL
  have HB := Lib.hid hM; clear hM
  have HL1 := Lib.hid h1; clear h1
  have HL2 := Lib.hid h2; clear h2
  obtain ⟨n, hn⟩ : ∃ n, n = L.length := ⟨_, rfl⟩
  obtain ⟨p, hp⟩ : ∃ p, p = M.length := ⟨_, rfl⟩
  rw [← hn] at hl ⊢
  rw [← hp] at hm ⊢
  have HN := Lib.hid hn; clear hn
  have HP := Lib.hid hp; clear hp
  by_cases hnp : n = p
  · subst hnp
    go_enter Tryz.func55, Tryz.ntmps55
    go_wp2_with fail
    go_loopw [17] (fun i wr => ∃ k : Nat, i = .int .i64 k ∧ k ≤ n ∧ Hid (L.take k = M.take k) ∧ Hid (Ext w wr)) (fun i _ => n - (intOf i).toNat)
    case atStart => exact ⟨0, rfl, Nat.zero_le _, Lib.hid rfl, Lib.hid (Ext.refl _)⟩
    case round =>
      obtain ⟨k, rfl, hk, ht, hx⟩ := hrel
      by_cases hlt : k < n
      · have hkL : k < L.length := by have := HN.out; omega
        have hkM : k < M.length := by have := HP.out; omega
        obtain ⟨g, off, p1, q1, rfl, c1, b1⟩ := (HA.out.ext hx.out).at hkL
        obtain ⟨g2, off2, p2, q2, rfl, c2, b2⟩ := (HB.out.ext hx.out).at hkM
        have e1 : L.getD k [] = L[k] := by simp [hkL]
        have e2 : M.getD k [] = M[k] := by simp [hkM]
        have hq := fun W (hW : Ext wr W) => same_one p1 p2 q1 q2 (L.getD k []) (M.getD k []) W (b1.ext hW) (b2.ext hW) (HL1.out _ (by rw [e1]; simp)) (HL2.out _ (by rw [e2]; simp))
        have HQ := Lib.hid hq; clear hq b1 b2
        have HE1 := Lib.hid e1; clear e1
        have HE2 := Lib.hid e2; clear e2
        obtain ⟨x, hxx⟩ : ∃ x, x = L.getD k [] := ⟨_, rfl⟩
        obtain ⟨y, hyy⟩ : ∃ y, y = M.getD k [] := ⟨_, rfl⟩
        rw [← hxx] at c1 HQ
        rw [← hyy] at c2 HQ
        have HXX := Lib.hid hxx; clear hxx
        have HYY := Lib.hid hyy; clear hyy
        by_cases hxy : x = y
        · have hd : decide (x = y) = true := decide_eq_true hxy
          rw [hd] at HQ
          have HXY := Lib.hid hxy; clear hxy hd
          go_wp2_with (go_at_call 56; refine (HQ.out _ (Ext.refl _)).mono ?_; rintro e w' ⟨rfl, hx2⟩; have HX2 := Lib.hid hx2; clear hx2)
          refine ⟨⟨k + 1, by go_num, by omega, Lib.hid ?_, Lib.hid (hx.out.trans HX2.out)⟩, by simp [intOf]; omega⟩
          rw [List.take_succ_eq_append_getElem hkL, List.take_succ_eq_append_getElem hkM, ht.out, ← HE1.out, ← HE2.out, ← HXX.out, ← HYY.out, HXY.out]
        · have hd : decide (x = y) = false := decide_eq_false hxy
          rw [hd] at HQ
          have HXY := Lib.hid hxy; clear hxy hd
          go_wp2_with (go_at_call 56; refine (HQ.out _ (Ext.refl _)).mono ?_; rintro e w' ⟨rfl, hx2⟩; have HX2 := Lib.hid hx2; clear hx2)
          rw [HR.out]
          refine ⟨?_, hx.out.trans HX2.out⟩
          have : ¬ L = M := by
            intro e
            apply HXY.out
            rw [HXX.out, HYY.out, e]
          rw [decide_eq_false this]
          rfl
      · obtain rfl : k = n := by omega
        go_wp2_with fail
        rw [HR.out]
        have e : L = M := by
          have h := ht.out
          rw [List.take_of_length_le (by have := HN.out; omega), List.take_of_length_le (by have := HP.out; omega)] at h
          exact h
        rw [decide_eq_true e]
        exact ⟨rfl, hx.out⟩
  · have n1 : ((n : Int) != (p : Int)) = true := by rw [bne_iff_ne]; omega
    have HNP := Lib.hid hnp; clear hnp
    go_enter Tryz.func55, Tryz.ntmps55
    go_wp2_with fail
    rw [HR.out]
    have : ¬ L = M := by
      intro e
      apply HNP.out
      rw [HN.out, HP.out, e]
    rw [decide_eq_false this]
    exact ⟨rfl, Ext.refl _⟩
end Go.Proofs.YtnclibfhbngkjaaGreatDoor
namespace Go.Proofs.YtnclibfhbngkjaaGreatDoor
open Go.RowKit
attribute [local go_sem ↓] Go.wp_at_zero Go.wp_at_succ
/-- What Pack answers. -/
def PacksR (N : Nat) (f : BaseF) (w : World) (e : Ending) (w' : World) : Prop :=
  ∃ a c ss, e = .returned (.slice a ss.length c) ∧ NamesF f ss ∧ Parts w' a (packsF f ss) ∧ ss.length ≤ N ∧ Ext w w'
theorem packsF_len (f : BaseF) (ss : List By) : (packsF f ss).length = ss.length := List.length_map _
theorem packsF_take {f : BaseF} {ss : List By} {k : Nat} {x : By} {e : PkgD} (hk : k < ss.length) (hx : x = ss.getD k []) (he : f x = some e) : packsF f (ss.take (k + 1)) = packsF f (ss.take k) ++ [packE e] := by
  have e1 : ss[k] = x := by rw [hx]; simp [List.getD_eq_getElem?_getD, List.getElem?_eq_getElem hk]
  unfold packsF
  rw [List.take_succ_eq_append_getElem hk, List.map_append, e1, List.map_singleton, he]
  rfl
set_option maxRecDepth 100000 in
set_option maxHeartbeats 6400000 in
theorem base_pack (v : Value) (N : Nat) (f : BaseF) (w : World) (hb : BaseM w v N f) (hg : GoodF f) (hN : N ≤ 100000) :
    Calls Tryz.prog 15 #[v] w (PacksR N f w) := by
  obtain ⟨R, hR⟩ : ∃ R, R = PacksR N f w := ⟨_, rfl⟩
  rw [← hR]
  have HR := Lib.hid hR; clear hR
  obtain ⟨pm, A0, rfl, _⟩ := hb.parts
  have hx1 := Ext.alloc w (.cells #[.map pm] 42)
  have hb1 := heap_alloc_new w (.cells #[.map pm] 42)
  go_enter Tryz.func15, Tryz.ntmps15
  go_upto_region 1 with (fail)
  generalize w.alloc (.cells #[.map pm] 42) = w1 at hx1 hb1 ⊢
  obtain ⟨BX, hBX⟩ : ∃ x, x = w.heap.size := ⟨_, rfl⟩
  rw [← hBX] at hb1 ⊢
  clear hBX
  have p0 := blk_cell hb1 0 (Value.map pm) rfl
  have hw := base_names (.agg #[.map pm]) N f w1 (hb.ext hx1) hN
  have HW := Lib.hid hw; clear hw
  have HB := Lib.hid (hb.ext hx1); clear hb
  have HG := Lib.hid hg; clear hg
  have HX1 := Lib.hid hx1; clear hx1
  have HB1 := Lib.hid hb1; clear hb1
  go_wp2_with (go_at_call 20; refine HW.out.mono ?_; rintro e w2 ⟨sa, sc, ss, rfl, hss, hown, hsl, hx2⟩; have HSS := Lib.hid hss; clear hss; have HOW := Lib.hid hown.strs.1; clear hown; have HX2 := Lib.hid hx2; clear hx2)
  clear p0 HW
  obtain ⟨n, hn⟩ : ∃ n, n = ss.length := ⟨_, rfl⟩
  rw [← hn] at hsl ⊢
  have HN := Lib.hid hn; clear hn
  go_loopw [3, 9] (fun v i wr => ∃ (D : List By) (a2 : Option Addr) (cap k : Nat), v = .slice a2 D.length cap ∧ i = .int .i64 k ∧ k ≤ n ∧ Hid (D = packsF f (ss.take k)) ∧ Hid (OwnR wr w2.heap.size a2 cap D) ∧ Hid (Ext w2 wr)) (fun _ i _ => n - (intOf i).toNat)
  case atStart => exact ⟨[], none, 0, 0, rfl, rfl, Nat.zero_le _, Lib.hid rfl, Lib.hid (OwnR.nil _ _), Lib.hid (Ext.refl _)⟩
  case round =>
    obtain ⟨D, a2, cap, k, rfl, rfl, hk, hD, hown, hX⟩ := hrel
    have hDl : D.length ≤ n := by
      rw [hD.out, packsF_len, List.length_take, ← HN.out]
      omega
    by_cases hlt : k < n
    · have hkL : k < ss.length := by have := HN.out; omega
      obtain ⟨g, off, rfl, _, hc⟩ := (HOW.out.ext hX.out).at (by intro e; rw [e] at hkL; simp at hkL)
      have c0 := hc k hkL
      clear hc
      obtain ⟨x, hx⟩ : ∃ x, x = ss.getD k [] := ⟨_, rfl⟩
      rw [← hx] at c0
      have hxs : x ∈ ss := by rw [hx, List.getD_eq_getElem?_getD, List.getElem?_eq_getElem hkL]; simp
      have HX := Lib.hid hx; clear hx
      obtain ⟨b, A, e, hv, hE, hfe⟩ := names_ent HB.out HSS.out hxs
      obtain rfl : pm = some b := by simpa using hv
      clear hv
      have hge := HG.out x e hfe
      have hfl := right_lens hge.2.1
      have hxl : x.length ≤ 100000 := by rw [← hge.1]; omega
      have hkey := key_by hxl
      have hml := hE.1.ext (HX2.out.trans hX.out)
      have hen : entF f A x = some (pkgV e (A x)) := by unfold entF; rw [hfe]; rfl
      have hem := (hE.2 x e hfe).1.ext (HX2.out.trans hX.out)
      generalize A x = Ax at hen hem
      obtain ⟨an, ac, af, au, cn, cc, cf, cu⟩ := Ax
      unfold pkgV at hen
      simp only at hen
      have hpt := base_parts0 e an ac af au cn cc cf cu wr hem (FitP.of_right hge.2.1) hge.2.2
      have hpl : (partsE e).flatten.length ≤ 4000 := (packE_len hge.2.1 hge.2.2).1
      have HPT := Lib.hid hpt; clear hpt hem
      obtain ⟨B, hBB⟩ : ∃ B, B = (partsE e).flatten := ⟨_, rfl⟩
      rw [← hBB] at hpl
      have HBB := Lib.hid hBB; clear hBB
      have HFE := Lib.hid hfe; clear hfe
      clear hge hfl hxs hE
      have q0 := blk_cell ((HX2.out.trans hX.out).heap HB1.out) 0 (Value.map (some b)) rfl
      go_wp2_with (first
        | (at_lookup; refine wpList_look_F rfl _ _ 40 rfl 37 str_keyed Tryz.underlying40 _ (Tryz.zeroValue37 _) b N (entF f A) rfl hml _ x rfl hkey ?_; rw [hen, Option.getD_some]; go_frame)
        | (go_at_call 54; refine HPT.out.mono ?_; rintro E w3 ⟨pa, pc, rfl, hps, hx3⟩; have hpk := rec_pack pa pc (partsE e) w3 hps (by rw [← HBB.out]; omega) (by simp [partsE]); rw [← HBB.out] at hpk; have HPK := Lib.hid hpk; have HX3 := Lib.hid hx3; clear hpk hps hx3)
        | (go_at_call 53; refine HPK.out.mono ?_; rintro E w4 ⟨pb, pd, rfl, hob, hx4⟩; have hrn := row_one hown.out HX3.out hob; have HRN := Lib.hid hrn; have HX4 := Lib.hid (HX3.out.trans hx4); clear hrn hob hx4)
        | (at_builtin; refine append_rows rfl _ _ rfl w2.heap.size a2 cap D rfl ((hown.out.ext HX4.out).ext (Ext.alloc _ _)) [.slice pb B.length pd] [B] w4.heap.size 1 rfl rfl (heap_alloc_new w4 _) (HRN.out.keep (Keep.of_ext (Ext.alloc _ _))) (by omega) (by omega) ?_ ?_; (have hs3 := HX4.out.size; have hs2 := hX.out.size; simp; omega); intro g1 cap1 w5 hown4 hk4 hb4)
        | go_in)
      have hsx := HX4.out.size
      have hs2 := hX.out.size
      refine ⟨⟨D ++ [B], some ⟨g1, 0, none⟩, cap1, k + 1, by simp, by go_num, by omega, Lib.hid (by rw [hD.out, packsF_take hkL HX.out HFE.out, HBB.out]; rfl), Lib.hid hown4, Lib.hid (Ext.of_below' (hX.out.trans (HX4.out.trans (Ext.alloc w4 _))) hb4)⟩, by simp [intOf]; omega⟩
    · obtain rfl : k = n := by omega
      go_wp2_with fail
      rw [HR.out]
      have hD2 := hD.out
      rw [List.take_of_length_le (by have := HN.out; omega)] at hD2
      refine ⟨a2, cap, ss, ?_, HSS.out, by rw [← hD2]; exact hown.out.parts, by rw [← HN.out]; exact hsl, HX1.out.trans (HX2.out.trans hX.out)⟩
      rw [hD2, packsF_len]
      rfl
end Go.Proofs.YtnclibfhbngkjaaGreatDoor
namespace Go.Proofs.YtnclibfhbngkjaaGreatDoor
open Go.RowKit
attribute [local go_sem ↓] Go.wp_at_zero Go.wp_at_succ
theorem packs_small {f : BaseF} {ss : List By} (hg : GoodF f) (h : NamesF f ss) : ∀ l ∈ packsF f ss, l.length ≤ 100000 := by
  intro l hl
  obtain ⟨n, hn, rfl⟩ := List.mem_map.1 hl
  obtain ⟨e, he⟩ := Option.isSome_iff_exists.1 ((h.2.2 n).1 hn)
  have hge := hg n e he
  have := (packE_len hge.2.1 hge.2.2).1
  rw [he]
  simp only [Option.getD_some]
  omega
set_option maxRecDepth 100000 in
set_option maxHeartbeats 6400000 in
theorem base_same (u v : Value) (M N : Nat) (f g : BaseF) (w : World) (hu : BaseM w u M f) (hv : BaseM w v N g) (hf : GoodF f) (hg : GoodF g) (hM : M ≤ 100000) (hN : N ≤ 100000) :
    Calls Tryz.prog 16 #[u, v] w fun e w' => (∃ q, e = .returned (.bool q) ∧ (q = true ↔ f = g)) ∧ Ext w w' := by
  obtain ⟨R, hR⟩ : ∃ R : Ending → World → Prop, R = fun e w' => (∃ q, e = .returned (.bool q) ∧ (q = true ↔ f = g)) ∧ Ext w w' := ⟨_, rfl⟩
  rw [← hR]
  have HR := Lib.hid hR; clear hR
  obtain ⟨pm, A0, rfl, _⟩ := hu.parts
  obtain ⟨qm, A1, rfl, _⟩ := hv.parts
  have hx1 : Ext w ((w.alloc (.cells #[.map pm] 42)).alloc (.cells #[.map qm] 42)) := (Ext.alloc _ _).trans (Ext.alloc _ _)
  have hb1 := (Ext.alloc _ (.cells #[.map qm] 42)).heap (heap_alloc_new w (.cells #[.map pm] 42))
  have hc1 := heap_alloc_new (w.alloc (.cells #[.map pm] 42)) (.cells #[.map qm] 42)
  rw [World.size_alloc] at hc1
  go_enter Tryz.func16, Tryz.ntmps16
  go_upto_region 1 with (fail)
  generalize (w.alloc (.cells #[.map pm] 42)).alloc (.cells #[.map qm] 42) = w1 at hx1 hb1 hc1 ⊢
  obtain ⟨BX, hBX⟩ : ∃ x, x = w.heap.size := ⟨_, rfl⟩
  obtain ⟨BY, hBY⟩ : ∃ x, x = w.heap.size + 1 := ⟨_, rfl⟩
  rw [← hBY] at hc1
  rw [← hBX] at hb1
  rw [← hBY, ← hBX]
  clear hBX hBY
  have HU := Lib.hid (hu.ext hx1); clear hu
  have HV := Lib.hid (hv.ext hx1); clear hv
  have HG1 := Lib.hid hf; clear hf
  have HG2 := Lib.hid hg; clear hg
  have HX1 := Lib.hid hx1; clear hx1
  have hcs : ∀ W, Ext w1 W → W.cell? ⟨BX, 0, none⟩ = some (.map pm) ∧ W.cell? ⟨BY, 0, none⟩ = some (.map qm) := fun W k => ⟨blk_cell (k.heap hb1) 0 _ rfl, blk_cell (k.heap hc1) 0 _ rfl⟩
  have HCS := Lib.hid hcs; clear hcs hb1 hc1
  have HK := Lib.hid ((Ext.refl w1).drew)
  refine wp_region_noPanic ?_
  refine wp_region_held_drew (S := (fun W => W.cell? ⟨BX, 0, none⟩ = some (.map pm) ∧ W.cell? ⟨BY, 0, none⟩ = some (.map qm))) (by kernel_rfl) (HCS.out _ HK.out) (fun hHeld => ?_)
  clear hHeld
  generalize w1.drew = wc at HK ⊢
  refine wpAnyH_take (i := 0) (v := ?_) rfl (by kernel_rfl) (by kernel_rfl) (by kernel_rfl) (fun _ _ _ h => h) (Or.inl ⟨by kernel_rfl, ?_⟩) (HCS.out _ HK.out) ?_
  rotate_left
  · (intro wq hSw; (try dsimp only at hSw); first | (go_simp; done) | (go_simp; with_reducible rfl))
  try simp only [List.getElem_toArray, List.getElem_cons_zero, Act.put, List.setIfInBounds_toArray, List.set_cons_zero, List.set_cons_succ]
  refine wpAnyH_take (i := 2) (v := ?_) rfl (by kernel_rfl) (by kernel_rfl) (by kernel_rfl) (fun _ _ _ h => h) (Or.inl ⟨by kernel_rfl, ?_⟩) (HCS.out _ HK.out) ?_
  rotate_left
  · (intro wq hSw; (try dsimp only at hSw); first | (go_simp; done) | (go_simp; with_reducible rfl))
  try simp only [List.getElem_toArray, List.getElem_cons_zero, List.getElem_cons_succ, Act.put, List.setIfInBounds_toArray, List.set_cons_zero, List.set_cons_succ]
  all_goals (
    first
      | refine wpAnyH_ready (rs := [1]) (by decide +kernel) (by simp) ?_
    repeat' (first | exact AllReadyH.nil | (refine AllReadyH.cons rfl (fun K hK => ?_) ?_)))
  all_goals (
    go_simp
    first
      | (go_at_call 15
         refine (base_pack (.agg #[.map pm]) M f wc (HU.out.ext HK.out) HG1.out (by omega)).mono ?_
         rintro E wn ⟨a1, c1, s1, rfl, hns, hps, hls, hx⟩
         replace HK := Lib.hid (HK.out.trans hx)
         have HP1 := Lib.hid hps
         have HN1 := Lib.hid hns
         have HLS1 := Lib.hid hls
         clear hps hns hls hx
         go_wp2_with fail
         refine hK.out _ _ (HCS.out _ HK.out) (fun _ => ?_)
         clear hK K
         obtain ⟨wc, rfl⟩ : ∃ x : World, x = wn := ⟨_, rfl⟩
         try simp only [List.getElem_toArray, List.getElem_cons_zero, List.getElem_cons_succ, Act.put, List.setIfInBounds_toArray, List.set_cons_zero, List.set_cons_succ]))
  all_goals (
    first
      | refine wpAnyH_ready (rs := [3]) (by decide +kernel) (by simp) ?_
    repeat' (first | exact AllReadyH.nil | (refine AllReadyH.cons rfl (fun K hK => ?_) ?_)))
  all_goals (
    go_simp
    first
      | (go_at_call 15
         refine (base_pack (.agg #[.map qm]) N g wc (HV.out.ext HK.out) HG2.out (by omega)).mono ?_
         rintro E wn ⟨a2, c2, s2, rfl, hns, hps, hls, hx⟩
         replace HP1 := Lib.hid (HP1.out.ext hx)
         replace HK := Lib.hid (HK.out.trans hx)
         have HP2 := Lib.hid hps
         have HN2 := Lib.hid hns
         have HLS2 := Lib.hid hls
         clear hps hns hls hx
         go_wp2_with fail
         refine hK.out _ _ (HCS.out _ HK.out) (fun _ => ?_)
         clear hK K
         obtain ⟨wc, rfl⟩ : ∃ x : World, x = wn := ⟨_, rfl⟩
         try simp only [List.getElem_toArray, List.getElem_cons_zero, List.getElem_cons_succ, Act.put, List.setIfInBounds_toArray, List.set_cons_zero, List.set_cons_succ]
         refine wpAnyH_take (i := 4) (v := ?_) rfl (by kernel_rfl) (by kernel_rfl) (by kernel_rfl) (fun _ _ _ h => h) (Or.inl ⟨by kernel_rfl, ?_⟩) (HCS.out _ HK.out) ?_
         rotate_left
         · (intro wq _; first | (go_simp; done) | (go_simp; with_reducible rfl))
         try simp only [List.getElem_toArray, List.getElem_cons_zero, List.getElem_cons_succ, Act.put, List.setIfInBounds_toArray, List.set_cons_zero, List.set_cons_succ]
         refine wpAnyH_take (i := 5) (v := ?_) rfl (by kernel_rfl) (by kernel_rfl) (by kernel_rfl) (fun _ _ _ h => h) (Or.inl ⟨by kernel_rfl, ?_⟩) (HCS.out _ HK.out) ?_
         rotate_left
         · (intro wq _; first | (go_simp; done) | (go_simp; with_reducible rfl))
         try simp only [List.getElem_toArray, List.getElem_cons_zero, List.getElem_cons_succ, Act.put, List.setIfInBounds_toArray, List.set_cons_zero, List.set_cons_succ]))
  all_goals (
    refine wpAnyH_done (by kernel_rfl) ?_ _
    refine NoPanic.normal ?_
    go_wp2_with (go_at_call 55; have hre := rows_equal a1 a2 c1 c2 _ _ wc HP1.out HP2.out (packs_small HG1.out HN1.out) (packs_small HG2.out HN2.out) (by rw [packsF_len]; have := HLS1.out; omega) (by rw [packsF_len]; have := HLS2.out; omega); rw [packsF_len, packsF_len] at hre; refine hre.mono ?_; rintro E we ⟨rfl, hx⟩; have HXE := Lib.hid hx; clear hx hre)
    rw [HR.out]
    refine ⟨⟨_, rfl, ?_⟩, HX1.out.trans (HK.out.trans HXE.out)⟩
    rw [decide_eq_true_eq]
    exact packs_iff HG1.out HG2.out HN1.out HN2.out)
end Go.Proofs.YtnclibfhbngkjaaGreatDoor
namespace Go.Proofs.YtnclibfhbngkjaaGreatDoor
open Go.RowKit Go.Sort Go.Shelf
theorem own_sort (base : Nat) (a : Option Addr) (c : Nat) (L : List (List UInt8)) (w : World) (hO : OwnS w base a c L) (hb : base ≤ w.heap.size) (hl : L.length ≤ 1099511627776) :
    Calls Tryz.prog 65 #[.slice a L.length c] w fun e w' => e = .returned (.tuple #[]) ∧ OwnS w' base a c (L.mergeSort fun x y => decide (x ≤ y)) ∧ Below base w w' := by
  have hl2 : (L.mergeSort fun x y => decide (x ≤ y)).length = L.length := (List.mergeSort_perm L _).length_eq
  rcases hO.2 with ⟨h1, h2⟩ | ⟨g, c', cur, h1, hbg, hg, hn, hm, hs, ht⟩
  · have h0 : L = [] := List.eq_nil_of_length_eq_zero h2
    subst h0
    refine (AnyM.slices_Sort_string_none Tryz.sort_string a c w).mono ?_
    rintro e w' ⟨he, hw⟩
    subst hw
    exact ⟨he, by simpa using hO, Below.refl _ _⟩
  · obtain ⟨rfl, rfl⟩ : a = some ⟨g, 0, none⟩ ∧ c = c' := by cases h1; exact ⟨rfl, rfl⟩
    have hgl : g < w.heap.size := (Array.getElem?_eq_some_iff.1 hg).1
    rw [Nat.mul_one] at ht
    refine (AnyM.slices_Sort_string Tryz.sort_string g 0 c L w (holds_of_block hg ht) hgl (by omega)).mono ?_
    rintro e w' ⟨he, n, os, hw⟩
    subst hw
    refine ⟨he, ?_, (Below.refl base w).grown (grownBy_sorted _) hb (fun k hk => by cases hk; exact hbg)⟩
    unfold OwnS
    rw [hl2]
    exact ownsRow_sorted hl2 hbg hg hn hm hs
theorem compact_mem (zs : List (List UInt8)) (x : List UInt8) : x ∈ Lib.compact zs ↔ x ∈ zs := by
  have h : ∀ m, m ≤ zs.length → (x ∈ Lib.compactUpTo zs.toArray m ↔ x ∈ zs.take m) := by
    intro m
    induction m with
    | zero => intro _; simp [Lib.compactUpTo]
    | succ m ih =>
      intro hm
      have ihm := ih (by omega)
      have e1 : zs.toArray[m]! = zs[m] := by simp [getElem!_pos, show m < zs.length by omega]
      rw [Lib.compactUpTo_succ, List.mem_append, ihm, List.take_succ_eq_append_getElem (by omega), List.mem_append, e1]
      cases hk : Lib.keeps zs.toArray m with
      | true => simp
      | false =>
        simp only [Bool.false_eq_true, if_false, List.not_mem_nil, or_false, List.mem_singleton]
        constructor
        · exact Or.inl
        · rintro (h | h)
          · exact h
          · subst h
            have : ¬ (m = 0 ∨ zs.toArray[m]! ≠ zs.toArray[m - 1]!) := by
              unfold Lib.keeps at hk
              simpa using hk
            have h0 : m ≠ 0 := fun e => this (Or.inl e)
            have h1 : zs.toArray[m]! = zs.toArray[m - 1]! := Classical.not_not.1 fun e => this (Or.inr e)
            have e2 : zs.toArray[m - 1]! = zs[m - 1] := by simp [getElem!_pos, show m - 1 < zs.length by omega]
            rw [e1, e2] at h1
            rw [h1]
            have hlt : m - 1 < (zs.take m).length := by rw [List.length_take]; omega
            have : (zs.take m)[m - 1] = zs[m - 1] := by simp
            rw [← this]
            exact List.getElem_mem hlt
  have := h zs.length (Nat.le_refl _)
  rwa [List.take_length] at this
theorem strsOf_eq (L : List (List UInt8)) : Lib.strsOf (fun i => bs (L.getD i [])) L.length = L := by
  apply List.ext_getElem
  · simp [Lib.strsOf]
  · intro i h1 h2
    simp [Lib.strsOf, bs_data, List.getD_eq_getElem?_getD, List.getElem?_eq_getElem h2]
theorem compact_one (x : List UInt8) : Lib.compact [x] = [x] := Lib.compact_all _ (fun j hj => Lib.keeps_lt_one _ j (by simpa using hj))
theorem keep_setCells (b : Nat) : ∀ (vs : List Value) (o : Nat) (w : World), Keep (· ≠ b) w (w.setCells b o vs)
  | [], _, _ => Keep.refl _ _
  | v :: vs, o, w => ((Keep.refl _ w).setCell (fun _ h => h) o v).trans (keep_setCells b vs (o + 1) _)
theorem own_compact (base : Nat) (a : Option Addr) (c : Nat) (L : List (List UInt8)) (w : World) (hO : OwnS w base a c L) (hb : base ≤ w.heap.size) (hl : L.length ≤ 1099511627776) :
    Calls Tryz.prog 66 #[.slice a L.length c] w fun e w' => e = .returned (.slice a (Lib.compact L).length c) ∧ Strs w' a (Lib.compact L) ∧ Below base w w' := by
  rcases hO.2 with ⟨h1, h2⟩ | ⟨g, c', cur, h1, hbg, hg, hn, hm, hs, ht⟩
  · have h0 : L = [] := List.eq_nil_of_length_eq_zero h2
    subst h0
    refine (Tryz.slices_Compact_string_empty a c w).mono ?_
    rintro e w' ⟨he, rfl⟩
    exact ⟨he, Or.inl rfl, Below.refl _ _⟩
  · obtain ⟨rfl, rfl⟩ : a = some ⟨g, 0, none⟩ ∧ c = c' := by cases h1; exact ⟨rfl, rfl⟩
    have hgl : g < w.heap.size := (Array.getElem?_eq_some_iff.1 hg).1
    have hc : ∀ i, i < L.length → w.cell? ⟨g, 0 + i, none⟩ = some (.string (bs (L.getD i []))) := by
      intro i hi
      have h := (hO.strs.1).at0 i hi
      rwa [Nat.zero_add]
    refine (Tryz.slices_Compact_string_cells g 0 L.length c (fun i => bs (L.getD i [])) w (by omega) hn hc (fun j _ => by simp [World.frozen?, hg])).mono ?_
    rintro e w' ⟨he, q, hw⟩
    rw [strsOf_eq] at he hw
    subst hw
    have hcl : (Lib.compact L).length ≤ L.length := by
      unfold Lib.compact Lib.compactUpTo
      rw [List.length_map]
      exact Nat.le_trans (List.length_filter_le _ _) (by simp)
    have hkp : Keep (· ≠ g) w ((w.drewN q).setCells g 0 ((Lib.compact L ++ List.replicate (L.length - (Lib.compact L).length) []).map encStr)) := ((Keep.refl _ w).drewN q).trans (keep_setCells g _ _ _)
    refine ⟨he, ?_, ?_⟩
    · refine Or.inr ⟨g, 0, rfl, Nat.lt_of_lt_of_le hgl hkp.size, fun i hi => ?_⟩
      have hlen : ((Lib.compact L ++ List.replicate (L.length - (Lib.compact L).length) []).map encStr).length = L.length := by simp; omega
      have h := World.cell?_setCells_in g ((Lib.compact L ++ List.replicate (L.length - (Lib.compact L).length) []).map encStr) 0 (w.drewN q) (fun j hj => by
        rw [hlen] at hj
        have := hc j hj
        show (w.cell? _).isSome = true
        rw [this]; rfl) i (by rw [hlen]; omega)
      have e : (Lib.compact L).getD i [] = (Lib.compact L)[i] := by simp [List.getD_eq_getElem?_getD, List.getElem?_eq_getElem hi]
      rw [h, List.getElem_map, List.getElem_append_left hi, e]
      rfl
    · exact ⟨hkp.os, hkp.tape, hkp.output, hkp.size, fun k hk => by
        rcases Nat.lt_or_ge k w.heap.size with h | h
        · exact hkp.block k h (by omega)
        · omega⟩
end Go.Proofs.YtnclibfhbngkjaaGreatDoor
