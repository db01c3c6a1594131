/- base.Pack: a base's bytes, one row for each package; base.Same. -/
import Derived.Test.YtnclibfhbngkjaaGreatDoorBaseParts
import Derived.Test.YtnclibfhbngkjaaGreatDoorBaseFit
import Derived.Test.YtnclibfhbngkjaaGreatDoorByRows
import Derived.Test.YtnclibfhbngkjaaGreatDoorBaseOwner
import Derived.Test.YtnclibfhbngkjaaGreatDoorRowsEq
import Derived.Test.YtnclibfhbngkjaaGreatDoorPackAll
namespace Go.Proofs.YtnclibfhbngkjaaGreatDoor
open Go.RowKit
attribute [local go_sem ↓] Go.wp_at_zero Go.wp_at_succ
/-- What Pack answers. -/
def PacksR (N : Nat) (f : BaseF) (w : World) (e : Ending) (w' : World) : Prop :=
  ∃ a c ss, e = .returned (.slice a ss.length c) ∧ NamesF f ss ∧ Parts w' a (packsF f ss) ∧ ss.length ≤ N ∧ Ext w w'
theorem packsF_len (f : BaseF) (ss : List By) : (packsF f ss).length = ss.length := List.length_map _
theorem packsF_take {f : BaseF} {ss : List By} {k : Nat} {x : By} {e : PkgD} (hk : k < ss.length) (hx : x = ss.getD k []) (he : f x = some e) : packsF f (ss.take (k + 1)) = packsF f (ss.take k) ++ [packE e] := by
  have e1 : ss[k] = x := by rw [hx]; simp [List.getD_eq_getElem?_getD, List.getElem?_eq_getElem hk]
  unfold packsF
  rw [List.take_succ_eq_append_getElem hk, List.map_append, e1, List.map_singleton, he]
  rfl
set_option maxRecDepth 100000 in
set_option maxHeartbeats 6400000 in
theorem base_pack (v : Value) (N : Nat) (f : BaseF) (w : World) (hb : BaseM w v N f) (hg : GoodF f) (hN : N ≤ 100000) :
    Calls Tryz.prog 15 #[v] w (PacksR N f w) := by
  obtain ⟨R, hR⟩ : ∃ R, R = PacksR N f w := ⟨_, rfl⟩
  rw [← hR]
  have HR := Lib.hid hR; clear hR
  obtain ⟨pm, A0, rfl, _⟩ := hb.parts
  have hx1 := Ext.alloc w (.cells #[.map pm] 42)
  have hb1 := heap_alloc_new w (.cells #[.map pm] 42)
  go_enter Tryz.func15, Tryz.ntmps15
  go_upto_region 1 with (fail)
  generalize w.alloc (.cells #[.map pm] 42) = w1 at hx1 hb1 ⊢
  obtain ⟨BX, hBX⟩ : ∃ x, x = w.heap.size := ⟨_, rfl⟩
  rw [← hBX] at hb1 ⊢
  clear hBX
  have p0 := blk_cell hb1 0 (Value.map pm) rfl
  have hw := base_names (.agg #[.map pm]) N f w1 (hb.ext hx1) hN
  have HW := Lib.hid hw; clear hw
  have HB := Lib.hid (hb.ext hx1); clear hb
  have HG := Lib.hid hg; clear hg
  have HX1 := Lib.hid hx1; clear hx1
  have HB1 := Lib.hid hb1; clear hb1
  go_wp2_with (go_at_call 20; refine HW.out.mono ?_; rintro e w2 ⟨sa, sc, ss, rfl, hss, hown, hsl, hx2⟩; have HSS := Lib.hid hss; clear hss; have HOW := Lib.hid hown.strs.1; clear hown; have HX2 := Lib.hid hx2; clear hx2)
  clear p0 HW
  obtain ⟨n, hn⟩ : ∃ n, n = ss.length := ⟨_, rfl⟩
  rw [← hn] at hsl ⊢
  have HN := Lib.hid hn; clear hn
  go_loopw [3, 9] (fun v i wr => ∃ (D : List By) (a2 : Option Addr) (cap k : Nat), v = .slice a2 D.length cap ∧ i = .int .i64 k ∧ k ≤ n ∧ Hid (D = packsF f (ss.take k)) ∧ Hid (OwnR wr w2.heap.size a2 cap D) ∧ Hid (Ext w2 wr)) (fun _ i _ => n - (intOf i).toNat)
  case atStart => exact ⟨[], none, 0, 0, rfl, rfl, Nat.zero_le _, Lib.hid rfl, Lib.hid (OwnR.nil _ _), Lib.hid (Ext.refl _)⟩
  case round =>
    obtain ⟨D, a2, cap, k, rfl, rfl, hk, hD, hown, hX⟩ := hrel
    have hDl : D.length ≤ n := by
      rw [hD.out, packsF_len, List.length_take, ← HN.out]
      omega
    by_cases hlt : k < n
    · have hkL : k < ss.length := by have := HN.out; omega
      obtain ⟨g, off, rfl, _, hc⟩ := (HOW.out.ext hX.out).at (by intro e; rw [e] at hkL; simp at hkL)
      have c0 := hc k hkL
      clear hc
      obtain ⟨x, hx⟩ : ∃ x, x = ss.getD k [] := ⟨_, rfl⟩
      rw [← hx] at c0
      have hxs : x ∈ ss := by rw [hx, List.getD_eq_getElem?_getD, List.getElem?_eq_getElem hkL]; simp
      have HX := Lib.hid hx; clear hx
      obtain ⟨b, A, e, hv, hE, hfe⟩ := names_ent HB.out HSS.out hxs
      obtain rfl : pm = some b := by simpa using hv
      clear hv
      have hge := HG.out x e hfe
      have hfl := right_lens hge.2.1
      have hxl : x.length ≤ 100000 := by rw [← hge.1]; omega
      have hkey := key_by hxl
      have hml := hE.1.ext (HX2.out.trans hX.out)
      have hen : entF f A x = some (pkgV e (A x)) := by unfold entF; rw [hfe]; rfl
      have hem := (hE.2 x e hfe).1.ext (HX2.out.trans hX.out)
      generalize A x = Ax at hen hem
      obtain ⟨an, ac, af, au, cn, cc, cf, cu⟩ := Ax
      unfold pkgV at hen
      simp only at hen
      have hpt := base_parts0 e an ac af au cn cc cf cu wr hem (FitP.of_right hge.2.1) hge.2.2
      have hpl : (partsE e).flatten.length ≤ 4000 := (packE_len hge.2.1 hge.2.2).1
      have HPT := Lib.hid hpt; clear hpt hem
      obtain ⟨B, hBB⟩ : ∃ B, B = (partsE e).flatten := ⟨_, rfl⟩
      rw [← hBB] at hpl
      have HBB := Lib.hid hBB; clear hBB
      have HFE := Lib.hid hfe; clear hfe
      clear hge hfl hxs hE
      have q0 := blk_cell ((HX2.out.trans hX.out).heap HB1.out) 0 (Value.map (some b)) rfl
      go_wp2_with (first
        | (at_lookup; refine wpList_look_F rfl _ _ 40 rfl 37 str_keyed Tryz.underlying40 _ (Tryz.zeroValue37 _) b N (entF f A) rfl hml _ x rfl hkey ?_; rw [hen, Option.getD_some]; go_frame)
        | (go_at_call 54; refine HPT.out.mono ?_; rintro E w3 ⟨pa, pc, rfl, hps, hx3⟩; have hpk := rec_pack pa pc (partsE e) w3 hps (by rw [← HBB.out]; omega) (by simp [partsE]); rw [← HBB.out] at hpk; have HPK := Lib.hid hpk; have HX3 := Lib.hid hx3; clear hpk hps hx3)
        | (go_at_call 53; refine HPK.out.mono ?_; rintro E w4 ⟨pb, pd, rfl, hob, hx4⟩; have hrn := row_one hown.out HX3.out hob; have HRN := Lib.hid hrn; have HX4 := Lib.hid (HX3.out.trans hx4); clear hrn hob hx4)
        | (at_builtin; refine append_rows rfl _ _ rfl w2.heap.size a2 cap D rfl ((hown.out.ext HX4.out).ext (Ext.alloc _ _)) [.slice pb B.length pd] [B] w4.heap.size 1 rfl rfl (heap_alloc_new w4 _) (HRN.out.keep (Keep.of_ext (Ext.alloc _ _))) (by omega) (by omega) ?_ ?_; (have hs3 := HX4.out.size; have hs2 := hX.out.size; simp; omega); intro g1 cap1 w5 hown4 hk4 hb4)
        | go_in)
      have hsx := HX4.out.size
      have hs2 := hX.out.size
      refine ⟨⟨D ++ [B], some ⟨g1, 0, none⟩, cap1, k + 1, by simp, by go_num, by omega, Lib.hid (by rw [hD.out, packsF_take hkL HX.out HFE.out, HBB.out]; rfl), Lib.hid hown4, Lib.hid (Ext.of_below' (hX.out.trans (HX4.out.trans (Ext.alloc w4 _))) hb4)⟩, by simp [intOf]; omega⟩
    · obtain rfl : k = n := by omega
      go_wp2_with fail
      rw [HR.out]
      have hD2 := hD.out
      rw [List.take_of_length_le (by have := HN.out; omega)] at hD2
      refine ⟨a2, cap, ss, ?_, HSS.out, by rw [← hD2]; exact hown.out.parts, by rw [← HN.out]; exact hsl, HX1.out.trans (HX2.out.trans hX.out)⟩
      rw [hD2, packsF_len]
      rfl
end Go.Proofs.YtnclibfhbngkjaaGreatDoor
