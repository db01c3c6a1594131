/- base.Owner: whose a file is. -/
import Derived.Test.YtnclibfhbngkjaaGreatDoorM3
import Derived.Test.YtnclibfhbngkjaaGreatDoorBaseGet
namespace Go.Proofs.YtnclibfhbngkjaaGreatDoor
open Go.RowKit
attribute [local go_sem ↓] Go.wp_at_zero Go.wp_at_succ
def fileVE (g : FileD) : Value := .agg #[.string (bs g.path), .bool g.config, .int .u32 (le32 g.data : Nat)]
def fileOf (f : BaseF) (p n : By) : Option FileD := ((f n).getD pz).files.find? fun g => decide (g.path = p)
def ownerG (f : BaseF) (p : By) (ss : List By) : Option (By × FileD) := ss.findSome? fun n => (fileOf f p n).map fun g => (n, g)
def ownV (o : Option (By × FileD)) : Value := .tuple #[.string (bs ((o.map Prod.fst).getD [])), fileVE ((o.map Prod.snd).getD fz), .bool o.isSome]
theorem ownerG_name (f : BaseF) (p : By) (ss : List By) : ((ownerG f p ss).map Prod.fst).getD [] = ownerN f ss p := by
  unfold ownerN ownerG
  congr 1
  induction ss with
  | nil => rfl
  | cons n ss ih =>
    rw [List.findSome?_cons, List.find?_cons]
    have h : (fileOf f p n).isSome = hasPath f p n := by
      unfold fileOf hasPath
      rw [Bool.eq_iff_iff, List.any_eq_true, List.find?_isSome]
    cases hp : hasPath f p n with
    | true =>
      rw [hp] at h
      obtain ⟨g, hg⟩ := Option.isSome_iff_exists.1 h
      rw [hg]
      rfl
    | false =>
      rw [hp] at h
      have h0 : fileOf f p n = none := by cases hq : fileOf f p n with
        | none => rfl
        | some x => rw [hq] at h; cases h
      rw [h0]
      exact ih
theorem find_snoc {α : Type} {L : List α} {q : α → Bool} {d : α} {k : Nat} (hk : k < L.length) (h0 : (L.take k).find? q = none) : (L.take (k + 1)).find? q = if q (L.getD k d) then some (L.getD k d) else none := by
  have e : L.getD k d = L[k] := by simp [List.getD_eq_getElem?_getD, List.getElem?_eq_getElem hk]
  rw [List.take_succ_eq_append_getElem hk, List.find?_append, h0, e]
  cases h : q L[k] <;> simp [h]
theorem find_hit {α : Type} {L : List α} {q : α → Bool} {d : α} {k : Nat} (hk : k < L.length) (h0 : (L.take k).find? q = none) (h : q (L.getD k d) = true) : L.find? q = some (L.getD k d) := by
  have h1 : (L.take (k + 1)).find? q = some (L.getD k d) := by rw [find_snoc (d := d) hk h0, if_pos h]
  have h2 : L = L.take (k + 1) ++ L.drop (k + 1) := (List.take_append_drop (k + 1) L).symm
  rw [h2, List.find?_append, h1]
  simp
theorem some_snoc {α β : Type} {L : List α} {q : α → Option β} {d : α} {k : Nat} (hk : k < L.length) (h0 : (L.take k).findSome? q = none) : (L.take (k + 1)).findSome? q = q (L.getD k d) := by
  have e : L.getD k d = L[k] := by simp [List.getD_eq_getElem?_getD, List.getElem?_eq_getElem hk]
  rw [List.take_succ_eq_append_getElem hk, List.findSome?_append, h0, e]
  cases h : q L[k] <;> simp [h]
theorem some_hit {α β : Type} {L : List α} {q : α → Option β} {d : α} {k : Nat} {y : β} (hk : k < L.length) (h0 : (L.take k).findSome? q = none) (h : q (L.getD k d) = some y) : L.findSome? q = some y := by
  have h1 : (L.take (k + 1)).findSome? q = some y := by rw [some_snoc (d := d) hk h0, h]
  have h2 : L = L.take (k + 1) ++ L.drop (k + 1) := (List.take_append_drop (k + 1) L).symm
  rw [h2, List.findSome?_append, h1]
  rfl
theorem field_files (v0 v1 v2 v3 v4 v5 : Value) (W : World) : (Instr.field 37 (.agg #[v0, v1, v2, v3, v4, v5]) 4).run Tryz.prog W = .ok v4 W := by kernel_rfl
theorem field_units (v0 v1 v2 v3 v4 v5 : Value) (W : World) : (Instr.field 37 (.agg #[v0, v1, v2, v3, v4, v5]) 5).run Tryz.prog W = .ok v5 W := by kernel_rfl
theorem set3f {w : World} {R : Nat} {t : TypeId} {a0 a1 a2 : Value} (hg : w.heap[R]? = some (.cells #[a0, a1, a2] t (0, 0))) (v0 v1 v2 : Value) :
    (((w.setCell ⟨R, 0, none⟩ v0).setCell ⟨R, 1, none⟩ v1).setCell ⟨R, 2, none⟩ v2).heap[R]? = some (.cells #[v0, v1, v2] t (0, 0)) ∧ But R w (((w.setCell ⟨R, 0, none⟩ v0).setCell ⟨R, 1, none⟩ v1).setCell ⟨R, 2, none⟩ v2) := by
  refine ⟨?_, (((But.refl R w).setCell 0 _).setCell 1 _).setCell 2 _⟩
  exact setCell_row (setCell_row (setCell_row hg v0) v1) v2
/-- A name of a base has a package, which lies in the map. -/
theorem names_ent {w : World} {v : Value} {N : Nat} {f : BaseF} {ss : List By} {n : By} (hb : BaseM w v N f) (hs : NamesF f ss) (hn : n ∈ ss) : ∃ b A e, v = .agg #[.map (some b)] ∧ EntsM w b N f A ∧ f n = some e := by
  obtain ⟨e, he⟩ := Option.isSome_iff_exists.1 ((hs.2.2 n).1 hn)
  rcases hb with ⟨_, rfl⟩ | ⟨b, A, hv, h⟩
  · cases he
  · exact ⟨b, A, e, hv, h, he⟩
set_option maxRecDepth 100000 in
set_option maxHeartbeats 6400000 in
theorem base_owner (v : Value) (N : Nat) (f : BaseF) (p : By) (w : World) (hb : BaseM w v N f) (hg : GoodF f) (hN : N ≤ 100000) (_hp : p.length ≤ 100000) :
    Calls Tryz.prog 25 #[v, .string (bs p)] w fun e w' => ∃ ss, NamesF f ss ∧ e = .returned (ownV (ownerG f p ss)) ∧ Ext w w' := by
  obtain ⟨R, hR⟩ : ∃ R : Ending → World → Prop, R = fun e w' => ∃ ss, NamesF f ss ∧ e = .returned (ownV (ownerG f p ss)) ∧ Ext w w' := ⟨_, rfl⟩
  rw [← hR]
  have HR := Lib.hid hR; clear hR
  obtain ⟨pm, A0, rfl, _⟩ := hb.parts
  have hx1 : Ext w ((w.alloc (.cells #[.map pm] 42)).alloc (.cells #[.string ⟨#[]⟩, .bool false, .int .u32 0] 71)) := (Ext.alloc _ _).trans (Ext.alloc _ _)
  have hb1 := (Ext.alloc _ (.cells #[.string ⟨#[]⟩, .bool false, .int .u32 0] 71)).heap (heap_alloc_new w (.cells #[.map pm] 42))
  have hr1 := heap_alloc_new (w.alloc (.cells #[.map pm] 42)) (.cells #[.string ⟨#[]⟩, .bool false, .int .u32 0] 71)
  rw [World.size_alloc] at hr1
  go_enter Tryz.func25, Tryz.ntmps25
  go_upto_region 1 with (fail)
  generalize (w.alloc (.cells #[.map pm] 42)).alloc (.cells #[.string ⟨#[]⟩, .bool false, .int .u32 0] 71) = w1 at hx1 hb1 hr1 ⊢
  obtain ⟨BX, hBX⟩ : ∃ x, x = w.heap.size := ⟨_, rfl⟩
  obtain ⟨RS, hRS⟩ : ∃ x, x = w.heap.size + 1 := ⟨_, rfl⟩
  rw [← hRS] at hr1
  rw [← hBX] at hb1
  have HZ : Hid (BX = w.heap.size ∧ RS = w.heap.size + 1) := Lib.hid ⟨hBX, hRS⟩
  rw [← hRS, ← hBX]
  clear hRS hBX
  have p0 := blk_cell hb1 0 (Value.map pm) rfl
  have hw := base_names (.agg #[.map pm]) N f w1 (hb.ext hx1) hN
  have HW := Lib.hid hw; clear hw
  have HB := Lib.hid (hb.ext hx1); clear hb
  have HG := Lib.hid hg; clear hg
  have HX1 := Lib.hid hx1; clear hx1
  have HR1 := Lib.hid hr1; clear hr1
  have HB1 := Lib.hid hb1; clear hb1
  go_upto_region 2 with (first
    | (go_at_call 20; refine HW.out.mono ?_; rintro e w2 ⟨sa, sc, ss, rfl, hss, hown, hsl, hx2⟩; have HSS := Lib.hid hss; clear hss; have HOW := Lib.hid hown.strs.1; clear hown; have HX2 := Lib.hid hx2; clear hx2))
  clear p0 HW
  obtain ⟨n, hn⟩ : ∃ n, n = ss.length := ⟨_, rfl⟩
  rw [← hn] at hsl ⊢
  have HN := Lib.hid hn; clear hn
  go_wp2_with fail
  go_loopw [14] (fun i wr => ∃ k : Nat, i = .int .i64 k ∧ k ≤ n ∧ Hid (ownerG f p (ss.take k) = none) ∧ Hid (Ext w2 wr)) (fun i _ => n - (intOf i).toNat)
  case atStart => exact ⟨0, rfl, Nat.zero_le _, Lib.hid rfl, Lib.hid (Ext.refl _)⟩
  case round =>
    obtain ⟨k, rfl, hk, hF, hX⟩ := hrel
    by_cases hlt : k < n
    · have hkL : k < ss.length := by have := HN.out; omega
      obtain ⟨g, off, rfl, _, hc⟩ := (HOW.out.ext hX.out).at (by intro e; rw [e] at hkL; simp at hkL)
      have c0 := hc k hkL
      clear hc
      obtain ⟨x, hx⟩ : ∃ x, x = ss.getD k [] := ⟨_, rfl⟩
      rw [← hx] at c0
      have hxs : x ∈ ss := by rw [hx, List.getD_eq_getElem?_getD, List.getElem?_eq_getElem hkL]; simp
      have HX := Lib.hid hx; clear hx
      obtain ⟨b, A, e, hv, hE, hfe⟩ := names_ent HB.out HSS.out hxs
      obtain rfl : pm = some b := by simpa using hv
      clear hv
      have hge := HG.out x e hfe
      have hfl := right_lens hge.2.1
      have hxl : x.length ≤ 100000 := by rw [← hge.1]; omega
      have hkey := key_by hxl
      have hml := hE.1.ext (HX2.out.trans hX.out)
      have hen : entF f A x = some (pkgV e (A x)) := by unfold entF; rw [hfe]; rfl
      have hfi := (hE.2 x e hfe).1.files
      have HE := Lib.hid hE; clear hE
      generalize A x = Ax at hen hfi
      obtain ⟨an, ac, af, au, cn, cc, cf, cu⟩ := Ax
      unfold pkgV at hen
      simp only at hen hfi
      have HFI := Lib.hid (hfi.ext (HX2.out.trans hX.out)); clear hfi
      have HFE := Lib.hid hfe; clear hfe
      have hf12 := hfl.2.2.2.1
      clear hge hfl hxs
      have q0 := blk_cell ((HX2.out.trans hX.out).heap HB1.out) 0 (Value.map (some b)) rfl
      have hfd := field_files
      go_wp2_with (first
        | (at_lookup; refine wpList_look_F rfl _ _ 40 rfl 37 str_keyed Tryz.underlying40 _ (Tryz.zeroValue37 _) b N (entF f A) rfl hml _ x rfl hkey ?_; rw [hen, Option.getD_some]; go_frame)
        | go_in)
      clear q0 c0 hml hen hkey hxl hfd
      obtain ⟨wo, rfl⟩ : ∃ wo : World, wo = wr := ⟨_, rfl⟩
      go_loopw [24] (fun i wr => ∃ j : Nat, i = .int .i64 j ∧ j ≤ e.files.length ∧ Hid ((e.files.take j).find? (fun g => decide (g.path = p)) = none) ∧ Hid (Ext wo wr)) (fun i _ => e.files.length - (intOf i).toNat)
      case atStart => exact ⟨0, rfl, Nat.zero_le _, Lib.hid rfl, Lib.hid (Ext.refl _)⟩
      case round =>
        obtain ⟨j, rfl, hj, hFj, hXj⟩ := hrel
        by_cases hjl : j < e.files.length
        · obtain ⟨g2, off2, rfl, _, h1, h2, h3⟩ := (HFI.out.ext hXj.out).at hjl
          obtain ⟨m, hm⟩ : ∃ m, m = e.files.getD j fz := ⟨_, rfl⟩
          rw [← hm] at h1 h2 h3
          obtain ⟨mp, mc, md⟩ := m
          simp only at h1 h2 h3
          have HMM := Lib.hid hm; clear hm
          go_upto_region 7 with (fail)
          clear h1 h2 h3
          have hx4 := Ext.alloc wr (.cells #[.string (bs mp), .bool mc, .int .u32 (le32 md : Nat)] 71)
          have hf4 := heap_alloc_new wr (.cells #[.string (bs mp), .bool mc, .int .u32 (le32 md : Nat)] 71)
          generalize wr.alloc (.cells #[.string (bs mp), .bool mc, .int .u32 (le32 md : Nat)] 71) = w4 at hx4 hf4 ⊢
          obtain ⟨F, hFF⟩ : ∃ x, x = wr.heap.size := ⟨_, rfl⟩
          rw [← hFF] at hf4 ⊢
          have HFF := Lib.hid hFF; clear hFF
          have f0 := blk_cell hf4 0 (Value.string (bs mp)) rfl
          have f1 := blk_cell hf4 1 (Value.bool mc) rfl
          have f2 := blk_cell hf4 2 (Value.int .u32 (le32 md : Nat)) rfl
          have HX4 := Lib.hid (hXj.out.trans hx4); clear hx4 hf4
          by_cases hq : mp = p
          · have hqb := bs_beq_eq hq
            have hr4 := (HX2.out.trans (hX.out.trans HX4.out)).heap HR1.out
            have r0 := blk_cell hr4 0 (Value.string ⟨#[]⟩) rfl
            have r1 := blk_cell hr4 1 (Value.bool false) rfl
            have r2 := blk_cell hr4 2 (Value.int .u32 0) rfl
            have g0 := blk_free hr4 0
            have g1 := blk_free hr4 1
            have g2' := blk_free hr4 2
            have HR4 := Lib.hid hr4; clear hr4
            have HQ := Lib.hid hq; clear hq
            go_wp2_with fail
            go_region
            obtain ⟨hs6, hbut⟩ := set3f HR4.out (.string (bs mp)) (.bool mc) (.int .u32 (le32 md : Nat))
            have HS6 := Lib.hid hs6; clear hs6
            have HBT := Lib.hid hbut; clear hbut r0 r1 r2 g0 g1 g2'
            go_wp2_with fail
            have q0 := blk_cell HS6.out 0 (Value.string (bs mp)) rfl
            have q1 := blk_cell HS6.out 1 (Value.bool mc) rfl
            have q2 := blk_cell HS6.out 2 (Value.int .u32 (le32 md : Nat)) rfl
            refine bodyPost_ret (v := .tuple #[.string (bs x), .agg #[.string (bs mp), .bool mc, .int .u32 (le32 md : Nat)], .bool true]) (by simp [results, Tryz.results25, go_sem, q0, q1, q2]) rfl ?_
            rw [HR.out]
            have hz := HZ.out
            have hrl : RS < w1.heap.size := (Array.getElem?_eq_some_iff.1 HR1.out).1
            have ho : ownerG f p ss = some (x, ⟨mp, mc, md⟩) := by
              unfold ownerG
              refine some_hit (d := []) hkL hF.out ?_
              rw [← HX.out]
              unfold fileOf
              rw [HFE.out, Option.getD_some, find_hit (d := fz) hjl hFj.out (by rw [← HMM.out]; simpa using HQ.out), ← HMM.out]
              rfl
            refine ⟨ss, HSS.out, by rw [ho]; rfl, ?_⟩
            exact (((Keep.of_ext (S := fun j => j < w.heap.size) (HX1.out.trans (HX2.out.trans (hX.out.trans HX4.out)))).andThen (Keep.of_but HBT.out) (fun j hj _ => by show j ≠ RS; omega))).ext_lt.drew
          · have hqb := bs_beq_ne hq
            go_wp2_with fail
            refine ⟨⟨j + 1, by go_num, by omega, Lib.hid ?_, HX4⟩, by simp [intOf]; omega⟩
            rw [find_snoc (d := fz) hjl hFj.out, ← HMM.out, if_neg (by simpa using hq)]
        · obtain rfl : j = e.files.length := by omega
          go_wp2_with fail
          refine ⟨⟨k + 1, by go_num, by omega, Lib.hid ?_, Lib.hid (hX.out.trans hXj.out)⟩, by simp [intOf]; omega⟩
          unfold ownerG
          rw [some_snoc (d := []) hkL hF.out, ← HX.out]
          unfold fileOf
          rw [HFE.out]
          have h := hFj.out
          rw [List.take_length] at h
          simp only [Option.getD_some]
          rw [h]
          rfl
    · obtain rfl : k = n := by omega
      have hrr := (HX2.out.trans hX.out).heap HR1.out
      have r0 := blk_cell hrr 0 (Value.string ⟨#[]⟩) rfl
      have r1 := blk_cell hrr 1 (Value.bool false) rfl
      have r2 := blk_cell hrr 2 (Value.int .u32 0) rfl
      have g0 := blk_free hrr 0
      have g1 := blk_free hrr 1
      have g2' := blk_free hrr 2
      obtain ⟨hs6, hbut⟩ := set3f hrr (.string ⟨#[]⟩) (.bool false) (.int .u32 0)
      have HS6 := Lib.hid hs6; clear hs6
      have HBT := Lib.hid hbut; clear hbut hrr
      go_wp2_with fail
      have q0 := blk_cell HS6.out 0 (Value.string ⟨#[]⟩) rfl
      have q1 := blk_cell HS6.out 1 (Value.bool false) rfl
      have q2 := blk_cell HS6.out 2 (Value.int .u32 0) rfl
      refine bodyPost_ret (v := .tuple #[.string ⟨#[]⟩, .agg #[.string ⟨#[]⟩, .bool false, .int .u32 0], .bool false]) (by simp [results, Tryz.results25, go_sem, q0, q1, q2]) rfl ?_
      rw [HR.out]
      have hz := HZ.out
      have hrl : RS < w1.heap.size := (Array.getElem?_eq_some_iff.1 HR1.out).1
      have hF2 := hF.out
      rw [List.take_of_length_le (by have := HN.out; omega)] at hF2
      refine ⟨ss, HSS.out, by rw [hF2]; rfl, ?_⟩
      exact (((Keep.of_ext (S := fun j => j < w.heap.size) (HX1.out.trans (HX2.out.trans hX.out))).andThen (Keep.of_but HBT.out) (fun j hj _ => by show j ≠ RS; omega))).ext_lt
end Go.Proofs.YtnclibfhbngkjaaGreatDoor
