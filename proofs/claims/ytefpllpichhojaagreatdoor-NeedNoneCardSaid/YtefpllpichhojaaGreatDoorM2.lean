/- Several texts of mine, one behind the other: MgrIn, NeedHit, NeedPlain, MapClear, MgrMore. -/
import Derived.Test.YtefpllpichhojaaGreatDoorMgrSys
import Derived.Shelf.SlIter.Nil
import Derived.Shelf.SortM.Plain
import Derived.Shelf.SortM.SortNone
import Derived.Shelf.AbstractIn
import Derived.Test.YtefpllpichhojaaGreatDoorNeedOf
import Derived.Test.YtefpllpichhojaaGreatDoorM6
import Derived.Test.YtefpllpichhojaaGreatDoorM5
import Derived.Test.YtefpllpichhojaaGreatDoorM3
namespace Go.Proofs.YtefpllpichhojaaGreatDoor
open Go.RowKit Go.Maps Go.Sort Go.Shelf
variable [Low]
section
variable {X : Nat → Prop} {w w' : World} {mb tb gb lm N vb db kb n off top : Nat} {q : Int} {la : Option Addr} {lc : Nat} {M : MgrD} {A : Bs → StA} {S : SysD}
omit [Low] in
theorem contains_i (a : Option Addr) (c : Nat) (L : List Int) (x : Int) (w : World) (hS : RunM w a (intV L)) (hl : L.length ≤ 1000) :
 Calls Tryz.prog 103 #[.slice a L.length c, .int .i64 x] w fun e w' => e = .returned (.bool (decide (x ∈ L))) ∧ Ext w w' := by
 rcases hS with h | ⟨g, off, ha, _, hc⟩
 · have hL : L = [] := by simpa [intV] using h
   subst hL
   refine (Tryz.slices_Contains_int_empty a c x w).mono ?_
   rintro e w' ⟨he, rfl⟩
   exact ⟨by rw [he]; simp, Ext.refl _⟩
 · subst ha
   refine (Tryz.slices_Contains_int g off L.length c L x w (Nat.le_refl _) (by omega) (fun j hj => by
    rw [hc j (.int .i64 L[j]) (by unfold intV; rw [List.getElem?_map, List.getElem?_eq_getElem hj]; rfl)]
    simp [List.getD_eq_getElem?_getD, hj])).mono ?_
   rintro e w' ⟨he, rfl⟩
   refine ⟨?_, Ext.refl _⟩
   rw [he, List.take_length]
   congr 2
   rw [Bool.eq_iff_iff, decide_eq_true_eq]
   exact List.contains_iff_mem
set_option maxRecDepth 100000 in
set_option maxHeartbeats 6400000 in
theorem mgr_In (h : MgrB X w mb tb gb lm N la lc M A) (hN : N ≤ 1000000) (a : Option Addr) (c : Nat) (L : List Int) (hL : RunM w a (intV L)) (hl : L.length ≤ 1000) :
 Calls Tryz.prog 60 #[.pointer (some ⟨mb, 0, none⟩), .slice a L.length c] w (InR M L w) := by
 obtain ⟨R, hR⟩ : ∃ R, R = InR M L w := ⟨_, rfl⟩
 rw [← hR]
 have HR := Lib.hid hR; clear hR
 have c2 := blk_cell h.top 2 (.map (some lm)) rfl
 obtain ⟨D, h1, h2, h3⟩ := h.map
 have hsz := h1.size_le
 have hbl := h1.lt
 have hseq : SeqGives Fence.wide 2 Tryz.prog 147 #[.pointer (some ⟨w.heap.size, 0, none⟩)] encStr (fun ss => ss.Perm (strKeys D)) (Maps.size D) (w.alloc (.cells #[.map (some lm)] 103)) :=
  AnyZ.keys_gives (ρ := Tryz.keys_mgr_state_ren) { Tryz.keys_mgr_state with } Fence.wide _ trivial rfl (by omega) w.heap.size lm N D _ (by simp) (by simp) (by
   obtain ⟨es, clock, hb, Ft, hs, hD⟩ := h1
   exact ⟨es, clock, (Below.heap_alloc _ _ lm hbl).trans hb, Ft, hs, hD⟩)
 have cK : ∀ mb W, CallsIn Fence.wide 5 Tryz.prog 102 #[.map mb] W fun e w' => e = .returned (.func (.func 147) #[] #[.pointer (some ⟨W.heap.size, 0, none⟩)]) ∧ w' = W.alloc (.cells #[.map mb] 103) := fun mb W => AnyZ.keys_in Tryz.keys_mgr_state Fence.wide 5 trivial rfl mb W
 have cS := AnyZ.sorted_in Tryz.sorted_string Fence.wide 5 trivial trivial trivial trivial rfl (by omega) (sorts_strs _) (enters_of Tryz.func145 (by kernel_rfl) rfl) 147 #[.pointer (some ⟨w.heap.size, 0, none⟩)] trivial (enters_of Tryz.func147 (by kernel_rfl) rfl) _ _ (by unfold maxLen; omega) (by omega) _ hseq
 change CallsIn _ _ Tryz.prog 100 _ _ _ at cS
 have cK2 := Lib.hid fun mb W => callsIn_wide.1 (cK mb W)
 have cS2 := Lib.hid (callsIn_wide.1 cS)
 have hones : ∀ ss : List Bs, ss.Perm (strKeys D) → OnesM M (ss.mergeSort leB) := fun ss hp => onesM_sorted h1 (fun x => (h3 x).2) hp
 have HI := Lib.hid hones; have HH := Lib.hid h; have HL := Lib.hid hL
 have hlen : ∀ ss : List Bs, ss.Perm (strKeys D) → ss.length ≤ 1000000 := fun ss hp => by
  have e : Maps.size D = (strKeys D).length := by
   obtain ⟨es, hD, _⟩ := h1.entries str_keyed
   subst hD
   rw [Maps.size_eq]
   show es.length = (es.map fun p => strOf p.1).length
   simp
  rw [hp.length_eq, ← e]
  omega
 have HLEN := Lib.hid hlen
 clear h1 h2 h3 hsz hbl hseq cK cS hones h hL hlen
 go_enter Tryz.func60, Tryz.ntmps60
 go_wp2_with (first
  | (go_at_call 102; refine (cK2.out _ _).mono ?_; rintro e w1 ⟨rfl, rfl⟩)
  | (go_at_call 100; refine Hid.out ?_))
 refine Lib.hid ?_
 refine cS2.out.mono ?_
 rintro e w2 ⟨v, ss, rfl, hS, hrow, hnil, hb⟩
 have hones := HI.out ss hS
 have hslen := HLEN.out ss hS
 have hrow' := ownsRow_base_a (base' := w.heap.size) hrow (by simp)
 have hbb : Ext w w2 := ((Below.refl _ w).alloc (Nat.le_refl _) _).trans (hb.mono (by simp))
 obtain ⟨T, hT⟩ : ∃ T, T = ss.mergeSort leB := ⟨_, rfl⟩
 have hl2 : ss.length = T.length := by rw [hT]; exact (List.mergeSort_perm ss _).length_eq.symm
 have hi2 : (ss.mergeSort fun x y => decide (x ≤ y)) = T := hT.symm
 rw [hi2, hl2] at hrow'
 rw [← hT] at hones
 rw [hl2] at hslen
 have hv : ∃ ta tc, v = .slice ta T.length tc := by
  rcases hrow'.2 with ⟨q1, q2⟩ | ⟨g, c, cur, q1, _⟩
  · exact ⟨none, 0, by rw [q1, q2]⟩
  · exact ⟨_, c, q1⟩
 obtain ⟨ta, tc, rfl⟩ := hv
 have HROW : Hid (OwnS w2 w.heap.size ta tc T) := Lib.hid hrow'
 have HON := Lib.hid hones; have HX2 := Lib.hid hbb
 clear hrow hrow' hones hbb hT hl2 hi2 hnil hb hS c2
 go_wp2_with fail
 go_loopw [5, 15] (fun o i wr => ∃ (k : Nat) (oa : Option Addr) (oc : Nat), i = .int .i64 k ∧ k ≤ T.length ∧ o = .slice oa ((T.take k).filter (inL M L)).length oc ∧ Hid (OwnS wr w2.heap.size oa oc ((T.take k).filter (inL M L))) ∧ Hid (Ext w2 wr)) (fun _ i _ => T.length - (intOf i).toNat)
 case atStart => exact ⟨0, none, 0, rfl, Nat.zero_le _, rfl, Lib.hid (OwnS.nil _ _), Lib.hid (Ext.refl _)⟩
 case round =>
  obtain ⟨k, oa, oc, rfl, hk, rfl, hO, hx⟩ := hrel
  by_cases hlt : k < T.length
  · obtain ⟨tg, rfl, _, _, _, _, htcell⟩ := HROW.out.cells (fun e => by rw [e] at hlt; simp at hlt)
    have q0 := hx.out.cell (htcell k hlt)
    obtain ⟨m, hm⟩ : ∃ m, m = T.getD k [] := ⟨_, rfl⟩
    have hmem : m ∈ T := by rw [hm]; exact mem_getDB hlt
    have htk : T.take (k + 1) = T.take k ++ [m] := by rw [take_snocB hlt, hm]
    rw [← hm] at q0
    obtain ⟨s, hs⟩ := Option.isSome_iff_exists.1 ((HON.out.2.2 m).1 hmem)
    have hh := HH.out.ext (HX2.out.trans hx.out)
    have hst := hh.st m s hs
    have c2 := blk_cell hh.top 2 (.map (some lm)) rfl
    have hlk := hh.map.lookup str_keyed Tryz.underlying103 (Tryz.zeroValue153 wr) (key_by (hh.small m s hs))
    rw [stF_some hs] at hlk
    dsimp only [Option.getD] at hlk
    have c0 := blk_cell hst.1 0 (.int .i64 (s.st : Nat)) rfl
    have hct := contains_i a c L (s.st : Nat) wr (RunM.ext HL.out (HX2.out.trans hx.out)) hl
    have hin : inL M L m = decide (((s.st : Nat) : Int) ∈ L) := by unfold inL; rw [stM_some hs]
    obtain ⟨fl, hfl⟩ : ∃ fl, fl = (T.take k).filter (inL M L) := ⟨_, rfl⟩
    have hflk : fl.length ≤ k := by rw [hfl]; exact Nat.le_trans (List.length_filter_le _ _) (by rw [List.length_take]; omega)
    rw [← hfl] at hO ⊢
    have HTK := Lib.hid htk; have HFL := Lib.hid hfl
    clear hmem htk hst htcell hm hh hfl hs
    cases hb : decide (((s.st : Nat) : Int) ∈ L) with
    | false =>
      rw [hb] at hct hin
      have HCT := Lib.hid hct; have HIN := Lib.hid hin
      clear hct hin hb
      go_wp2_with (go_at_call 103; refine HCT.out.mono ?_; rintro e w4 ⟨rfl, hx4⟩; have HX4 := Lib.hid hx4; clear hx4)
      go_roundw
      case rel =>
       have e : (T.take (k + 1)).filter (inL M L) = fl := by rw [HTK.out, List.filter_append, List.filter_cons, HIN.out, ← HFL.out]; simp
       exact ⟨k + 1, oa, oc, by go_num, by omega, by rw [e], Lib.hid (by rw [e]; exact hO.out.ext HX4.out), Lib.hid (hx.out.trans HX4.out)⟩
      case measure => simp [intOf]; omega
    | true =>
      rw [hb] at hct hin
      have HCT := Lib.hid hct; have HIN := Lib.hid hin
      clear hct hin hb
      go_wp2_with (first
       | (go_at_call 103; refine HCT.out.mono ?_; rintro e w4 ⟨rfl, hx4⟩; have HX4 := Lib.hid hx4; clear hx4)
       | (at_builtin; refine append_text rfl _ _ rfl w2.heap.size oa oc fl m rfl (hO.out.ext HX4.out) rfl (by omega) ((hx.out.trans HX4.out).size) ?_; intro g5 oc5 w5 hO5 hb5; have HO5 := Lib.hid hO5; have HX5 := Lib.hid (Ext.of_below' (hx.out.trans HX4.out) hb5); clear hO5 hb5))
      go_roundw
      case rel =>
       have e : (T.take (k + 1)).filter (inL M L) = fl ++ [m] := by rw [HTK.out, List.filter_append, List.filter_cons, HIN.out, ← HFL.out]; simp
       exact ⟨k + 1, some ⟨g5, 0, none⟩, oc5, by go_num, by omega, by rw [e, List.length_append]; rfl, Lib.hid (by rw [e]; exact HO5.out), HX5⟩
      case measure => simp [intOf]; omega
  · have hkk : k = T.length := by omega
    subst hkk
    have hO2 := hO.out
    rw [List.take_length] at hO2
    have HO2 := Lib.hid hO2
    rw [List.take_length]
    clear hO2 hO
    go_wp2_with fail
    rw [HR.out]
    exact ⟨T, HON.out, oa, oc, rfl, HO2.out.base2 HX2.out.size, (OwnS.strs HO2.out).2, HX2.out.trans hx.out⟩
end
end Go.Proofs.YtefpllpichhojaaGreatDoor
namespace Go.Proofs.YtefpllpichhojaaGreatDoor
open Go.RowKit
variable [Low]
section
variable {X : Nat → Prop} {w w' : World} {mb tb gb lm N vb db kb n off top : Nat} {q : Int} {la : Option Addr} {lc : Nat} {A : Bs → StA} {S : SysD}
def hitL (S : SysD) (ss : List Bs) : List Bs := (ss.filter (inL S.M [1, 2, 3])).filter (ofM S)
theorem SysB.ofOk (h : SysB X w mb tb vb gb db kb n N off top q lm la lc A S) (hN : N ≤ 1000000) (hf : ∀ z s, S.M.list z = some s → s.files.length ≤ 1000) (m : Bs) : (stM S.M m).files.length ≤ 1000 ∧ 0 ≤ (stM S.M m).pid ∧ (stM S.M m).pid ≤ 1000000 := by
 cases hm : S.M.list m with
 | none => rw [stM_none hm]; exact ⟨Nat.zero_le _, by decide, by decide⟩
 | some s =>
   rw [stM_some hm]
   obtain ⟨_, _, _, _, h1, h2⟩ := h.1.st m s hm
   exact ⟨hf m s hm, h1, by omega⟩
set_option maxRecDepth 100000 in
set_option maxHeartbeats 6400000 in
theorem need_Hit (hE : Env w) (h : SysB X w mb tb vb gb db kb n N off top q lm la lc A S) (hN : N ≤ 1000000) (hf : ∀ z s, S.M.list z = some s → s.files.length ≤ 1000) (hfew : ∀ ss, OnesM S.M ss → ss.length ≤ 1000) :
 Calls Tryz.prog 30 #[.pointer (some ⟨vb, 0, none⟩), .pointer (some ⟨mb, 0, none⟩)] w fun e w' => ∃ ss, OnesM S.M ss ∧ NamesG (hitL S ss) w e w' := by
 obtain ⟨R, hR⟩ : ∃ R : Ending → World → Prop, R = fun e w' => ∃ ss, OnesM S.M ss ∧ NamesG (hitL S ss) w e w' := ⟨_, rfl⟩
 rw [← hR]
 have HR := Lib.hid hR; clear hR
 have hbk := Ext.alloc w (.cells #[.int .i64 1, .int .i64 2, .int .i64 3] 3)
 have hin := mgr_In ((h.ext hbk).1) hN (some ⟨w.heap.size, 0, none⟩) 3 [1, 2, 3] (Or.inr ⟨w.heap.size, 0, rfl, by simp, fun i v hi => by
  have hb := heap_alloc_new w (.cells #[.int .i64 1, .int .i64 2, .int .i64 3] 3)
  rw [Nat.zero_add]
  exact blk_cell hb i v (by rw [← hi]; simp [intV])⟩) (by decide)
 have HIN := Lib.hid hin; have HBK := Lib.hid hbk
 have HH := Lib.hid h; have HE := Lib.hid hE; have HN := Lib.hid hN; have HF := Lib.hid hf; have HW := Lib.hid hfew
 clear hin hbk h hE hN hf hfew
 go_enter Tryz.func30, Tryz.ntmps30
 go_wp2_with (go_at_call 60; refine Hid.out ?_)
 refine Lib.hid ?_
 refine HIN.out.mono ?_
 rintro E w2 ⟨ss, hss, oa0, oc0, rfl, hO0, hS0, hx0⟩
 obtain ⟨T, hT⟩ : ∃ T, T = ss.filter (inL S.M [1, 2, 3]) := ⟨_, rfl⟩
 have htl : T.length ≤ 1000 := by rw [hT]; exact Nat.le_trans (List.length_filter_le _ _) (HW.out ss hss)
 have htm : ∀ z ∈ T, z.length ≤ 100000 := fun z hz => by
  rw [hT] at hz
  obtain ⟨s, hs⟩ := Option.isSome_iff_exists.1 ((hss.2.2 z).1 (List.mem_filter.1 hz).1)
  exact HH.out.1.small z s hs
 have hhit : hitL S ss = T.filter (ofM S) := by unfold hitL; rw [hT]
 rw [← hT] at hO0 hS0 ⊢
 have HSS := Lib.hid hss; have HROW := Lib.hid hO0; have HX2 := Lib.hid (HBK.out.trans hx0); have HTM := Lib.hid htm; have HHIT := Lib.hid hhit
 clear hss hO0 hS0 hx0 htm hhit hT HIN HBK HW
 go_wp2_with fail
 go_loopw [5, 12] (fun o i wr => ∃ (k : Nat) (oa : Option Addr) (oc : Nat), i = .int .i64 k ∧ k ≤ T.length ∧ o = .slice oa ((T.take k).filter (ofM S)).length oc ∧ Hid (OwnS wr w2.heap.size oa oc ((T.take k).filter (ofM S))) ∧ Hid (Ext w2 wr)) (fun _ i _ => T.length - (intOf i).toNat)
 case atStart => exact ⟨0, none, 0, rfl, Nat.zero_le _, rfl, Lib.hid (OwnS.nil _ _), Lib.hid (Ext.refl _)⟩
 case round =>
  obtain ⟨k, oa, oc, rfl, hk, rfl, hO, hx⟩ := hrel
  by_cases hlt : k < T.length
  · obtain ⟨tg, rfl, _, _, _, _, htcell⟩ := HROW.out.cells (fun e => by rw [e] at hlt; simp at hlt)
    have q0 := hx.out.cell (htcell k hlt)
    obtain ⟨m, hm⟩ : ∃ m, m = T.getD k [] := ⟨_, rfl⟩
    have hmem : m ∈ T := by rw [hm]; exact mem_getDB hlt
    have htk : T.take (k + 1) = T.take k ++ [m] := by rw [take_snocB hlt, hm]
    rw [← hm] at q0
    have hh := HH.out.ext (HX2.out.trans hx.out)
    obtain ⟨o1, o2⟩ := hh.ofOk HN.out HF.out m
    have hof := need_Of (HE.out.ext (HX2.out.trans hx.out)) hh HN.out m (HTM.out m hmem) o1 o2
    obtain ⟨fl, hfl⟩ : ∃ fl, fl = (T.take k).filter (ofM S) := ⟨_, rfl⟩
    have hflk : fl.length ≤ k := by rw [hfl]; exact Nat.le_trans (List.length_filter_le _ _) (by rw [List.length_take]; omega)
    rw [← hfl] at hO ⊢
    have HTK := Lib.hid htk; have HFL := Lib.hid hfl
    obtain ⟨b, hb⟩ : ∃ b, b = ofM S m := ⟨_, rfl⟩
    rw [← hb] at hof
    have HOF := Lib.hid hof; have HB := Lib.hid hb
    clear hmem htk htcell hm hh hfl hof o1 o2 hb
    cases b with
    | false =>
      go_wp2_with (go_at_call 31; refine HOF.out.mono ?_; rintro e w4 ⟨rfl, hx4⟩; have HX4 := Lib.hid hx4; clear hx4)
      go_roundw
      case rel =>
       have e : (T.take (k + 1)).filter (ofM S) = fl := by rw [HTK.out, List.filter_append, List.filter_cons, ← HB.out, ← HFL.out]; simp
       exact ⟨k + 1, oa, oc, by go_num, by omega, by rw [e], Lib.hid (by rw [e]; exact hO.out.ext HX4.out), Lib.hid (hx.out.trans HX4.out)⟩
      case measure => simp [intOf]; omega
    | true =>
      go_wp2_with (first
       | (go_at_call 31; refine HOF.out.mono ?_; rintro e w4 ⟨rfl, hx4⟩; have HX4 := Lib.hid hx4; clear hx4)
       | (at_builtin; refine append_text rfl _ _ rfl w2.heap.size oa oc fl m rfl (hO.out.ext HX4.out) rfl (by omega) ((hx.out.trans HX4.out).size) ?_; intro g5 oc5 w5 hO5 hb5; have HO5 := Lib.hid hO5; have HX5 := Lib.hid (Ext.of_below' (hx.out.trans HX4.out) hb5); clear hO5 hb5))
      go_roundw
      case rel =>
       have e : (T.take (k + 1)).filter (ofM S) = fl ++ [m] := by rw [HTK.out, List.filter_append, List.filter_cons, ← HB.out, ← HFL.out]; simp
       exact ⟨k + 1, some ⟨g5, 0, none⟩, oc5, by go_num, by omega, by rw [e, List.length_append]; rfl, Lib.hid (by rw [e]; exact HO5.out), HX5⟩
      case measure => simp [intOf]; omega
  · have hkk : k = T.length := by omega
    subst hkk
    have hO2 := hO.out
    rw [List.take_length] at hO2
    have HO2 := Lib.hid hO2
    rw [List.take_length]
    clear hO2 hO
    go_wp2_with fail
    rw [HR.out]
    refine ⟨ss, HSS.out, ?_⟩
    rw [HHIT.out]
    exact ⟨oa, oc, rfl, HO2.out.base2 HX2.out.size, (OwnS.strs HO2.out).2, HX2.out.trans hx.out⟩
end
end Go.Proofs.YtefpllpichhojaaGreatDoor
namespace Go.Proofs.YtefpllpichhojaaGreatDoor
theorem startM_list (U : List UnitD) (S : SysD) (n z : Bs) (h : z ≠ n) : (startM U S n).1.M.list z = S.M.list z := by
 unfold startM
 split
 · rfl
 split
 · rfl
 split
 · rfl
 split
 · exact if_neg h
 · exact if_neg h
theorem startM_log (U : List UnitD) (S : SysD) (n : Bs) : (startM U S n).1.M.log.length ≤ S.M.log.length + 1 := by
 unfold startM
 split
 · exact Nat.le_succ _
 split
 · exact Nat.le_succ _
 split
 · exact Nat.le_succ _
 split <;> (show (S.M.log ++ _).length ≤ _; simp)
theorem startM_files (U : List UnitD) (S : SysD) (n : Bs) (B : Nat) (hU : ∀ u ∈ U, u.files.length ≤ B) (h : ∀ z s, S.M.list z = some s → s.files.length ≤ B) : ∀ z s, (startM U S n).1.M.list z = some s → s.files.length ≤ B := by
 intro z s hz
 by_cases e : z = n
 · subst e
   unfold startM at hz
   split at hz
   · exact h z s hz
   split at hz
   · exact h z s hz
   split at hz
   · exact h z s hz
   rename_i u hu _ _
   split at hz
   · have : some ⟨1, (spawnF S.F S.P z u.files).2.1, u.files, 0⟩ = some s := by rw [← hz]; exact (if_pos rfl).symm
     injection this with this
     rw [← this]
     exact hU u (getU_some hu).1
   · have : some failD = some s := by rw [← hz]; exact (if_pos rfl).symm
     injection this with this
     rw [← this]
     exact Nat.zero_le _
 · rw [startM_list U S n z e] at hz
   exact h z s hz
theorem nodup_len {α : Type} [DecidableEq α] : ∀ (L M : List α), L.Nodup → (∀ x ∈ L, x ∈ M) → L.length ≤ M.length
 | [], _, _, _ => Nat.zero_le _
 | x :: L, M, hn, hs => by
   rw [List.nodup_cons] at hn
   have h1 := nodup_len L (M.erase x) hn.2 (fun y hy => (List.mem_erase_of_ne (fun e => hn.1 (by rw [← e]; exact hy))).2 (hs y (List.mem_cons_of_mem _ hy)))
   have h2 := List.length_erase_of_mem (hs x List.mem_cons_self)
   have h3 := List.length_pos_of_mem (hs x List.mem_cons_self)
   rw [List.length_cons]
   omega
theorem ones_few {M : MgrD} {L : List Bs} (h : ∀ z, M.list z ≠ none → z ∈ L) {ss : List Bs} (hs : OnesM M ss) : ss.length ≤ L.length ∧ ∀ x ∈ ss, x ∈ L := by
 have hm : ∀ x ∈ ss, x ∈ L := fun x hx => h x fun e => by have := (hs.2.2 x).1 hx; rw [e] at this; cases this
 exact ⟨nodup_len ss L hs.2.1 hm, hm⟩
def sweepF (m : RefD) (hd : Int → Nat) : RefD := { m with files := m.files.filter fun f => decide (0 < countM m f.id) || decide (0 < hd f.id) }
def doS (S : SysD) (ops : List OpD) : SysD := ⟨⟨sweepF (doM S.F.m ops).1 S.F.hd, S.F.hd⟩, S.P, S.M⟩
def all17 : List Bs := [[117], [118], [119], [120]]
def n17 (k : Nat) : Bs := all17.getD k []
def s17 : SysD := ⟨file17, noneP, noneM⟩
def bit4 (b0 b1 b2 b3 : Bool) : Nat → Bool
 | 0 => b0
 | 1 => b1
 | 2 => b2
 | _ => b3
def stA (b : Nat → Bool) : Nat → SysD
 | 0 => s17
 | k + 1 => if b k then (startM units17 (stA b k) (n17 k)).1 else stA b k
def opsA : List OpD := [⟨4, [47, 97], [47, 111, 108, 100], []⟩, ⟨2, [47, 110, 101, 119], [], []⟩, ⟨5, [47, 110, 101, 119], [47, 97], []⟩]
def opsB : List OpD := [⟨5, [47, 111, 108, 100], [47, 97], []⟩]
def stB (b : Nat → Bool) : Nat → SysD
 | 0 => doS (stA b 4) opsA
 | k + 1 => if b k then stB b k else (startM units17 (stB b k) (n17 k)).1
def stC (b : Nat → Bool) (back : Bool) : SysD := if back then doS (stB b 4) opsB else stB b 4
set_option maxRecDepth 100000 in
theorem factA : ∀ b0 b1 b2 b3 : Bool, ∀ k, k < 4 → bit4 b0 b1 b2 b3 k = true → (startM units17 (stA (bit4 b0 b1 b2 b3) k) (n17 k)).2 = 0 := by decide +kernel
set_option maxRecDepth 100000 in
theorem factH : ∀ b0 b1 b2 b3 : Bool, ∀ x ∈ all17, ofM (stA (bit4 b0 b1 b2 b3) 4) x = false := by decide +kernel
set_option maxRecDepth 100000 in
theorem factD : ∀ b0 b1 b2 b3 : Bool, (doM (stA (bit4 b0 b1 b2 b3) 4).F.m opsA).2 = 0 := by decide +kernel
set_option maxRecDepth 100000 in
theorem factB : ∀ b0 b1 b2 b3 : Bool, ∀ k, k < 4 → bit4 b0 b1 b2 b3 k = false → ofM (stB (bit4 b0 b1 b2 b3) k) (n17 k) = false ∧ (startM units17 (stB (bit4 b0 b1 b2 b3) k) (n17 k)).2 = 0 := by decide +kernel
set_option maxRecDepth 100000 in
theorem factE : ∀ b0 b1 b2 b3 : Bool, (doM (stB (bit4 b0 b1 b2 b3) 4).F.m opsB).2 = 0 := by decide +kernel
def has17 (k : Nat) : Bool := decide (n17 k = [117]) || decide (n17 k = [119])
set_option maxRecDepth 100000 in
theorem factC : ∀ b0 b1 b2 b3 back : Bool, ∀ k, k < 4 → ofM (stC (bit4 b0 b1 b2 b3) back) (n17 k) = (has17 k && (bit4 b0 b1 b2 b3 k != back)) := by decide +kernel
end Go.Proofs.YtefpllpichhojaaGreatDoor
namespace Go.Proofs.YtefpllpichhojaaGreatDoor
open Go.RowKit Go.ChangeMaps Go.MapKept
end Go.Proofs.YtefpllpichhojaaGreatDoor
namespace Go.Proofs.YtefpllpichhojaaGreatDoor
open Go.RowKit
variable [Low]
section
variable {X : Nat → Prop} {w w' : World} {mb tb gb lm N vb db kb n off top : Nat} {q : Int} {la : Option Addr} {lc : Nat} {A : Bs → StA} {S : SysD}
theorem MgrB.self {gb2 : Nat} {la2 : Option Addr} {lc2 : Nat} {M : MgrD} {L : List (Nat × Bs)} (h : MgrB X w mb tb gb lm N la lc M A) (k : Keep (· ≠ mb) w w') (ht : w'.heap[mb]? = some (.cells (mgrV tb gb2 lm la2 L.length lc2) 106 (0, 0))) (hl : w'.ownsRow Low.low 108 2 (.slice la2 L.length lc2) L.length (L.flatMap evV)) (ho : ∀ a, la2 = some a → ¬ X a.block) :
 MgrB X w' mb tb gb2 lm N la2 lc2 ⟨M.list, L⟩ A := by
 have hne : ∀ g cs t fr, w.heap[g]? = some (.cells cs t fr) → t ≠ 106 → g ≠ mb := fun g cs t fr hg ht e => by
  rw [e, h.top] at hg
  injection (Option.some.inj hg) with _ h3
  exact ht h3.symm
 refine ⟨ht, h.map.keep k (fun e => h.lmne h.top e.symm), fun z s hs => ?_, h.blk, hl, ⟨h.out.1, h.out.2.1, h.out.2.2.1, ho, fun g hg => Nat.lt_of_lt_of_le (h.out.2.2.2.2 g hg) k.size⟩, h.lows, h.small⟩
 obtain ⟨h1, h2, h3⟩ := h.st z s hs
 exact ⟨k.heap (hne _ _ _ _ h1 (by decide)) h1, OwnS.keep h2 k fun g cs hg => hne _ _ _ _ hg (by decide), h3⟩
theorem SysB.self {gb2 : Nat} {la2 : Option Addr} {lc2 : Nat} {L : List (Nat × Bs)} (h : SysB X w mb tb vb gb db kb n N off top q lm la lc A S) (k : Keep (· ≠ mb) w w') (ht : w'.heap[mb]? = some (.cells (mgrV tb gb2 lm la2 L.length lc2) 106 (0, 0))) (hl : w'.ownsRow Low.low 108 2 (.slice la2 L.length lc2) L.length (L.flatMap evV)) (ho : ∀ a, la2 = some a → ¬ X a.block) :
 SysB X w' mb tb vb gb2 db kb n N off top q lm la2 lc2 A ⟨S.F, S.P, ⟨S.M.list, L⟩⟩ ∧ KeepM X w w' :=
 ⟨⟨h.1.self k ht hl ho, h.2.own (KeepT.ne k h.1.top (by decide) h.1.lows.1)⟩, KeepM.of_cells k h.1.top (by decide) h.1.out.2.1 h.1.lows.1⟩
set_option maxRecDepth 100000 in
theorem mgr_Set (h : SysB X w mb tb vb gb db kb n N off top q lm la lc A S) (gb2 : Nat) :
 Calls Tryz.prog 39 #[.pointer (some ⟨mb, 0, none⟩), .pointer (some ⟨gb2, 0, none⟩)] w fun e w' => e = .returned (.tuple #[]) ∧ SysB X w' mb tb vb gb2 db kb n N off top q lm la lc A S ∧ KeepM X w w' := by
 obtain ⟨R, hR⟩ : ∃ R : Ending → World → Prop, R = fun e w' => e = .returned (.tuple #[]) ∧ SysB X w' mb tb vb gb2 db kb n N off top q lm la lc A S ∧ KeepM X w w' := ⟨_, rfl⟩
 rw [← hR]
 have HR := Lib.hid hR; clear hR
 have c1 := blk_cell h.1.top 1 (.pointer (some ⟨gb, 0, none⟩)) rfl
 have f1 := blk_free h.1.top 1
 have k : Keep (· ≠ mb) w (w.setCell ⟨mb, 1, none⟩ (.pointer (some ⟨gb2, 0, none⟩))) := (Keep.refl _ _).setCell (fun _ h => h) _ _
 have hrow := setCell_row (i := 1) h.1.top (.pointer (some ⟨gb2, 0, none⟩))
 have hlog := ownsRow_keep h.1.log k (fun g cur hv _ hg e => by
  have e : g = mb := e
  rw [e, h.1.top] at hg
  injection (Option.some.inj hg) with _ h3
  exact absurd h3 (by decide))
 have hs := h.self (gb2 := gb2) (L := S.M.log) k hrow hlog h.1.out.2.2.2.1
 have HS := Lib.hid hs
 clear h k hrow hs hlog
 go_enter Tryz.func39, Tryz.ntmps39
 go_wp2_with fail
 go_end0
 rw [HR.out]
 exact ⟨rfl, HS.out.1, HS.out.2⟩
end
end Go.Proofs.YtefpllpichhojaaGreatDoor
