/- The walk of farrierlaw08.ProcEnds. -/
import Derived.Test.YtachelbodpfckaaGreatDoorM6
import Derived.Test.YtachelbodpfckaaGreatDoorProcNumbers
import Derived.Deep.QuietTactic
import Derived.BigQuiet
import Derived.Deep.CutBlock
import Derived.Deep.CutRange
namespace Go.Proofs.YtachelbodpfckaaGreatDoor
open Go.RowKit
def LikeN (f : By → Option Value) (g : Nat → Int) : Prop := ∀ t, t < 3 → (f (nameN t)).getD (.int .i64 0) = .int .i64 (g t)
def pidL (k : Nat) : List Int := (List.range k).map fun i : Nat => (i : Int) + 1
theorem pidL_succ (k : Nat) : pidL (k + 1) = pidL k ++ [(k : Int) + 1] := by
 unfold pidL
 rw [List.range_succ, List.map_append]
 rfl
theorem pidL_len (k : Nat) : (pidL k).length = k := by simp [pidL]
theorem pidL_at {k i : Nat} (h : i < (pidL k).length) : (pidL k)[i] = (i : Int) + 1 := by simp [pidL]
def namesV : Array Value := #[.string ⟨#[47, 97]⟩, .string ⟨#[47, 98]⟩, .string ⟨#[47, 100, 47, 99]⟩]
theorem nameN_inj {a b : Nat} (ha : a < 3) (hb : b < 3) (h : nameN a = nameN b) : a = b := by
 match a, ha, b, hb with
 | 0, _, 0, _ => rfl
 | 0, _, 1, _ => exact absurd h (by decide)
 | 0, _, 2, _ => exact absurd h (by decide)
 | 1, _, 0, _ => exact absurd h (by decide)
 | 1, _, 1, _ => rfl
 | 1, _, 2, _ => exact absurd h (by decide)
 | 2, _, 0, _ => exact absurd h (by decide)
 | 2, _, 1, _ => exact absurd h (by decide)
 | 2, _, 2, _ => rfl
theorem namesV_at {j : Nat} (h : j < 3) : namesV[j]? = some (.string (bs (nameN j))) := by
 match j, h with
 | 0, _ => rfl
 | 1, _ => rfl
 | 2, _ => rfl
theorem names3 (j : Nat) : (nameN j = [47, 97] ∧ idN j = 2) ∨ (nameN j = [47, 98] ∧ idN j = 3) ∨ (nameN j = [47, 100, 47, 99] ∧ idN j = 5) := by
 unfold nameN idN
 by_cases h0 : j = 0
 · simp [h0]
 · by_cases h1 : j = 1
   · simp [h1]
   · simp [h0, h1]
theorem idF08 {m : RefD} (h : m.list = tree08.list) (j : Nat) : idF m (nameN j) = idN j ∧ (entM m (nameN j)).isSome = true := by
 unfold idF
 rw [entM_L, h]
 rcases names3 j with ⟨h1, h2⟩ | ⟨h1, h2⟩ | ⟨h1, h2⟩
 · rw [h1, h2]; exact ⟨rfl, rfl⟩
 · rw [h1, h2]; exact ⟨rfl, rfl⟩
 · rw [h1, h2]; exact ⟨rfl, rfl⟩
theorem key_name (j : Nat) : keyOf Tryz.prog 9 (.string (bs (nameN j))) = some (keyS (nameN j)) := key_by (by
 rcases names3 j with ⟨h1, _⟩ | ⟨h1, _⟩ | ⟨h1, _⟩
 · rw [h1]; decide
 · rw [h1]; decide
 · rw [h1]; decide)
theorem LikeN.set {f : By → Option Value} {g g' : Nat → Int} {j : Nat} (h : LikeN f g) (hj : j < 3) {v : Int} (hv : g' j = v) (ho : ∀ t, t < 3 → t ≠ j → g' t = g t) : LikeN (fun x => if x = nameN j then some (.int .i64 v) else f x) g' := fun t ht => by
 by_cases e : t = j
 · subst e
   simp [hv]
 · have : nameN t ≠ nameN j := fun h => e (nameN_inj ht hj h)
   simp only [this, if_false]
   rw [ho t ht e]
   exact h t ht
theorem LikeN.same {f : By → Option Value} {g g' : Nat → Int} (h : LikeN f g) (ho : ∀ t, t < 3 → g' t = g t) : LikeN f g' := fun t ht => by rw [ho t ht]; exact h t ht
theorem own_ne_map {w : World} {base E m n : Nat} {v : Value} {us : List Value} (h : w.ownsRow base E m v n us) {k : Nat} {es : Array MapEntry} {cl : Nat} (hk : w.heap[k]? = some (.map es cl)) : some k ≠ v.ownBlock := fun e => by
 rcases h.2 with ⟨h1, _⟩ | ⟨g, c, cur, h1, _, hg, _⟩
 · rw [h1] at e; cases e
 · rw [h1] at e
   have e2 : k = g := Option.some.inj e
   subst e2
   rw [hk] at hg; cases hg
variable [Low]
def XEnds (hb : Nat) (pa : Option Addr) : Nat → Prop := fun g => g = hb ∨ ∃ x, pa = some x ∧ g = x.block
theorem Ext.keepP {X : Nat → Prop} {w a b : World} (h : Ext w a) (k : KeepP X a b) (hl : Low.low = w.heap.size) : Ext w b :=
 ((Keep.of_ext (S := fun j => j < w.heap.size) h).andThen k fun g _ hg => Or.inl (by have hg : g < w.heap.size := hg; omega)).ext_lt
section
set_option maxRecDepth 100000 in
set_option maxHeartbeats 12800000 in
theorem proc_endsW (a : Option Addr) (c : Nat) (L : List Int) (w : World) (hlw : Low.low = w.heap.size) (hE : EnvL w) (hA : RunM w a (intV L)) (hl0 : L.length ≤ 17592186044416) :
 Calls Tryz.prog 3 #[.slice a L.length c] w fun e w' => e = .returned (.bool true) ∧ Ext w w' := by
 have hl := hl0
 obtain ⟨R, hR⟩ : ∃ R : Ending → World → Prop, R = fun e w' => e = .returned (.bool true) ∧ Ext w w' := ⟨_, rfl⟩
 rw [← hR]
 have hfin : ∀ w', Ext w w' → R (.returned (.bool true)) w' := fun w' hk => by rw [hR]; exact ⟨rfl, hk⟩
 have HFIN := Lib.hid hfin; clear hfin hR
 have HLW := Lib.hid hlw
 have HAL := Lib.hid (alive08 (X := fun _ => False) w hE (by omega) (fun _ h => h.elim))
 have HE := Lib.hid hE; have HA := Lib.hid hA
 obtain ⟨m, hm⟩ : ∃ m, m = L.length := ⟨_, rfl⟩
 rw [← hm] at hl ⊢
 have HM := Lib.hid hm
 clear hlw hE hA hm
 have hmk := @run_makeMap Tryz.prog
 go_enter Tryz.func3, Tryz.ntmps3
 go_upto_region 4 with (first
  | (go_at_call 6; refine HAL.out.mono ?_; rintro e w1 ⟨rfl, hk⟩; have HK1 := Lib.hid hk; clear hk)
  | (go_at_call 7; refine (open08 (X := fun _ => False) w1 (HE.out.keepP HK1.out) (by have := HLW.out; have := HK1.out.size; omega) (fun _ h => h.elim)).mono ?_; rintro e w2 ⟨vb, db, kb, rfl, hv, hy⟩; have HV := Lib.hid hv; have HK2 := Lib.hid (HK1.out.trans (KeepP.of_Y hy)); clear hv hy))
 go_upto_region 5 with (go_at_call 8; refine (proc_New HV.out (fun _ => rfl) (fun _ h => h.elim) (by have := HLW.out; have := HK2.out.size; omega) (by decide)).mono ?_; rintro e w3 ⟨tb, rfl, hs, hx⟩; have HS := Lib.hid hs; have HK3 := Lib.hid ((HK2.out.trans (KeepP.of_ext hx)).low HLW.out); clear hs hx)
 clear HV HK1 HK2 HAL
 go_upto_block 0 with fail
 obtain ⟨hb, hhb⟩ : ∃ hb, hb = w3.heap.size := ⟨_, rfl⟩
 have hx4 : Ext w3 (((w3.alloc (.map #[] 0)).alloc (.cells #[] 3)).alloc (.cells namesV 9)) := ((Ext.alloc _ _).trans (Ext.alloc _ _)).trans (Ext.alloc _ _)
 have hmap := ((MapF.made keyS w3 9).ext (Ext.alloc _ (.cells #[] 3))).ext (Ext.alloc _ (.cells namesV 9))
 have hrow := (Ext.alloc ((w3.alloc (.map #[] 0)).alloc (.cells #[] 3)) (.cells namesV 9)).heap (heap_alloc_new (w3.alloc (.map #[] 0)) (.cells #[] 3))
 have hnb := heap_alloc_new ((w3.alloc (.map #[] 0)).alloc (.cells #[] 3)) (.cells namesV 9)
 have hs4 : (((w3.alloc (.map #[] 0)).alloc (.cells #[] 3)).alloc (.cells namesV 9)).heap.size = w3.heap.size + 3 := by simp
 simp only [World.size_alloc] at hrow hnb
 have HX4 := Lib.hid (HK3.out.trans hx4)
 have HMP := Lib.hid hmap; have HNB := Lib.hid hnb
 have hpl0 : OwnIs (((w3.alloc (.map #[] 0)).alloc (.cells #[] 3)).alloc (.cells namesV 9)) w3.heap.size (some ⟨w3.heap.size + 1, 0, none⟩) 0 [] := row_zero hrow (by omega)
 have HPL := Lib.hid hpl0
 have hs5 := HS.out.more (Y := XEnds w3.heap.size (some ⟨w3.heap.size + 1, 0, none⟩)) hx4 (fun g hg => by
  rcases hg with hg | ⟨x, hx, hg⟩
  · exact Or.inr ⟨by omega, by omega⟩
  · cases hx; exact Or.inr ⟨by show w3.heap.size ≤ g; dsimp only at hg; omega, by dsimp only at hg; omega⟩)
 have HS4 := Lib.hid hs5
 have HSZ : Hid (w.heap.size ≤ w3.heap.size) := Lib.hid HK3.out.size
 rw [← hhb] at HMP HNB HPL HS4 HSZ
 simp only [← hhb]
 clear hx4 hmap hrow hnb hs4 hpl0 hs5 HS HK3
 have e4 : (((w3.alloc (.map #[] 0)).alloc (.cells #[] 3)).alloc (.cells #[.string ⟨#[47, 97]⟩, .string ⟨#[47, 98]⟩, .string ⟨#[47, 100, 47, 99]⟩] 9)) = (((w3.alloc (.map #[] 0)).alloc (.cells #[] 3)).alloc (.cells namesV 9)) := rfl
 rw [e4]
 generalize (((w3.alloc (.map #[] 0)).alloc (.cells #[] 3)).alloc (.cells namesV 9)) = w4 at HMP HNB HPL HS4 HX4 ⊢
 clear e4 hhb
 go_cut [6] from 8 to 75 (fun pv wx => ∃ (K N M : Nat) (F : FileS) (P : TabD) (f : By → Option Value) (pa : Option Addr) (pc : Nat), pv = .slice pa K pc ∧ K ≤ m ∧ K ≤ 32 ∧ N ≤ 300000 ∧ M ≤ 200 ∧ Hid (SysP (XEnds hb pa) wx tb vb db kb 500 N 2 1 2000 F P) ∧ Hid (EndsI L 0 K F P) ∧ Hid (MapF keyS wx 9 hb M f) ∧ Hid (LikeN f fun t => F.hd (idN t)) ∧ Hid (OwnIs wx hb pa pc (pidL K)) ∧ Hid (wx.heap[hb + 1 + 1]? = some (.cells namesV 9 (0, 0))) ∧ Hid (Ext w wx))
 case first =>
  go_wp2_with fail
  go_loopw [34, 6] (fun i pv wr => ∃ (k N M : Nat) (F : FileS) (P : TabD) (f : By → Option Value) (pa : Option Addr) (pc : Nat), i = .int .i64 k ∧ pv = .slice pa k pc ∧ k ≤ m ∧ k ≤ 32 ∧ N ≤ 210000 + 20 * k ∧ M ≤ 3 * k ∧ Hid (SysP (XEnds hb pa) wr tb vb db kb 500 N 2 1 2000 F P) ∧ Hid (EndsI L 0 k F P) ∧ Hid (MapF keyS wr 9 hb M f) ∧ Hid (LikeN f fun t => F.hd (idN t)) ∧ Hid (OwnIs wr hb pa pc (pidL k)) ∧ Hid (wr.heap[hb + 1 + 1]? = some (.cells namesV 9 (0, 0))) ∧ Hid (Ext w wr)) (fun i _ _ => m - (RowKit.intOf i).toNat)
  case atStart =>
   exact ⟨0, 200010, 0, file08, noneP, _, _, 0, rfl, rfl, Nat.zero_le _, Nat.zero_le _, by omega, Nat.zero_le _, HS4, Lib.hid (EndsI.start L), HMP, Lib.hid (fun t _ => rfl), HPL, HNB, HX4⟩
  case round =>
   clear HS4 HMP HPL HNB HX4
   obtain ⟨k, N, M, F, P, f, pa, pc, rfl, rfl, hk, hk32, hN, hM, HS, HI, HMF, HLK, HPL, HNB, HX⟩ := hrel
   have hlw := HLW.out
   by_cases hlt : k < m
   · have hkL : k < L.length := by have := HM.out; omega
     rcases (runM_keep HA.out (Keep.of_ext (S := fun _ => True) HX.out) fun _ _ => trivial) with h | ⟨g, o, rfl, _, hc⟩
     · have : L = [] := by unfold intV at h; simpa using h
       rw [this] at hkL; simp at hkL
     have c0 := hc k (.int .i64 (L.getD k 0)) (by simp [intV, List.getD_eq_getElem?_getD, List.getElem?_eq_getElem hkL])
     clear hc hkL
     obtain ⟨n, hn⟩ : ∃ n, n = L.getD k 0 := ⟨_, rfl⟩
     rw [← hn] at c0
     have HNN := Lib.hid hn; clear hn
     by_cases h32 : k = 32
     · have hd : decide ((32 : Int) ≤ (k : Int)) = true := by simp; omega
       clear h32
       go_wp2_with fail
       go_meet
       exact ⟨k, N, M, F, P, f, pa, pc, rfl, hk, hk32, by omega, by omega, HS, HI, HMF, HLK, HPL, HNB, HX⟩
     · have hd : decide ((32 : Int) ≤ (k : Int)) = false := by simp; omega
       have hk31 : k < 32 := by omega
       clear h32
       have hI0 := HI.out
       obtain ⟨hhb0, hgp0, _⟩ := HS.out.heldBy
       have hhd0 : ∀ i, F.hd i ≤ 256 := fun i => hhb0.le hgp0 i
       have HGP := Lib.hid hgp0; have HHD := Lib.hid hhd0
       have hnb0 : hb + 1 + 1 < wr.heap.size := (Array.getElem?_eq_some_iff.1 HNB.out).1
       clear hhb0 hgp0 hhd0 hI0
       go_wp2_with fail
       have hxa := Ext.alloc wr (.cells #[] 9)
       have hsr := heap_alloc_new wr (.cells #[] 9)
       have hoi : OwnS (wr.alloc (.cells #[] 9)) wr.heap.size (some ⟨wr.heap.size, 0, none⟩) 0 (pathsN n 0) := row_zero hsr (Nat.le_refl _)
       have HSI := Lib.hid (HS.out.ext hxa); have HMI := Lib.hid (HMF.out.ext hxa); have HNI := Lib.hid (hxa.heap HNB.out); have HXI := Lib.hid (HX.out.trans hxa); have HOI := Lib.hid hoi
       have HPI := Lib.hid (HPL.out.keep (Keep.of_ext (S := fun _ => True) hxa) fun _ _ _ _ => trivial)
       have HLI : Hid (LikeN f fun t => (F.hd (idN t) : Int) + if t < 0 then ((bitN n t).toNat : Int) else 0) := Lib.hid (HLK.out.same fun t _ => by simp)
       have hls : w.heap.size ≤ wr.heap.size := HX.out.size
       have hsi : wr.heap.size ≤ (wr.alloc (.cells #[] 9)).heap.size := hxa.size
       have HSI0 := Lib.hid hsi
       clear hxa hsr hoi HS HMF HNB HX HPL HLK hsi
       generalize wr.heap.size = s0 at HOI hnb0 hls HSI0 ⊢
       generalize wr.alloc (.cells #[] 9) = wi0 at HSI HMI HNI HXI HOI HPI HSI0 ⊢
       go_loopw [44, 10] (fun j pv wi => ∃ (jn M' : Nat) (f' : By → Option Value) (qa : Option Addr) (qc : Nat), j = .int .i64 jn ∧ pv = .slice qa (pathsN n jn).length qc ∧ jn ≤ 3 ∧ M' ≤ M + jn ∧ Hid (SysP (XEnds hb pa) wi tb vb db kb 500 N 2 1 2000 F P) ∧ Hid (MapF keyS wi 9 hb M' f') ∧ Hid (LikeN f' fun t => (F.hd (idN t) : Int) + if t < jn then ((bitN n t).toNat : Int) else 0) ∧ Hid (OwnS wi s0 qa qc (pathsN n jn)) ∧ Hid (OwnIs wi hb pa pc (pidL k)) ∧ Hid (wi.heap[hb + 1 + 1]? = some (.cells namesV 9 (0, 0))) ∧ Hid (Ext w wi) ∧ Hid (s0 ≤ wi.heap.size)) (fun j _ _ => 3 - (RowKit.intOf j).toNat)
       case atStart => exact ⟨0, M, f, _, 0, rfl, rfl, Nat.zero_le _, Nat.le_refl _, HSI, HMI, HLI, HOI, HPI, HNI, HXI, HSI0⟩
       case round =>
        clear HSI HMI HLI HOI HPI HNI HXI HSI0
        obtain ⟨jn, M', f', qa, qc, rfl, rfl, hj3, hM', HS, HMF, HLK, HO, HPL, HNB, HX, HSW⟩ := hrel
        by_cases hjl : jn < 3
        · have c4 := blk_cell HNB.out jn _ (namesV_at hjl)
          have hpn := pathsN_len n jn
          by_cases hbt : bitN n jn = true
          · have hbt2 : (bits .and .i64 (n / 2 ^ jn) 1 == 1) = true := hbt
            have hv := HLK.out jn hjl
            simp only [Nat.lt_irrefl, if_false, Int.add_zero] at hv
            have hvl := HHD.out (idN jn)
            have HBT := Lib.hid hbt
            generalize hvv : F.hd (idN jn) = v at hv hvl
            have HVV := Lib.hid hvv; have HV := Lib.hid hv
            have hps : pathsN n (jn + 1) = pathsN n jn ++ [nameN jn] := by rw [pathsN_succ, if_pos hbt]
            have HPS := Lib.hid hps
            obtain ⟨pl, hpl⟩ : ∃ pl, pl = (pathsN n jn).length := ⟨_, rfl⟩
            rw [← hpl] at hpn ⊢
            have HPLN := Lib.hid hpl
            clear hbt hvv hv hps hpl
            go_wp2_with (at_builtin; refine Hid.out ?_)
            refine Lib.hid ?_
            have hx2 := Ext.alloc wr (.cells #[.string (bs (nameN jn))] 9)
            have hO1 : wr.ownsRow s0 9 1 (.slice qa pl qc) pl ((pathsN n jn).map fun p => .string (bs p)) := by rw [HPLN.out]; exact HO.out
            have hO2 := ownsRow_keep hO1 (Keep.of_ext (S := fun _ => True) hx2) (fun _ _ _ _ _ => trivial)
            refine append_one rfl _ _ _ rfl 9 (.string ⟨#[]⟩) 16 Tryz.underlying29 info_string rfl s0 qa pl qc _ rfl hO1 (.string (bs (nameN jn))) rfl rfl (by omega) (by decide) HSW.out ?_
            intro g5 c5 w5 hO5 hcap5 hbl5 hgr5
            obtain ⟨es, cl, hmb⟩ := (HMF.out.ext hx2).block
            have hk5 := Keep.of_grown hgr5
            have HM5 := Lib.hid ((HMF.out.ext hx2).keep hk5 (own_ne_map hO2 hmb))
            have HS5 := Lib.hid ((HS.out.ext hx2).grow (Y := XEnds hb pa) hk5 hO2 (by have := HLW.out; omega) (by decide) (Or.inl (by decide)) fun g hg => Or.inl hg)
            have HP5 : Hid (OwnIs w5 hb pa pc (pidL k)) := Lib.hid ((HPL.out.keep (Keep.of_ext (S := fun _ => True) hx2) fun _ _ _ _ => trivial).keep hk5 fun x cs hx hc => row_apart hO2 hc (by decide))
            have HN5 := Lib.hid (hk5.heap (fun e => by have := (World.ownsRow.lt hO2 _ e.symm).1; omega) (hx2.heap HNB.out))
            have HX5 := Lib.hid ((Keep.of_ext (S := fun j => j < w.heap.size) (HX.out.trans hx2)).andThen hk5 (fun j hj _ e => by have hj : j < w.heap.size := hj; have := (World.ownsRow.lt hO2 _ e.symm).1; omega)).ext_lt
            have HSW5 := Lib.hid (Nat.le_trans HSW.out (Nat.le_trans hx2.size hk5.size))
            have HO5 := Lib.hid hO5
            clear hx2 hO1 hO2 hO5 hbl5 hgr5 hmb hk5 hcap5
            go_wp2_with (first
             | (at_lookup; refine wpList_look_F rfl _ _ 28 rfl 3 str_keyed Tryz.underlying28 _ (Tryz.zeroValue3 _) hb M' f' rfl HM5.out _ (nameN jn) rfl (key_name jn) ?_; rw [HV.out])
             | (at_mapUpdate; refine wpList_store_F rfl _ _ _ 28 rfl 3 str_keyed Tryz.underlying28 hb M' f' rfl HM5.out (by unfold maxLen; omega) keyS_inj _ (.int .i64 ((v : Int) + 1)) (nameN jn) rfl rfl (key_name jn) ?_; intro w6 hm6 hk6))
            obtain ⟨es, cl, hmb⟩ := HM5.out.block
            go_roundw
            case rel =>
             refine ⟨jn + 1, M' + 1, _, some ⟨g5, 0, none⟩, c5, by go_num, ?_, by omega, by omega, Lib.hid (HS5.out.turnM (Or.inl rfl) hmb hk6), Lib.hid hm6, Lib.hid (HLK.out.set hjl ?_ fun t ht hne => ?_), Lib.hid ?_, Lib.hid (HP5.out.keep hk6 fun x cs hx hc e => ?_), Lib.hid (hk6.heap (by omega) HN5.out), Lib.hid ?_, Lib.hid (Nat.le_trans HSW5.out hk6.size)⟩
             · rw [HPS.out, List.length_append, List.length_singleton, ← HPLN.out]
             · rw [if_pos (by omega), HVV.out, HBT.out]; rfl
             · by_cases h : t < jn
               · rw [if_pos h, if_pos (by omega)]
               · rw [if_neg h, if_neg (by omega)]
             · have h5 : OwnS w5 s0 (some ⟨g5, 0, none⟩) c5 (pathsN n (jn + 1)) := by
                  unfold OwnS
                  rw [HPS.out, List.length_append, List.length_singleton, ← HPLN.out, List.map_append]
                  exact HO5.out
               exact ownsRow_keep h5 hk6 fun g cur _ _ hc e => by
                have e : g = hb := e
                rw [e, hmb] at hc; cases hc
             · have e : x.block = hb := e
               rw [e, hmb] at hc; cases hc
             · exact ((Keep.of_ext (S := fun j => j < w.heap.size) HX5.out).andThen hk6 (fun j hj _ => by have hj : j < w.heap.size := hj; have := HSZ.out; show j ≠ hb; omega)).ext_lt
            case measure => simp [RowKit.intOf]; omega
          · have hbt1 : bitN n jn = false := by simpa using hbt
            have hbt2 : (bits .and .i64 (n / 2 ^ jn) 1 == 1) = false := hbt1
            have hps : pathsN n (jn + 1) = pathsN n jn := by rw [pathsN_succ, if_neg hbt]
            have HPS := Lib.hid hps
            have HBT := Lib.hid hbt1
            clear hbt hps hbt1
            go_wp2_with fail
            go_roundw
            case rel =>
             refine ⟨jn + 1, M', f', qa, qc, by go_num, by rw [HPS.out], by omega, by omega, HS, HMF, Lib.hid (HLK.out.same fun t ht => ?_), by rw [HPS.out]; exact HO, HPL, HNB, HX, HSW⟩
             by_cases h : t < jn
             · rw [if_pos h, if_pos (by omega)]
             · rw [if_neg h]
               by_cases h2 : t = jn
               · subst h2; rw [if_pos (by omega), HBT.out]; rfl
               · rw [if_neg (by omega)]
            case measure => simp [RowKit.intOf]; omega
        · obtain rfl : jn = 3 := by omega
          obtain ⟨F', hsp, hI', hF'⟩ := HI.out.spawn HGP.out (by omega) HNN.out
          have hnx := HI.out.next
          rw [hnx] at hsp hI'
          have hbs := pathsN_len n 3
          have hspn := proc_Spawn (X := XEnds hb pa) (HE.out.ext HX.out) HS.out (by have := HLW.out; have := HX.out.size; omega) [117] (pathsN n 3) qa qc (fun W hk => (OwnS.strs (ownsRow_keep HO.out hk fun g cur _ _ hc => Or.inr (Or.inr ⟨cur, _, _, hc, by decide⟩))).1) (by omega) (by omega)
          rw [hsp] at hspn
          have HSP := Lib.hid hspn; have HI2 := Lib.hid hI'; have HF2 := Lib.hid hF'
          obtain ⟨es, cl, hmb⟩ := HMF.out.block
          have HMB := Lib.hid hmb
          clear hspn hsp hI' hF' hnx hmb hbs
          obtain ⟨pl, hpl⟩ : ∃ pl, pl = (pathsN n 3).length := ⟨_, rfl⟩
          rw [← hpl] at HSP ⊢
          clear hpl
          go_wp2_with (first
           | (go_at_call 9; refine HSP.out.mono ?_; rintro e w6 ⟨rfl, hs6, hk6⟩; have HS6 := Lib.hid hs6; have HK6 := Lib.hid hk6; clear hs6 hk6)
           | (at_builtin; refine Hid.out ?_))
          refine Lib.hid ?_
          have hP6 : OwnIs w6 hb pa pc (pidL k) := HPL.out.keep HK6.out fun x cs hx hc => Or.inr (Or.inl ⟨Or.inr ⟨x, hx, rfl⟩, Or.inr ⟨_, _, _, hc, by decide⟩⟩)
          have hmf6 : MapF keyS w6 9 hb M' f' := HMF.out.keep HK6.out (Or.inr (Or.inl ⟨Or.inl rfl, Or.inl ⟨es, cl, HMB.out⟩⟩))
          have hn6 : w6.heap[hb + 1 + 1]? = some (.cells namesV 9 (0, 0)) := Keep.heap HK6.out (Or.inr (Or.inr ⟨_, _, _, HNB.out, by decide⟩)) HNB.out
          have hx6 : Ext w w6 := HX.out.keepP HK6.out HLW.out
          have hx2 := Ext.alloc w6 (.cells #[.int .i64 ((k : Int) + 1)] 3)
          have hb2 := heap_alloc_new w6 (.cells #[.int .i64 ((k : Int) + 1)] 3)
          have hP7 : (w6.alloc (.cells #[.int .i64 ((k : Int) + 1)] 3)).ownsRow hb 3 1 (.slice pa k pc) k (intV (pidL k)) := by
           have := hP6.keep (Keep.of_ext (S := fun _ => True) hx2) (fun _ _ _ _ => trivial)
           unfold OwnIs at this
           rwa [pidL_len] at this
          have hown7 : ∀ g, (Value.slice pa k pc).ownBlock = some g → XEnds hb pa g := fun g hg => by
           have h := hP6.own g (by rw [pidL_len]; exact hg)
           exact Or.inr h
          obtain ⟨i0, hi, hz, hsz, hby⟩ := info_parts info_intL
          have hsw : hb ≤ w6.heap.size := by have := hx6.size; have := (Array.getElem?_eq_some_iff.1 hn6).1; omega
          refine wpList_append_own_at _ rfl _ _ 22 rfl hb 3 i0 (.int .i64 0) 1 8 Tryz.underlying22 hi hz hsz hby rfl (by decide) (.slice pa k pc) k (intV (pidL k)) rfl hP7 ⟨w6.heap.size, 0, none⟩ 1 1 [.int .i64 ((k : Int) + 1)] rfl rfl (one_plain hb2) (intV_one [(k : Int) + 1]) (by unfold maxLen; omega) (by omega) (by simp; omega) ?_
          intro v' w8 hown hgrow hnil hat
          obtain ⟨a8, c8, rfl, _, _, _⟩ := run_of_row hown
          have hk8 := Keep.of_grown hgrow
          have hS8 := (HS6.out.ext hx2).grow (Y := XEnds hb a8) hk8 hP7 (by have := HLW.out; have := HSZ.out; omega) (by decide) (Or.inr hown7) (fun g hg => by
           rcases hg with hg | ⟨x, hx, hg⟩
           · exact Or.inl (Or.inl hg)
           · subst hx
             subst hg
             rcases hat with h | h
             · exact Or.inl (hown7 _ (by rw [← h]; rfl))
             · have h : x.block = (w6.alloc (.cells #[.int .i64 ((k : Int) + 1)] 3)).heap.size := Option.some.inj h
               refine Or.inr ⟨by omega, ?_⟩
               have := (World.ownsRow.lt hown x.block rfl).2
               omega)
          have hm8 := (hmf6.ext hx2).keep hk8 (own_ne_map hP7 (hx2.heap (hmf6.block.choose_spec.choose_spec)))
          have hn8 := hk8.heap (row_apart hP7 (hx2.heap hn6) (by decide)) (hx2.heap hn6)
          have hx8 : Ext w w8 := ((Keep.of_ext (S := fun j => j < w.heap.size) (hx6.trans hx2)).andThen hk8 (fun j hj _ e => by have hj : j < w.heap.size := hj; have := (World.ownsRow.lt hP7 _ e.symm).1; have := HSZ.out; omega)).ext_lt
          have hP8 : OwnIs w8 hb a8 c8 (pidL (k + 1)) := by
           unfold OwnIs intV
           rw [pidL_succ, List.length_append, List.map_append, pidL_len, List.length_singleton]
           exact hown
          have HS8 := Lib.hid hS8; have HM8 := Lib.hid hm8; have HN8 := Lib.hid hn8; have HX8 := Lib.hid hx8; have HP8 := Lib.hid hP8
          clear hP6 hmf6 hn6 hx6 hx2 hb2 hP7 hown7 hi hz hsz hby hsw hown hgrow hnil hat hk8 hS8 hm8 hn8 hx8 hP8
          go_wp2_with fail
          go_roundw
          case rel =>
           refine ⟨k + 1, N + 20, M', F', _, f', a8, c8, by go_num, by go_num, by omega, by omega, by omega, by omega, HS8, HI2, HM8, Lib.hid (HLK.out.same fun t ht => ?_), HP8, HN8, HX8⟩
           rw [if_pos ht, HF2.out t ht]
           omega
          case measure => simp [RowKit.intOf]; omega
   · go_wp2_with fail
     go_meet
     exact ⟨k, N, M, F, P, f, pa, pc, rfl, hk, hk32, by omega, by omega, HS, HI, HMF, HLK, HPL, HNB, HX⟩
 case rest =>
  clear HS4 HMP HPL HNB HX4
  obtain ⟨K, N, M, F, P, f, pa, pc, rfl, hKm, hK32, hN, hM, HS, HI, HMF, HLK, HPL, HNB, HX⟩ := hcut
  go_wp2_with fail
  go_loopw [78] (fun i wr => ∃ (k N M : Nat) (F : FileS) (P : TabD) (f : By → Option Value), i = .int .i64 k ∧ k ≤ K ∧ N ≤ 300000 + 20 * k ∧ M ≤ 200 + 3 * k ∧ Hid (SysP (XEnds hb pa) wr tb vb db kb 500 N 2 1 2000 F P) ∧ Hid (EndsI L k K F P) ∧ Hid (MapF keyS wr 9 hb M f) ∧ Hid (LikeN f fun t => F.hd (idN t)) ∧ Hid (OwnIs wr hb pa pc (pidL K)) ∧ Hid (wr.heap[hb + 1 + 1]? = some (.cells namesV 9 (0, 0))) ∧ Hid (Ext w wr)) (fun i _ => K - (RowKit.intOf i).toNat)
  case atStart =>
   have hi : EndsI L 0 K F P := HI.out
   exact ⟨0, N, M, F, P, f, rfl, Nat.zero_le _, by omega, by omega, HS, Lib.hid hi, HMF, HLK, HPL, HNB, HX⟩
  case round =>
   clear HS HI HMF HLK HPL HNB HX hN hM
   obtain ⟨k, N, M, F, P, f, rfl, hk, hN, hM, HS, HI, HMF, HLK, HPL, HNB, HX⟩ := hrel
   obtain ⟨hhb0, hgp0, _⟩ := HS.out.heldBy
   by_cases hlt : k < K
   · have hkL : k < L.length := by have := HM.out; omega
     rcases HA.out with h | ⟨g, o, rfl, _, hc⟩
     · have : L = [] := by unfold intV at h; simpa using h
       rw [this] at hkL; simp at hkL
     have c0w := hc k (.int .i64 (L.getD k 0)) (by simp [intV, List.getD_eq_getElem?_getD, List.getElem?_eq_getElem hkL])
     obtain ⟨n, hn⟩ : ∃ n, n = L.getD k 0 := ⟨_, rfl⟩
     rw [← hn] at c0w
     obtain ⟨hget, hI2, hF2⟩ := HI.out.exit hgp0 hhb0 hlt hn
     obtain ⟨g2, rfl, hg2, c1⟩ := HPL.out.at (k := k) (by rw [pidL_len]; exact hlt)
     rw [pidL_at] at c1
     have hli2 := hI2.list
     have hhd2 : ∀ i, (letsF F (mapsN n)).hd i ≤ 256 := fun i => by rw [letsF_hd]; have := hhb0.le hgp0 i; omega
     obtain ⟨hkp1, hkp2⟩ := kill_pick (F := F) hget
     have hex := exit_some (F := F) hget
     have hkill := proc_Kill HS.out ((k : Int) + 1) (by omega) (by omega)
     have hexit := proc_Exit HS.out ((k : Int) + 1) (by omega) (by omega) (by omega)
     rw [hkp1] at hkill
     rw [hex] at hexit
     have hpick := fun W (h : SysP (XEnds hb (some ⟨g2, 0, none⟩)) W tb vb db kb 500 N 2 1 2000 F (killF P ((k : Int) + 1)).1) => proc_Pick h ((k : Int) + 1) (by omega) (by omega) (by omega)
     rw [hkp2] at hpick
     dsimp only at hexit hpick
     generalize hFF : letsF F (mapsN n) = F' at hI2 hF2 hli2 hhd2 hexit hpick
     generalize delP P ((k : Int) + 1) = P' at hI2 hexit hpick
     have c0 := HX.out.cell c0w
     have HKI := Lib.hid hkill; have HEX := Lib.hid hexit; have HPI := Lib.hid hpick; have HI2 := Lib.hid hI2; have HF2 := Lib.hid hF2; have HLI := Lib.hid hli2; have HHD := Lib.hid hhd2; have HC0 := Lib.hid c0w
     clear hhb0 hgp0 hc hkL hn hget hI2 hF2 hli2 hhd2 hkp1 hkp2 hex hkill hexit hpick hFF c0w hg2
     have HR6 : Hid (∀ w6, KeepP (XEnds hb (some ⟨g2, 0, none⟩)) wr w6 → (OwnIs w6 hb (some ⟨g2, 0, none⟩) pc (pidL K) ∧ MapF keyS w6 9 hb M f ∧ w6.heap[hb + 1 + 1]? = some (.cells namesV 9 (0, 0)) ∧ Ext w w6)) := Lib.hid fun w6 hk6 => by
      obtain ⟨es, cl, hmb⟩ := HMF.out.block
      exact ⟨HPL.out.keep hk6 fun x cs hx hc => Or.inr (Or.inl ⟨Or.inr ⟨x, hx, rfl⟩, Or.inr ⟨_, _, _, hc, by decide⟩⟩), HMF.out.keep hk6 (Or.inr (Or.inl ⟨Or.inl rfl, Or.inl ⟨es, cl, hmb⟩⟩)), Keep.heap hk6 (Or.inr (Or.inr ⟨_, _, _, HNB.out, by decide⟩)) HNB.out, HX.out.keepP hk6 HLW.out⟩
     have HLK6 : Hid (LikeN f fun t => (F'.hd (idN t) : Int) + if t < 0 then 0 else ((bitN n t).toNat : Int)) := Lib.hid (HLK.out.same fun t ht => by rw [if_neg (Nat.not_lt_zero t), HF2.out t ht]; omega)
     clear HMF HPL HNB HX
     by_cases h8 : (bits .and .i64 (n / 8) 1 == 1) = true
     rotate_left
     focus
      go_upto_region 36 with (go_at_call 12; refine HEX.out.mono ?_; rintro e w6 ⟨rfl, hs6, hk6⟩; have HS6 := Lib.hid hs6; obtain ⟨hp6, hm6, hn6, hx6⟩ := HR6.out _ hk6; have HP6 := Lib.hid hp6; have HM6 := Lib.hid hm6; have HN6 := Lib.hid hn6; have HX6 := Lib.hid hx6; clear hs6 hk6 hp6 hm6 hn6 hx6)
     rotate_left
     focus
      go_upto_region 36 with (first
       | (go_at_call 10; refine HKI.out.mono ?_; rintro e w5 ⟨rfl, hs5, hk5⟩; have HS5 := Lib.hid hs5; have HK5 := Lib.hid hk5; clear hs5 hk5)
       | (go_at_call 11; refine (HPI.out _ HS5.out).mono ?_; rintro e w6 ⟨rfl, hs6, hk6⟩; have HS6 := Lib.hid hs6; obtain ⟨hp6, hm6, hn6, hx6⟩ := HR6.out _ (HK5.out.trans hk6); have HP6 := Lib.hid hp6; have HM6 := Lib.hid hm6; have HN6 := Lib.hid hn6; have HX6 := Lib.hid hx6; clear hs6 hk6 hp6 hm6 hn6 hx6))
     all_goals
      clear HKI HEX HPI HR6 h8 HS HI HLK
      go_wp2_with fail
      go_loopw [112] (fun j wr => ∃ (jn M' : Nat) (f' : By → Option Value), j = .int .i64 jn ∧ jn ≤ 3 ∧ M' ≤ M + jn ∧ Hid (SysP (XEnds hb (some ⟨g2, 0, none⟩)) wr tb vb db kb 500 (N + 8) 2 1 2000 F' P') ∧ Hid (MapF keyS wr 9 hb M' f') ∧ Hid (LikeN f' fun t => (F'.hd (idN t) : Int) + if t < jn then 0 else ((bitN n t).toNat : Int)) ∧ Hid (OwnIs wr hb (some ⟨g2, 0, none⟩) pc (pidL K)) ∧ Hid (wr.heap[hb + 1 + 1]? = some (.cells namesV 9 (0, 0))) ∧ Hid (Ext w wr)) (fun j _ => 3 - (RowKit.intOf j).toNat)
      case atStart => exact ⟨0, M, f, rfl, Nat.zero_le _, Nat.le_refl _, HS6, HM6, HLK6, HP6, HN6, HX6⟩
      case round =>
       clear HS6 HM6 HLK6 HP6 HN6 HX6
       obtain ⟨jn, M', f', rfl, hj3, hM', HS, HMF, HLK, HPL, HNB, HX⟩ := hrel
       by_cases hjl : jn < 3
       · have c4 := blk_cell HNB.out jn _ (namesV_at hjl)
         have c0 := HX.out.cell HC0.out
         by_cases hbt : bitN n jn = true
         · have hbt2 : (bits .and .i64 (n / 2 ^ jn) 1 == 1) = true := hbt
           have hv := HLK.out jn hjl
           simp only [Nat.lt_irrefl, if_false, hbt, Bool.toNat_true] at hv
           have hvl := HHD.out (idN jn)
           have HBT := Lib.hid hbt; have HV := Lib.hid hv
           clear hbt hv
           go_upto_region 41 with (first
            | (at_lookup; refine wpList_look_F rfl _ _ 28 rfl 3 str_keyed Tryz.underlying28 _ (Tryz.zeroValue3 _) hb M' f' rfl HMF.out _ (nameN jn) rfl (key_name jn) ?_; rw [HV.out])
            | (at_mapUpdate; refine wpList_store_F rfl _ _ _ 28 rfl 3 str_keyed Tryz.underlying28 hb M' f' rfl HMF.out (by unfold maxLen; omega) keyS_inj _ (.int .i64 (F'.hd (idN jn) : Nat)) (nameN jn) rfl rfl (key_name jn) ?_; intro w7 hm7 hk7))
           obtain ⟨es, cl, hmb⟩ := HMF.out.block
           have HM7 := Lib.hid hm7
           have HL7 : Hid (LikeN (fun x => if x = nameN jn then some (.int .i64 (F'.hd (idN jn) : Nat)) else f' x) fun t => (F'.hd (idN t) : Int) + if t < jn + 1 then 0 else ((bitN n t).toNat : Int)) := Lib.hid (HLK.out.set hjl (by rw [if_pos (by omega)]; omega) fun t ht hne => by
            by_cases h : t < jn
            · rw [if_pos h, if_pos (by omega)]
            · rw [if_neg h, if_neg (by omega)])
           have HS7 := Lib.hid (HS.out.turnM (Or.inl rfl) hmb hk7)
           have HP7 : Hid (OwnIs w7 hb (some ⟨g2, 0, none⟩) pc (pidL K)) := Lib.hid (HPL.out.keep hk7 fun x cs hx hc e => by
            have e : x.block = hb := e
            rw [e, hmb] at hc; cases hc)
           have HN7 := Lib.hid (hk7.heap (show hb + 1 + 1 ≠ hb by omega) HNB.out)
           have HX7 := Lib.hid ((Keep.of_ext (S := fun j => j < w.heap.size) HX.out).andThen hk7 (fun j hj _ => by have hj : j < w.heap.size := hj; have := HSZ.out; show j ≠ hb; omega)).ext_lt
           clear hm7 hk7 hmb HS HMF HLK HPL HNB HX c0 c4 HV HBT
           obtain ⟨rb, cv, hfd⟩ := sys_find (HE.out.ext HX7.out).env HS7.out (by omega)
           have hfn := hfd (nameN jn)
           obtain ⟨hid1, hid2⟩ := idF08 HLI.out jn
           rw [hid1, hid2] at hfn
           have HFN := Lib.hid hfn
           clear hfd hfn hid1 hid2
           go_upto_region 42 with (go_at_call 13; refine HFN.out.mono ?_; rintro e w8 ⟨rfl, hx8⟩; have HX8 := Lib.hid hx8; clear hx8)
           have hidr : -9223372036854775808 ≤ idN jn ∧ idN jn ≤ 9223372036854775807 := by rcases names3 jn with ⟨_, h⟩ | ⟨_, h⟩ | ⟨_, h⟩ <;> rw [h] <;> decide
           have hq : ∀ nq, Calls Tryz.prog 14 #[.pointer (some ⟨vb, 0, none⟩), .int .i64 (idN jn)] (w8.drewN nq) fun e w'' => e = .returned (.int .i64 (F'.hd (idN jn) : Nat)) ∧ ∃ mq, w'' = w8.drewN mq := fun nq => (sys_held ((HS7.out.ext HX8.out).ext ((Ext.refl w8).drewN nq)) (idN jn) hidr.1 hidr.2).mono fun e w'' ⟨h1, h2⟩ => ⟨h1, nq, h2.symm⟩
           have hv7 := HL7.out jn hjl
           dsimp only at hv7
           rw [if_pos (by omega : jn < jn + 1), Int.add_zero] at hv7
           have hlk := fun nq => ((HM7.out.ext HX8.out).ext ((Ext.refl w8).drewN nq)).lookup str_keyed Tryz.underlying28 (Tryz.zeroValue3 (w8.drewN nq)) (key_name jn)
           rw [hv7] at hlk
           have HQ := Lib.hid hq
           have hbne : (((F'.hd (idN jn) : Nat) : Int) != ((F'.hd (idN jn) : Nat) : Int)) = false := by simp
           clear hq hv7 hidr
           generalize hvv : F'.hd (idN jn) = v at *
           go_quiet ((go_at_call 14; exact HQ.out _))
           have hx9 := (HX8.out).drewN nq
           have HX9 := Lib.hid hx9
           clear hx9 hlk hbne HQ HFN cv HX8
           go_wp2_with fail
           go_roundw
           case rel => exact ⟨jn + 1, M' + 1, _, by go_num, by omega, by omega, Lib.hid (HS7.out.ext HX9.out), Lib.hid (HM7.out.ext HX9.out), HL7, Lib.hid (HP7.out.keep (Keep.of_ext (S := fun _ => True) HX9.out) fun _ _ _ _ => trivial), Lib.hid (HX9.out.heap HN7.out), Lib.hid (HX7.out.trans HX9.out)⟩
           case measure => simp [RowKit.intOf]; omega
         · have hbt1 : bitN n jn = false := by simpa using hbt
           have hbt2 : (bits .and .i64 (n / 2 ^ jn) 1 == 1) = false := hbt1
           have HL7 : Hid (LikeN f' fun t => (F'.hd (idN t) : Int) + if t < jn + 1 then 0 else ((bitN n t).toNat : Int)) := Lib.hid (HLK.out.same fun t ht => by
            by_cases h : t < jn
            · rw [if_pos h, if_pos (by omega)]
            · rw [if_neg h]
              by_cases h2 : t = jn
              · subst h2; rw [if_pos (by omega), hbt1]; rfl
              · rw [if_neg (by omega)])
           have hvl := HHD.out (idN jn)
           clear hbt hbt1
           go_upto_region 41 with fail
           have HM7 := HMF; have HS7 := HS; have HP7 := HPL; have HN7 := HNB; have HX7 := HX
           clear HS HMF HLK HPL HNB HX c0 c4 hbt2
           obtain ⟨rb, cv, hfd⟩ := sys_find (HE.out.ext HX7.out).env HS7.out (by omega)
           have hfn := hfd (nameN jn)
           obtain ⟨hid1, hid2⟩ := idF08 HLI.out jn
           rw [hid1, hid2] at hfn
           have HFN := Lib.hid hfn
           clear hfd hfn hid1 hid2
           go_upto_region 42 with (go_at_call 13; refine HFN.out.mono ?_; rintro e w8 ⟨rfl, hx8⟩; have HX8 := Lib.hid hx8; clear hx8)
           have hidr : -9223372036854775808 ≤ idN jn ∧ idN jn ≤ 9223372036854775807 := by rcases names3 jn with ⟨_, h⟩ | ⟨_, h⟩ | ⟨_, h⟩ <;> rw [h] <;> decide
           have hq : ∀ nq, Calls Tryz.prog 14 #[.pointer (some ⟨vb, 0, none⟩), .int .i64 (idN jn)] (w8.drewN nq) fun e w'' => e = .returned (.int .i64 (F'.hd (idN jn) : Nat)) ∧ ∃ mq, w'' = w8.drewN mq := fun nq => (sys_held ((HS7.out.ext HX8.out).ext ((Ext.refl w8).drewN nq)) (idN jn) hidr.1 hidr.2).mono fun e w'' ⟨h1, h2⟩ => ⟨h1, nq, h2.symm⟩
           have hv7 := HL7.out jn hjl
           dsimp only at hv7
           rw [if_pos (by omega : jn < jn + 1), Int.add_zero] at hv7
           have hlk := fun nq => ((HM7.out.ext HX8.out).ext ((Ext.refl w8).drewN nq)).lookup str_keyed Tryz.underlying28 (Tryz.zeroValue3 (w8.drewN nq)) (key_name jn)
           rw [hv7] at hlk
           have HQ := Lib.hid hq
           have hbne : (((F'.hd (idN jn) : Nat) : Int) != ((F'.hd (idN jn) : Nat) : Int)) = false := by simp
           clear hq hv7 hidr
           generalize hvv : F'.hd (idN jn) = v at *
           go_quiet ((go_at_call 14; exact HQ.out _))
           have hx9 := (HX8.out).drewN nq
           have HX9 := Lib.hid hx9
           clear hx9 hlk hbne HQ HFN cv HX8
           go_wp2_with fail
           go_roundw
           case rel => exact ⟨jn + 1, M', _, by go_num, by omega, by omega, Lib.hid (HS7.out.ext HX9.out), Lib.hid (HM7.out.ext HX9.out), HL7, Lib.hid (HP7.out.keep (Keep.of_ext (S := fun _ => True) HX9.out) fun _ _ _ _ => trivial), Lib.hid (HX9.out.heap HN7.out), Lib.hid (HX7.out.trans HX9.out)⟩
           case measure => simp [RowKit.intOf]; omega
       · obtain rfl : jn = 3 := by omega
         go_wp2_with fail
         go_roundw
         case rel => exact ⟨k + 1, N + 8, M', F', P', f', by go_num, by omega, by omega, by omega, HS, HI2, HMF, Lib.hid (HLK.out.same fun t ht => by rw [if_pos ht]; omega), HPL, HNB, HX⟩
         case measure => simp [RowKit.intOf]; omega
   · obtain rfl : k = K := by omega
     have hln := HI.out.len
     have hpl : (pidsP P).length = 0 := by unfold pidsP; rw [List.length_map]; omega
     have hls := proc_List HS.out (by omega)
     rw [hpl] at hls
     have HLS := Lib.hid hls
     clear hhb0 hgp0 hln hpl hls
     go_wp2_with (go_at_call 15; refine HLS.out.mono ?_; rintro e w5 ⟨a5, c5, rfl, _, hx5⟩; have HX5 := Lib.hid (HX.out.trans hx5); clear hx5)
     exact HFIN.out _ HX5.out
end
omit [Low] in
theorem proc_ends (a : Option Addr) (c : Nat) (L : List Int) (w : World) (hE : Env w) (hA : RunM w a (intV L)) (hl : L.length ≤ 17592186044416) :
 Calls Tryz.prog 3 #[.slice a L.length c] w fun e w' => e = .returned (.bool true) ∧ Ext w w' :=
 @proc_endsW ⟨w.heap.size⟩ a c L w rfl (@EnvL.mk ⟨w.heap.size⟩ w hE (by obtain ⟨m, cs, hh, _⟩ := hE.word; exact (Array.getElem?_eq_some_iff.1 hh).1)) hA hl
end Go.Proofs.YtachelbodpfckaaGreatDoor
