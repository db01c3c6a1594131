/- proc's Spawn. -/
import Derived.Test.YtefpllpichhojaaGreatDoorM3
import Derived.Test.YtefpllpichhojaaGreatDoorM14
namespace Go.Proofs.YtefpllpichhojaaGreatDoor
open Go.RowKit
variable [Low]
section
variable {X : Nat → Prop} {w w' : World} {tb pm vb db kb n N off top : Nat} {q : Int} {F : FileS} {P : TabD} {A : Int → ProcA}
omit [Low] in
theorem holdsF_snoc : ∀ (l : List By) (F : FileS) (M : List Int) (s : By), (holdsF F M l).2 = 0 → holdsF F M (l ++ [s]) = if (holdF (holdsF F M l).1.1.m s).2 = 0 then ((incF (holdsF F M l).1.1 (holdF (holdsF F M l).1.1.m s).1, (holdsF F M l).1.2 ++ [(holdF (holdsF F M l).1.1.m s).1]), 0) else (((holdsF F M l).1.1, (holdsF F M l).1.2), (holdF (holdsF F M l).1.1.m s).2)
 | [], F, M, s, _ => by
   show holdsF F M [s] = _
   have e : ∀ z, holdsF F M [] = z → z = ((F, M), 0) := fun z h => h.symm
   unfold holdsF
   rfl
 | x :: l, F, M, s, h => by
   rw [List.cons_append]
   unfold holdsF at h ⊢
   by_cases hx : (holdF F.m x).2 = 0
   · rw [if_pos hx] at h ⊢
     rw [if_pos hx]
     exact holdsF_snoc l _ _ s h
   · rw [if_neg hx] at h
     exact absurd h hx
omit [Low] in
theorem holdsF_stop : ∀ (l k : List By) (F : FileS) (M : List Int), (holdsF F M l).2 ≠ 0 → holdsF F M (l ++ k) = holdsF F M l
 | [], _, F, M, h => absurd rfl h
 | x :: l, k, F, M, h => by
   rw [List.cons_append]
   unfold holdsF at h ⊢
   by_cases hx : (holdF F.m x).2 = 0
   · rw [if_pos hx] at h
     rw [if_pos hx, if_pos hx]
     exact holdsF_stop l k _ _ h
   · rw [if_neg hx, if_neg hx]
omit [Low] in
theorem procF_iff (P : TabD) (A : Int → ProcA) (x : Int) : x ∈ P.list.map ProcD.pid ↔ (procF P A x).isSome = true := by
 unfold procF
 cases h : getP P x with
 | none =>
   have h2 := getP_none h
   simp only [Option.map_none, Option.isSome_none, Bool.false_eq_true, iff_false]
   intro h3
   obtain ⟨p, hp, e⟩ := List.mem_map.1 h3
   exact h2 p hp e
 | some p =>
   obtain ⟨h2, h3⟩ := getP_some h
   simp only [Option.map_some, Option.isSome_some, iff_true]
   exact List.mem_map.2 ⟨p, h2, h3⟩
omit [Low] in
theorem GoodP.nodup (h : GoodP P) : (P.list.map ProcD.pid).Nodup := by
 refine List.pairwise_map.2 (h.sorted.imp fun {a b} hab e => ?_)
 omega
omit [Low] in
theorem getP_add (P : TabD) (hg : GoodP P) {p : ProcD} (hp : p.pid = P.next) (j : Int) : getP (addP P p) j = if j = P.next then some p else getP P j := by
 unfold getP addP
 show (P.list ++ [p]).find? _ = _
 rw [List.find?_append]
 by_cases hj : j = P.next
 · rw [if_pos hj]
   have h1 : P.list.find? (fun p => decide (p.pid = j)) = none := List.find?_eq_none.2 fun r hr => by
    have := hg.low r hr
    simp; omega
   rw [h1]
   simp [hp, hj]
 · rw [if_neg hj]
   have h1 : [p].find? (fun p => decide (p.pid = j)) = none := by simp [hp]; omega
   rw [h1]
   simp
theorem ProcB.add {wr : World} {base pb : Nat} (h : ProcB X wr tb pm vb N P A) (top : w'.heap[tb]? = some (.cells (tabV vb pm (P.next + 1)) 135 (0, 0))) (hm : MapF keyI w' 3 pm (N + 1) (fun x => if x = P.next then some (.pointer (some ⟨pb, 0, none⟩)) else procF P A x)) (k : Keep (fun g => g ≠ pm ∧ g ≠ tb) wr w') {p : ProcD} {A' : ProcA} (hp : p.pid = P.next) (hblk : A'.blk = pb)
 (hnew : wr.heap[pb]? = some (.cells (procV p A') 128 (0, 0))) (hown : OwnIs wr base A'.ma A'.mc p.maps) (hbase : Low.low ≤ base) (hpb : base ≤ pb) (hold : ∀ r ∈ P.list, (A r.pid).blk < base ∧ ∀ a, (A r.pid).ma = some a → a.block < base) (hX : ∀ g, X g → g < base) (hl : P.list.length < 32) (h8 : p.maps.length ≤ 8) (hids : ∀ i ∈ p.maps, 0 ≤ i ∧ i ≤ 1000000000) :
 ProcB X w' tb pm vb (N + 1) (addP P p) (fun i => if i = P.next then A' else A i) := by
 have hmem : ∀ r ∈ (addP P p).list, (r ∈ P.list ∧ r.pid ≠ P.next) ∨ r = p := fun r hr => by
  rcases List.mem_append.1 hr with hr | hr
  · have := h.good.low r hr
    exact Or.inl ⟨hr, by omega⟩
  · exact Or.inr (List.mem_singleton.1 hr)
 have hA : ∀ r : ProcD, r.pid ≠ P.next → (if r.pid = P.next then A' else A r.pid) = A r.pid := fun r hr => if_neg hr
 have hA2 : (if p.pid = P.next then A' else A p.pid) = A' := if_pos hp
 obtain ⟨es, cl, hmb⟩ := h.mapblk
 have hS : ∀ g cs t, wr.heap[g]? = some (.cells cs t (0, 0)) → t ≠ 135 → g ≠ pm ∧ g ≠ tb := fun g cs t hg ht => ⟨fun e => (by rw [e, hmb] at hg; cases hg), fun e => by
  rw [e, h.top] at hg
  injection (Option.some.inj hg) with _ h3
  exact ht h3.symm⟩
 refine ⟨top, hm.same ?_, ?_, ?_, ?_, h.good.add hp h8 hl, ⟨h.out.1, ?_, fun g hg => Nat.lt_of_lt_of_le (h.out.2.2 g hg) k.size⟩, ⟨h.lows.1, h.lows.2.1, ?_⟩, ?_, ?_, ⟨h.apart.1, ?_⟩⟩
 · funext j
   unfold procF
   rw [getP_add P h.good hp]
   by_cases hj : j = P.next
   · simp [hj, hblk]
   · simp [hj]
 · intro r hr
   rcases hmem r hr with ⟨hr1, hr2⟩ | rfl
   · simp only [hA r hr2]
     have h4 := h.proc r hr1
     exact ⟨k.heap (hS _ _ _ h4.1 (by decide)) h4.1, h4.2.keep k fun x cs _ hc => hS _ _ _ hc (by decide)⟩
   · simp only [hA2, hblk]
     exact ⟨k.heap (hS _ _ _ hnew (by decide)) hnew, (hown.low hbase).keep k fun x cs _ hc => hS _ _ _ hc (by decide)⟩
 · intro r hr s hs e
   rcases hmem r hr with ⟨hr1, hr2⟩ | rfl
   · rcases hmem s hs with ⟨hs1, hs2⟩ | rfl
     · simp only [hA r hr2, hA s hs2] at e
       exact h.blk r hr1 s hs1 e
     · simp only [hA r hr2, hA2, hblk] at e
       have := (hold r hr1).1
       omega
   · rcases hmem s hs with ⟨hs1, hs2⟩ | rfl
     · simp only [hA s hs2, hA2, hblk] at e
       have := (hold s hs1).1
       omega
     · rfl
 · intro r hr s hs a b ha hb e
   rcases hmem r hr with ⟨hr1, hr2⟩ | rfl
   · rcases hmem s hs with ⟨hs1, hs2⟩ | rfl
     · simp only [hA r hr2] at ha
       simp only [hA s hs2] at hb
       exact h.row r hr1 s hs1 a b ha hb e
     · simp only [hA r hr2] at ha
       simp only [hA2] at hb
       have := (hold r hr1).2 a ha
       have := (hown.block hb).1
       omega
   · rcases hmem s hs with ⟨hs1, hs2⟩ | rfl
     · simp only [hA s hs2] at hb
       simp only [hA2] at ha
       have := (hold s hs1).2 b hb
       have := (hown.block ha).1
       omega
     · rfl
 · intro r hr a ha
   rcases hmem r hr with ⟨hr1, hr2⟩ | rfl
   · simp only [hA r hr2] at ha
     exact h.out.2.1 r hr1 a ha
   · simp only [hA2] at ha
     have := (hown.block ha).1
     exact fun hx => by have := hX _ hx; omega
 · intro r hr
   rcases hmem r hr with ⟨hr1, hr2⟩ | rfl
   · simp only [hA r hr2]; exact h.lows.2.2 r hr1
   · simp only [hA2, hblk]; omega
 · intro r hr
   rcases hmem r hr with ⟨hr1, hr2⟩ | rfl
   · exact h.ids r hr1
   · exact hids
 · have := h.next
   show P.next + 1 ≤ _
   omega
 · intro r hr
   rcases hmem r hr with ⟨hr1, hr2⟩ | rfl
   · simp only [hA r hr2]; exact h.apart.2 r hr1
   · simp only [hA2, hblk]
     exact fun hx => by have := hX _ hx; omega
theorem ProcB.sizes (h : ProcB X w tb pm vb N P A) : ∀ r ∈ P.list, (A r.pid).blk < w.heap.size ∧ ∀ a, (A r.pid).ma = some a → a.block < w.heap.size := fun r hr => by
 have h4 := h.proc r hr
 refine ⟨(Array.getElem?_eq_some_iff.1 h4.1).1, fun a ha => ?_⟩
 obtain ⟨_, _, cs, hc⟩ := h4.2.block ha
 exact (Array.getElem?_eq_some_iff.1 hc).1
set_option maxRecDepth 100000 in
set_option maxHeartbeats 12800000 in
theorem proc_Spawn (hE : EnvL w) (h : SysP X w tb vb db kb n N off top q F P) (hlw : Low.low ≤ w.heap.size) (u : By) (paths : List By) (a : Option Addr) (c : Nat) (hS : ∀ W, KeepY X w W → Strs W a paths) (hl : paths.length ≤ 1099511627776) (hN : N + 20 ≤ 1000000000) :
 Calls Tryz.prog 15 #[.pointer (some ⟨tb, 0, none⟩), .string (bs u), .slice a paths.length c] w fun e w' => e = .returned (.tuple #[.int .i64 (spawnF F P u paths).2.1, .int .i64 (spawnF F P u paths).2.2]) ∧ SysP X w' tb vb db kb n (N + 20) off top q (spawnF F P u paths).1.1 (spawnF F P u paths).1.2 ∧ KeepP X w w' := by
 have hspawn := h
 obtain ⟨R, hR⟩ : ∃ R : Ending → World → Prop, R = fun e w' => e = .returned (.tuple #[.int .i64 (spawnF F P u paths).2.1, .int .i64 (spawnF F P u paths).2.2]) ∧ SysP X w' tb vb db kb n (N + 20) off top q (spawnF F P u paths).1.1 (spawnF F P u paths).1.2 ∧ KeepP X w w' := ⟨_, rfl⟩
 rw [← hR]
 have HR := Lib.hid hR; clear hR
 have HSY := Lib.hid hspawn; clear hspawn
 obtain ⟨pm, A, hb, hv, hh⟩ := h
 obtain ⟨m, hm⟩ : ∃ m, m = paths.length := ⟨_, rfl⟩
 rw [← hm] at hl ⊢
 have c1 := blk_cell hb.top 1 (.map (some pm)) rfl
 have c2 := blk_cell hb.top 2 (.int .i64 P.next) rfl
 have hlen := fun ty => hb.map.size_ints hb.good.nodup (procF_iff P A) ty Tryz.underlying133
 rw [List.length_map] at hlen
 have HM := Lib.hid hm; have HE := Lib.hid hE; have HB := Lib.hid hb; have HV := Lib.hid hv; have HH := Lib.hid hh; have HLW := Lib.hid hlw; have HS := Lib.hid hS
 have hnx : 1 ≤ P.next ∧ P.next ≤ 1000000000 := ⟨hb.good.next, by have := hb.next; omega⟩
 obtain ⟨L, hL⟩ : ∃ L, L = P.list.length := ⟨_, rfl⟩
 rw [← hL] at hlen
 have hL32 : L ≤ 32 := by rw [hL]; exact hb.good.few
 have HLL := Lib.hid hL
 obtain ⟨nx, hnn⟩ : ∃ nx, nx = P.next := ⟨_, rfl⟩
 rw [← hnn] at hnx c2
 have HNX := Lib.hid hnn
 clear hm hE hb hv hh hlw hS hL hnn
 by_cases h8 : 8 < m
 · have hsp : spawnF F P u paths = ((F, P), (0, 22)) := by unfold spawnF; rw [if_pos (by rw [← HM.out]; exact h8)]
   have HSP := Lib.hid hsp
   have hd8 : decide ((8 : Int) < (m : Int)) = true := by simp; omega
   clear hsp
   go_enter Tryz.func15, Tryz.ntmps15
   go_wp2_with fail
   rw [HR.out, HSP.out]
   exact ⟨rfl, HSY.out.mono (by omega), KeepP.refl _ _⟩
 · have hd8 : decide ((8 : Int) < (m : Int)) = false := by simp; omega
   by_cases h32 : 32 ≤ L
   · have hsp : spawnF F P u paths = ((F, P), (0, 7)) := by unfold spawnF; rw [if_neg (by rw [← HM.out]; exact h8), if_pos (by rw [← HLL.out]; exact h32)]
     have HSP := Lib.hid hsp
     have hd32 : decide ((32 : Int) ≤ (L : Int)) = true := by simp; omega
     clear hsp
     go_enter Tryz.func15, Tryz.ntmps15
     go_wp2_with fail
     rw [HR.out, HSP.out]
     exact ⟨rfl, HSY.out.mono (by omega), KeepP.refl _ _⟩
   · have hd32 : decide ((32 : Int) ≤ (L : Int)) = false := by simp; omega
     have hsp : spawnF F P u paths = if (holdsF F [] paths).2 = 0 then (((holdsF F [] paths).1.1, addP P ⟨P.next, u, (holdsF F [] paths).1.2, false⟩), (P.next, 0)) else ((letsF (holdsF F [] paths).1.1 (holdsF F [] paths).1.2, P), (0, (holdsF F [] paths).2)) := by
      conv => lhs; unfold spawnF
      rw [if_neg (by rw [← HM.out]; exact h8), if_neg (by rw [← HLL.out]; exact h32)]
     have HSP := Lib.hid hsp
     clear hsp HSY
     go_enter Tryz.func15, Tryz.ntmps15
     go_wp2_with fail
     obtain ⟨w0, hw0⟩ : ∃ w0, w0 = w.alloc (.cells (procV ⟨nx, u, [], false⟩ ⟨w.heap.size, none, 0⟩) 128) := ⟨_, rfl⟩
     obtain ⟨pb, hpb⟩ : ∃ pb, pb = w.heap.size := ⟨_, rfl⟩
     have hw1 : w.alloc (.cells #[.int .i64 nx, .string (bs u), .slice none 0 0, .bool false] 128) = w0 := by rw [hw0]; rfl
     have hx0 : Ext w w0 := by rw [hw0]; exact Ext.alloc _ _
     have hp0 : w0.heap[pb]? = some (.cells (procV ⟨nx, u, [], false⟩ ⟨pb, none, 0⟩) 128 (0, 0)) := by rw [hw0, hpb]; exact heap_alloc_new w _
     have hs0 : pb < w0.heap.size := (Array.getElem?_eq_some_iff.1 hp0).1
     simp only [hw1, ← hpb]
     have HPB := Lib.hid hpb; have HX0 := Lib.hid hx0; have HP0 := Lib.hid hp0; have HS0 := Lib.hid hs0
     clear hw0 hw1 hx0 hp0 hpb hs0
     go_loopw [32] (fun i wr => ∃ (k : Nat) (A' : ProcA), i = .int .i64 k ∧ k ≤ m ∧ Hid ((holdsF F [] (paths.take k)).2 = 0) ∧ Hid (wr.heap[pb]? = some (.cells (procV ⟨nx, u, (holdsF F [] (paths.take k)).1.2, false⟩ A') 128 (0, 0))) ∧ Hid (OwnIs wr pb A'.ma A'.mc (holdsF F [] (paths.take k)).1.2) ∧ Hid (VolK (AndM X pm) wr vb db kb n (N + k) off top q (holdsF F [] (paths.take k)).1.1.m (holdsF F [] (paths.take k)).1.1.hd) ∧ Hid (∀ i ∈ (holdsF F [] (paths.take k)).1.2, 0 ≤ i ∧ i ≤ 1000000000) ∧ Hid (KeepY (AndM X pm) w wr)) (fun i _ => m - (RowKit.intOf i).toNat)
     case atStart => exact ⟨0, ⟨pb, none, 0⟩, rfl, Nat.zero_le _, Lib.hid rfl, HP0, Lib.hid (OwnIs.none _ _), Lib.hid (HV.out.ext HX0.out), Lib.hid (fun i hi => absurd hi List.not_mem_nil), Lib.hid (KeepY.of_ext HX0.out)⟩
     case round =>
      clear HP0 HX0 HS0
      obtain ⟨k, A', rfl, hk, H0, HP, HRW, HVK, HID, HY⟩ := hrel
      have hml : m = paths.length := HM.out
      have hMl : (holdsF F [] (paths.take k)).1.2.length ≤ 8 := by
       have h1 := holdsF_len (paths.take k) F []
       rw [List.length_nil, List.length_take] at h1
       omega
      have hcount : ∀ i, (holdsF F [] (paths.take k)).1.1.hd i = F.hd i + cntM (holdsF F [] (paths.take k)).1.2 i := fun i => by
       have := holdsF_hd (paths.take k) F [] i
       rw [show cntM [] i = 0 from rfl] at this
       omega
      have hhd : ∀ i, (holdsF F [] (paths.take k)).1.1.hd i ≤ 300 := fun i => by
       have h1 := hcount i
       have h2 := HH.out.le HB.out.good i
       have h3 := cntM_le (holdsF F [] (paths.take k)).1.2 i
       omega
      have hpbl : Low.low ≤ pb := by have := HLW.out; have := HPB.out; omega
      by_cases hlt : k < m
      · have hkL : k < paths.length := by omega
        have hst : Strs wr a paths := HS.out wr (KeepX.mono HY.out (List.Subset.refl _) fun g hg => Or.inl hg)
        rcases hst with hst | ⟨g, o, rfl, _, hc⟩
        · rw [hst] at hkL; simp at hkL
        have hpk : paths.getD k [] = paths[k] := by simp [List.getD_eq_getElem?_getD, List.getElem?_eq_getElem hkL]
        have c4 : wr.cell? ⟨g, o + k, none⟩ = some (.string (bs paths[k])) := by rw [← hpk]; exact hc k hkL
        clear hpk
        have hts : paths.take (k + 1) = paths.take k ++ [paths[k]] := List.take_succ_eq_append_getElem hkL
        have hall : paths = paths.take (k + 1) ++ paths.drop (k + 1) := (List.take_append_drop _ _).symm
        generalize paths[k] = s at c4 hts
        obtain ⟨Fk, Mk, hFM⟩ : ∃ Fk Mk, holdsF F [] (paths.take k) = ((Fk, Mk), 0) := ⟨_, _, by rw [← H0.out]⟩
        rw [hFM] at HP HRW HVK HID hMl hcount hhd
        dsimp only at HP HRW HVK HID hMl hcount hhd
        have hsn := holdsF_snoc (paths.take k) F [] s (by rw [hFM])
        rw [← hts, hFM] at hsn
        have hcall := proc_hold (HE.out.keepY HY.out) (KeepX.heap HY.out HB.out.top (by decide)) HP.out HRW.out HVK.out s hpbl (Nat.le_of_lt (Array.getElem?_eq_some_iff.1 HP.out).1) hpbl (by omega) (fun i => by have := hhd i; omega) (by show Mk.length ≤ 100; omega)
        have hgid := fun hz => HVK.out.hold_id (p := s) hz
        clear hc hkL
        by_cases hz : (holdF Fk.m s).2 = 0
        · have hnext : holdsF F [] (paths.take (k + 1)) = ((heldF Fk s, gotM Fk.m Mk s), 0) := by
           rw [hsn, if_pos hz]
           unfold heldF gotM
           rw [if_pos hz, if_pos hz]
          have hid2 : ∀ i ∈ gotM Fk.m Mk s, 0 ≤ i ∧ i ≤ 1000000000 := fun i hi => by
           unfold gotM at hi
           rw [if_pos hz] at hi
           rcases List.mem_append.1 hi with hi | hi
           · exact HID.out i hi
           · have := hgid hz
             rw [List.mem_singleton.1 hi]
             omega
          rw [hz] at hcall
          have HC := Lib.hid hcall; have HNX2 := Lib.hid hnext; have HID2 := Lib.hid hid2
          clear hcall hnext hid2 hgid hsn hts hFM hz hall hml hMl hcount hhd
          go_wp2_with (go_at_call 71; refine HC.out.mono ?_; rintro e w1 ⟨A1, rfl, hp1, hr1, hv1, hk1, _⟩; have HP1 := Lib.hid hp1; have HR1 := Lib.hid hr1; have HV1 := Lib.hid hv1; have HK1 := Lib.hid hk1; clear hp1 hr1 hv1 hk1)
          go_roundw
          case rel =>
           refine ⟨k + 1, A1, by go_num, by omega, Lib.hid ?_, Lib.hid ?_, Lib.hid ?_, Lib.hid ?_, Lib.hid ?_, Lib.hid (HY.out.andH HK1.out (Nat.le_of_eq HPB.out.symm) fun x hx => by have := (HRW.out.block hx).1; have := HPB.out; omega)⟩
           · rw [HNX2.out]
           · rw [HNX2.out]; exact HP1.out
           · rw [HNX2.out]; exact HR1.out
           · rw [HNX2.out]; exact HV1.out
           · rw [HNX2.out]; exact HID2.out
          case measure => simp [RowKit.intOf]; omega
        · have hzb : ((holdF Fk.m s).2 != 0) = true := bne_iff_ne.2 hz
          have hgot : gotM Fk.m Mk s = Mk := by unfold gotM; rw [if_neg hz]
          have hheld : heldF Fk s = Fk := by unfold heldF; rw [if_neg hz]
          rw [if_neg hz] at hsn
          have hfin : holdsF F [] paths = ((Fk, Mk), (holdF Fk.m s).2) := by
           have h1 := holdsF_stop (paths.take (k + 1)) (paths.drop (k + 1)) F [] (by rw [hsn]; exact hz)
           rw [← hall] at h1
           rw [h1, hsn]
          have hsp2 : spawnF F P u paths = ((letsF Fk Mk, P), (0, (holdF Fk.m s).2)) := by
           rw [HSP.out, hfin]
           exact if_neg hz
          rw [hgot, hheld] at hcall
          generalize (holdF Fk.m s).2 = z at hcall hzb hsp2
          have HC := Lib.hid hcall; have HSP2 := Lib.hid hsp2; have HCNT := Lib.hid hcount; have HHD := Lib.hid hhd; have HML := Lib.hid hMl
          clear hcall hsp2 hgid hsn hts hFM hz hall hgot hheld hfin hcount hhd hMl HSP hml
          go_wp2_with (first
           | (go_at_call 71; refine HC.out.mono ?_; rintro e w1 ⟨A1, rfl, hp1, hr1, hv1, hk1, hfr⟩; have hy1 := HY.out.andH hk1 (Nat.le_of_eq HPB.out.symm) (fun x hx => by have := (HRW.out.block hx).1; have := HPB.out; omega); have HR1 := Lib.hid hr1; have HY1 := Lib.hid hy1; have hfree := proc_free (KeepX.heap hy1 HB.out.top (by decide)) hp1 hr1 hv1 hpbl (by show N + k + 1 + Mk.length ≤ _; have := HML.out; omega) HID.out (fun i => by have h1 := HCNT.out i; have h2 := HHD.out i; exact ⟨by show cntM Mk i ≤ Fk.hd i; omega, by show Fk.hd i ≤ _; omega⟩) (by show Mk.length ≤ 100; have := HML.out; omega); have HF := Lib.hid hfree; clear hp1 hr1 hv1 hk1 hfr hy1 hfree)
           | (go_at_call 72; refine HF.out.mono ?_; rintro e w2 ⟨rfl, hp2, hv2, hk2⟩; have HV2 := Lib.hid hv2; have HY2 := Lib.hid (HY1.out.andH hk2 (Nat.le_of_eq HPB.out.symm) (fun x hx => by cases hx)); clear hp2 hv2 hk2))
          rw [HR.out, HSP2.out]
          have hm8 : Mk.length ≤ 8 := HML.out
          have hhs := HH.out.spawn u paths
          rw [HSP2.out] at hhs
          exact ⟨rfl, ⟨pm, A, (HB.out.keepY HY2.out).mono (by omega), HV2.out.mono (by show N + k + 1 + Mk.length ≤ _; omega), hhs⟩, KeepP.of_keepY HY2.out fun g hg => Or.inl hg⟩
      · have hpt : paths.take k = paths := List.take_of_length_le (by omega)
        rw [hpt] at H0 HP HRW HVK HID hMl
        have hsp2 : spawnF F P u paths = (((holdsF F [] paths).1.1, addP P ⟨P.next, u, (holdsF F [] paths).1.2, false⟩), (P.next, 0)) := by
         rw [HSP.out, if_pos H0.out]
        obtain ⟨Fk, Mk, hFM⟩ : ∃ Fk Mk, holdsF F [] paths = ((Fk, Mk), 0) := ⟨_, _, by rw [← H0.out]⟩
        rw [hFM] at HP HRW HVK HID hMl hsp2
        dsimp only at HP HRW HVK HID hMl hsp2
        rw [← HNX.out] at hsp2
        have HSP2 := Lib.hid hsp2; have HML := Lib.hid hMl
        have htop := KeepX.heap HY.out HB.out.top (by decide)
        rw [← HNX.out] at htop
        obtain ⟨es, cl, hmb⟩ := HB.out.mapblk
        have hmb1 : wr.heap[pm]? = some (.map es cl) := KeepX.map HY.out hmb (Or.inr rfl)
        have hne1 : pb ≠ tb := fun e => by
         have h1 := HP.out
         rw [e, htop] at h1
         injection (Option.some.inj h1) with _ h3
         exact absurd h3 (by decide)
        have hne3 : tb ≠ pb := fun e => hne1 e.symm
        have hmap : MapF keyI wr 3 pm N (procF P A) := HB.out.map.keep HY.out (Or.inr (Or.inl ⟨Or.inr rfl, es, cl, hmb⟩))
        have hmc : ∀ W, Ext wr W → MapF keyI W 3 pm N (procF P A) := fun W k => hmap.ext k
        have hcs : ∀ W, Ext wr W → (W.cell? ⟨tb, 1, none⟩ = some (.map (some pm)) ∧ W.cell? ⟨pb, 0, none⟩ = some (.int .i64 nx)) := fun W k => ⟨blk_cell (k.heap htop) 1 _ rfl, blk_cell (k.heap HP.out) 0 _ rfl⟩
        have hnm : ∀ g cs t fr, wr.heap[g]? = some (.cells cs t fr) → g ≠ pm := fun g cs t fr hg e => by rw [e, hmb1] at hg; cases hg
        have hcs2 : ∀ W W', Ext wr W → Keep (· ≠ pm) W W' → (W'.cell? ⟨tb, 1, none⟩ = some (.map (some pm)) ∧ W'.cell? ⟨pb, 0, none⟩ = some (.int .i64 nx)) := fun W W' k k' => ⟨blk_cell (k'.heap (hnm _ _ _ _ htop) (k.heap htop)) 1 _ rfl, blk_cell (k'.heap (hnm _ _ _ _ HP.out) (k.heap HP.out)) 0 _ rfl⟩
        have HMC := Lib.hid hmc; have HCS := Lib.hid hcs; have HCS2 := Lib.hid hcs2; have HTOP := Lib.hid htop; have HNM := Lib.hid hnm
        have hkey := key_int (i := nx) (by omega) (by omega)
        clear hmc hcs hcs2 htop hnm hmap hmb hmb1 hMl hsp2 hFM hpt hcount hhd hml
        go_upto_region 14 with fail
        have HK := Lib.hid ((Ext.refl wr).drew)
        refine wp_region_noPanic ?_
        refine wp_region_held_drew (S := (fun W => W.cell? ⟨tb, 1, none⟩ = some (.map (some pm)) ∧ W.cell? ⟨pb, 0, none⟩ = some (.int .i64 nx))) (by kernel_rfl) (HCS.out _ HK.out) (fun hHeld => ?_)
        clear hHeld
        generalize wr.drew = wc at HK ⊢
        refine wpAnyH_take (i := 0) (v := ?_) rfl (by kernel_rfl) (by kernel_rfl) (by kernel_rfl) (fun _ _ _ h => h) (Or.inl ⟨by kernel_rfl, ?_⟩) (HCS.out _ HK.out) ?_
        rotate_left
        · (intro wq _; first | (go_simp; done) | (go_simp; with_reducible rfl))
        try simp only [List.getElem_toArray, List.getElem_cons_zero, Act.put, List.setIfInBounds_toArray, List.set_cons_zero, List.set_cons_succ]
        refine wpAnyH_take (i := 1) (v := ?_) rfl (by kernel_rfl) (by kernel_rfl) (by kernel_rfl) (fun _ _ _ h => h) (Or.inl ⟨by kernel_rfl, ?_⟩) (HCS.out _ HK.out) ?_
        rotate_left
        · (intro wq _; first | (go_simp; done) | (go_simp; with_reducible rfl))
        try simp only [List.getElem_toArray, List.getElem_cons_zero, List.getElem_cons_succ, Act.put, List.setIfInBounds_toArray, List.set_cons_zero, List.set_cons_succ]
        refine wpAnyH_take (i := 2) (v := ?_) rfl (by kernel_rfl) (by kernel_rfl) (by kernel_rfl) (fun _ _ _ h => h) (Or.inl ⟨by kernel_rfl, ?_⟩) (HCS.out _ HK.out) ?_
        rotate_left
        · (intro wq _; first | (go_simp; done) | (go_simp; with_reducible rfl))
        try simp only [List.getElem_toArray, List.getElem_cons_zero, List.getElem_cons_succ, Act.put, List.setIfInBounds_toArray, List.set_cons_zero, List.set_cons_succ]
        refine wpAnyH_take (i := 3) (v := ?_) rfl (by kernel_rfl) (by kernel_rfl) (by kernel_rfl) (fun _ _ _ h => h) (Or.inl ⟨by kernel_rfl, ?_⟩) (HCS.out _ HK.out) ?_
        rotate_left
        · (intro wq hSw; (try dsimp only at hSw); first | (go_simp; done) | (go_simp; with_reducible rfl))
        try simp only [List.getElem_toArray, List.getElem_cons_zero, List.getElem_cons_succ, Act.put, List.setIfInBounds_toArray, List.set_cons_zero, List.set_cons_succ]
        refine wpAnyH_take (i := 4) (v := ?_) rfl (by kernel_rfl) (by kernel_rfl) (by kernel_rfl) (fun _ _ _ h => h) (Or.inl ⟨by kernel_rfl, ?_⟩) (HCS.out _ HK.out) ?_
        rotate_left
        · (intro wq _; first | (go_simp; done) | (go_simp; with_reducible rfl))
        try simp only [List.getElem_toArray, List.getElem_cons_zero, List.getElem_cons_succ, Act.put, List.setIfInBounds_toArray, List.set_cons_zero, List.set_cons_succ]
        refine wpAnyH_take (i := 5) (v := ?_) rfl (by kernel_rfl) (by kernel_rfl) (by kernel_rfl) (fun _ _ _ h => h) (Or.inl ⟨by kernel_rfl, ?_⟩) (HCS.out _ HK.out) ?_
        rotate_left
        · (intro wq _; first | (go_simp; done) | (go_simp; with_reducible rfl))
        try simp only [List.getElem_toArray, List.getElem_cons_zero, List.getElem_cons_succ, Act.put, List.setIfInBounds_toArray, List.set_cons_zero, List.set_cons_succ]
        refine wpAnyH_take (i := 6) (v := ?_) rfl (by kernel_rfl) (by kernel_rfl) (by kernel_rfl) (fun _ _ _ h => h) (Or.inl ⟨by kernel_rfl, ?_⟩) (HCS.out _ HK.out) ?_
        rotate_left
        · (intro wq _; first | (go_simp; done) | (go_simp; with_reducible rfl))
        try simp only [List.getElem_toArray, List.getElem_cons_zero, List.getElem_cons_succ, Act.put, List.setIfInBounds_toArray, List.set_cons_zero, List.set_cons_succ]
        refine wpAnyH_take (i := 7) (v := ?_) rfl (by kernel_rfl) (by kernel_rfl) (by kernel_rfl) (fun _ _ _ h => h) (Or.inl ⟨by kernel_rfl, ?_⟩) (HCS.out _ HK.out) ?_
        rotate_left
        · (intro wq hSw; (try dsimp only at hSw); first | (go_simp; done) | (go_simp; with_reducible rfl))
        try simp only [List.getElem_toArray, List.getElem_cons_zero, List.getElem_cons_succ, Act.put, List.setIfInBounds_toArray, List.set_cons_zero, List.set_cons_succ]
        refine wpAnyH_take (i := 8) (v := ?_) rfl (by kernel_rfl) (by kernel_rfl) (by kernel_rfl) (fun _ _ _ h => h) (Or.inl ⟨by kernel_rfl, ?_⟩) (HCS.out _ HK.out) ?_
        rotate_left
        · (intro wq _; first | (go_simp; done) | (go_simp; with_reducible rfl))
        try simp only [List.getElem_toArray, List.getElem_cons_zero, List.getElem_cons_succ, Act.put, List.setIfInBounds_toArray, List.set_cons_zero, List.set_cons_succ]
        all_goals (
         refine wpAnyH_ready (rs := [9]) (by kernel_rfl) (by simp) ?_
         refine AllReadyH.cons rfl (fun K hK => ?_) AllReadyH.nil
         obtain ⟨w1, hrun, hm1, hk1⟩ := (HMC.out _ HK.out).store (t := 133) int_keyedA Tryz.underlying133 (by unfold maxLen; omega) keyI_inj (.pointer (some ⟨pb, 0, none⟩)) hkey
         go_simp
         refine hK.out _ _ (HCS2.out _ _ HK.out hk1) (fun _ => ?_)
         clear hK K hrun
         try simp only [List.getElem_toArray, List.getElem_cons_zero, List.getElem_cons_succ, Act.put, List.setIfInBounds_toArray, List.set_cons_zero, List.set_cons_succ])
        all_goals (
         refine wpAnyH_done (by kernel_rfl) ?_ _
         refine NoPanic.normal ?_
         have HM1 := Lib.hid hm1; have HK1 := Lib.hid hk1; clear hm1 hk1)
        have ht1 := HK1.out.heap (HNM.out _ _ _ _ HTOP.out) (HK.out.heap HTOP.out)
        have hq1 := HK1.out.heap (HNM.out _ _ _ _ HP.out) (HK.out.heap HP.out)
        have c2 := blk_cell ht1 2 (.int .i64 nx) rfl
        have f2 := blk_free ht1 2
        have c5 := blk_cell hq1 0 (.int .i64 nx) rfl
        have HT1 := Lib.hid ht1; have HQ1 := Lib.hid hq1
        clear ht1 hq1
        go_wp2_with fail
        have hret : ∀ {x y x' y' : Value}, x = x' → y = y' → Ending.returned (.tuple #[x, y]) = .returned (.tuple #[x', y']) := fun h1 h2 => by rw [h1, h2]
        rw [HR.out, HSP2.out]
        have hset : Keep (· ≠ tb) w1 (w1.setCell ⟨tb, 2, none⟩ (.int .i64 (nx + 1))) := (Keep.refl _ _).setCell (fun _ h => h) _ _
        have hkw : Keep (fun g => g ≠ pm ∧ g ≠ tb) wr (w1.setCell ⟨tb, 2, none⟩ (.int .i64 (nx + 1))) := ((Keep.of_ext HK.out).andThen HK1.out fun j _ hj => hj.1).andThen hset fun j _ hj => hj.2
        have htop2 : (w1.setCell ⟨tb, 2, none⟩ (.int .i64 (nx + 1))).heap[tb]? = some (.cells (tabV vb pm (nx + 1)) 135 (0, 0)) := by
         rw [setCell_row HT1.out (i := 2) (.int .i64 (nx + 1))]
         unfold tabV
         simp
        have hB := HB.out.keepY HY.out
        have hsz := HB.out.sizes
        have hpw := HPB.out
        have hnb : tb ≠ pm := fun e => by
         obtain ⟨es, cl, hmb⟩ := hB.mapblk
         have h1 := hB.top
         rw [e, hmb] at h1
         cases h1
        have hadd := hB.add (w' := w1.setCell ⟨tb, 2, none⟩ (.int .i64 (nx + 1))) (base := pb) (pb := pb) (p := ⟨nx, u, Mk, false⟩) (A' := ⟨pb, A'.ma, A'.mc⟩) (by rw [← HNX.out]; exact htop2) (by rw [← HNX.out]; exact HM1.out.keep hset fun e => hnb e.symm) hkw HNX.out rfl HP.out HRW.out hpbl (Nat.le_refl _) (fun r hr => ⟨by have := (hsz r hr).1; omega, fun x hx => by have := (hsz r hr).2 x hx; omega⟩) (fun g hg => by have := HB.out.out.2.2 g hg; omega) (by have := HLL.out; omega) HML.out HID.out
        have hhs := HH.out.spawn u paths
        rw [HSP2.out] at hhs
        obtain ⟨es, cl, hmb⟩ := hB.mapblk
        have hv1 : VolK (AndM X pm) w1 vb db kb n (N + k) off top q Fk.m Fk.hd := (HVK.out.ext HK.out).keepM (Or.inr rfl) (HK.out.heap hmb) HK1.out
        have hv2 := hv1.keepT (KeepT.ne (ts := [135]) hset HT1.out (List.mem_singleton.2 rfl) HB.out.lows.1) (by decide)
        have hkp1 : KeepP X w wr := KeepP.of_keepY HY.out fun g hg => Or.inl hg
        have hkp2 : KeepP X wr w1 := (KeepP.of_ext HK.out).trans (KeepP.of_map HK1.out HB.out.lows.2.1 HB.out.out.1 (HK.out.heap hmb))
        refine ⟨hret rfl rfl, ⟨pm, _, hadd.mono (by omega), hv2.mono (by omega), hhs⟩, (hkp1.trans hkp2).trans (KeepP.of_cells hset HT1.out (by decide) HB.out.apart.1 HB.out.lows.1)⟩
end
end Go.Proofs.YtefpllpichhojaaGreatDoor
