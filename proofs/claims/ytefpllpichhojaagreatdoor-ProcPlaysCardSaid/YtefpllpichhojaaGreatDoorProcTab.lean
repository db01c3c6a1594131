/- proc's New, Exit, Kill, Pick. -/
import Derived.Test.YtefpllpichhojaaGreatDoorProcHold
namespace Go.Proofs.YtefpllpichhojaaGreatDoor
open Go.RowKit
variable [Low]
section
variable {X : Nat → Prop} {w w' : World} {tb pm vb db kb n N off top : Nat} {q : Int} {F : FileS} {P : TabD} {A : Int → ProcA}
theorem ProcB.mapblk (h : ProcB X w tb pm vb N P A) : ∃ es cl, w.heap[pm]? = some (.map es cl) := h.map.block
theorem ProcB.keep {S : Nat → Prop} (h : ProcB X w tb pm vb N P A) (k : Keep S w w') (h1 : S tb) (h2 : S pm) (h3 : ∀ p ∈ P.list, S (A p.pid).blk ∧ ∀ a, (A p.pid).ma = some a → S a.block) : ProcB X w' tb pm vb N P A :=
 ⟨k.heap h1 h.top, h.map.keep k h2, fun p hp => ⟨k.heap (h3 p hp).1 (h.proc p hp).1, (h.proc p hp).2.keep k fun x _ hx _ => (h3 p hp).2 x hx⟩, h.blk, h.row, h.good, ⟨h.out.1, h.out.2.1, fun g hg => Nat.lt_of_lt_of_le (h.out.2.2 g hg) k.size⟩, h.lows, h.ids, h.next, h.apart⟩
theorem ProcB.ext (h : ProcB X w tb pm vb N P A) (k : Ext w w') : ProcB X w' tb pm vb N P A :=
 h.keep (Keep.of_ext (S := fun _ => True) k) trivial trivial fun _ _ => ⟨trivial, fun _ _ => trivial⟩
theorem ProcB.mono (h : ProcB X w tb pm vb N P A) {M : Nat} (hM : N ≤ M) : ProcB X w tb pm vb M P A :=
 ⟨h.top, h.map.mono hM, h.proc, h.blk, h.row, h.good, h.out, h.lows, h.ids, by have := h.next; omega, h.apart⟩
theorem ProcB.keepY (h : ProcB X w tb pm vb N P A) (k : KeepY (AndM X pm) w w') : ProcB X w' tb pm vb N P A := by
 obtain ⟨es, cl, hm⟩ := h.mapblk
 refine h.keep k (Or.inr (Or.inr ⟨_, _, _, h.top, by decide⟩)) (Or.inr (Or.inl ⟨Or.inr rfl, es, cl, hm⟩)) fun p hp => ⟨Or.inr (Or.inr ⟨_, _, _, (h.proc p hp).1, by decide⟩), fun a ha => ?_⟩
 obtain ⟨_, _, cs, hc⟩ := (h.proc p hp).2.block ha
 exact Or.inr (Or.inr ⟨_, _, _, hc, by decide⟩)
theorem SysP.ext (h : SysP X w tb vb db kb n N off top q F P) (k : Ext w w') : SysP X w' tb vb db kb n N off top q F P := by
 obtain ⟨pm, A, h1, h2, h3⟩ := h
 exact ⟨pm, A, h1.ext k, h2.ext k, h3⟩
theorem SysP.mono (h : SysP X w tb vb db kb n N off top q F P) {M : Nat} (hM : N ≤ M) : SysP X w tb vb db kb n M off top q F P := by
 obtain ⟨pm, A, h1, h2, h3⟩ := h
 exact ⟨pm, A, h1.mono hM, h2.mono hM, h3⟩
omit [Low] in
theorem cntM_sum (i : Int) : ∀ (L : List ProcD), (∀ p ∈ L, p.maps.length ≤ 8) → (L.map fun p => cntM p.maps i).sum ≤ 8 * L.length
 | [], _ => Nat.le_refl _
 | p :: L, h => by
   have h1 := cntM_sum i L fun p hp => h p (List.mem_cons_of_mem _ hp)
   have h2 := cntM_le p.maps i
   have h3 := h p List.mem_cons_self
   rw [List.map_cons, List.sum_cons, List.length_cons]
   omega
omit [Low] in
theorem HeldBy.le (h : HeldBy F P) (hg : GoodP P) (i : Int) : F.hd i ≤ 256 := by
 rw [h i]
 have h1 := cntM_sum i P.list hg.maps
 have h2 := hg.few
 unfold cntP
 omega
omit [Low] in
theorem HeldBy.has (h : HeldBy F P) {p : ProcD} (hp : p ∈ P.list) (i : Int) : cntM p.maps i ≤ F.hd i := by
 rw [h i]
 unfold cntP
 generalize P.list = L at hp
 induction L with
 | nil => exact absurd hp List.not_mem_nil
 | cons x L ih =>
   rw [List.map_cons, List.sum_cons]
   rcases List.mem_cons.1 hp with rfl | hp
   · omega
   · have := ih hp; omega
theorem KeepH.toP {Y : Nat → Prop} {pb : Nat} {ro : Option Addr} (k : KeepH Y pb ro w w') (hY : ∀ g, X g → Y g) (hp : ∃ cs fr, w.heap[pb]? = some (.cells cs 128 fr)) (hpx : ¬ X pb) (hpl : Low.low ≤ pb) (hr : ∀ x, ro = some x → Low.low ≤ x.block ∧ ¬ X x.block ∧ ∃ cs, w.heap[x.block]? = some (.cells cs 3 (0, 0))) : KeepP X w w' :=
 Keep.mono k fun g _ hg => by
  obtain ⟨cp, fp, hp⟩ := hp
  rcases hg with hl | ⟨hx, hm⟩ | ⟨cs, t, fr, hm, ht⟩
  · exact ⟨Or.inl hl, by omega, fun x hx e => by have := (hr x hx).1; omega⟩
  · refine ⟨?_, fun e => hpx (e ▸ hx), fun x h e => (hr x h).2.1 (e ▸ hx)⟩
    rcases hm with ⟨es, cl, hm⟩ | ⟨cs, t, fr, hm, ht⟩
    · exact Or.inr (Or.inl ⟨hY g hx, es, cl, hm⟩)
    · exact Or.inr (Or.inr ⟨cs, t, fr, hm, ht⟩)
  · refine ⟨Or.inr (Or.inr ⟨cs, t, fr, hm, fun e => ht (List.mem_cons_of_mem _ (List.mem_cons_of_mem _ (List.mem_cons_of_mem _ e)))⟩), fun e => ?_, fun x h e => ?_⟩
    · rw [e, hp] at hm
      injection (Option.some.inj hm) with _ h3
      exact ht (h3 ▸ by decide)
    · obtain ⟨_, _, cs', hc⟩ := hr x h
      rw [e, hc] at hm
      injection (Option.some.inj hm) with _ h3
      exact ht (h3 ▸ by decide)
theorem SysP.more {Y : Nat → Prop} (h : SysP X w tb vb db kb n N off top q F P) (k : Ext w w') (hY : ∀ g, Y g → X g ∨ (w.heap.size ≤ g ∧ g < w'.heap.size)) : SysP Y w' tb vb db kb n N off top q F P := by
 obtain ⟨pm, A, hb, hv, hh⟩ := h
 have h2 := hb.ext k
 obtain ⟨es, cl, hmb⟩ := hb.mapblk
 have hml := (Array.getElem?_eq_some_iff.1 hmb).1
 have htl := (Array.getElem?_eq_some_iff.1 hb.top).1
 have hno : ∀ g, g < w.heap.size → ¬ X g → ¬ Y g := fun g hg hx hy => by
  rcases hY g hy with h | h
  · exact hx h
  · omega
 refine ⟨pm, A, ⟨h2.top, h2.map, h2.proc, h2.blk, h2.row, h2.good, ⟨hno _ hml hb.out.1, fun p hp a ha => ?_, fun g hg => ?_⟩, h2.lows, h2.ids, h2.next, ⟨hno _ htl hb.apart.1, fun p hp => hno _ (Array.getElem?_eq_some_iff.1 (hb.proc p hp).1).1 (hb.apart.2 p hp)⟩⟩, hv.more k fun g hg => ?_, hh⟩
 · obtain ⟨_, _, cs, hc⟩ := (hb.proc p hp).2.block ha
   exact hno _ (Array.getElem?_eq_some_iff.1 hc).1 (hb.out.2.1 p hp a ha)
 · rcases hY g hg with h | h
   · exact h2.out.2.2 g h
   · exact h.2
 · rcases hg with hg | hg
   · rcases hY g hg with h | h
     · exact Or.inl (Or.inl h)
     · exact Or.inr h
   · exact Or.inl (Or.inr hg)
omit [Low] in
theorem procF_none {i : Int} (h : getP P i = none) : procF P A i = none := by unfold procF; rw [h]; rfl
omit [Low] in
theorem procF_some {i : Int} {p : ProcD} (h : getP P i = some p) : procF P A i = some (.pointer (some ⟨(A i).blk, 0, none⟩)) := by unfold procF; rw [h]; rfl
omit [Low] in
theorem getP_del (P : TabD) (i j : Int) : getP (delP P i) j = if j = i then none else getP P j := by
 unfold getP delP
 generalize P.list = L
 by_cases h : j = i
 · rw [if_pos h]
   rw [List.find?_eq_none]
   intro p hp
   have := (List.mem_filter.1 hp).2
   simp at this ⊢
   omega
 · rw [if_neg h]
   induction L with
   | nil => rfl
   | cons x L ih =>
     by_cases hx : x.pid = i
     · have e : (x :: L).filter (fun q => !decide (q.pid = i)) = L.filter fun q => !decide (q.pid = i) := by simp [hx]
       have e2 : decide (x.pid = j) = false := by simp; omega
       rw [e, ih, List.find?_cons, e2]
     · have e : (x :: L).filter (fun q => !decide (q.pid = i)) = x :: L.filter fun q => !decide (q.pid = i) := by simp [hx]
       rw [e, List.find?_cons, List.find?_cons, ih]
omit [Low] in
theorem procF_del (i : Int) : (fun j => if j = i then none else procF P A j) = procF (delP P i) A := by
 funext j
 unfold procF
 rw [getP_del]
 by_cases h : j = i <;> simp [h]
set_option maxRecDepth 100000 in
theorem proc_New (hv : VolK X w vb db kb n N off top q F.m F.hd) (h0 : ∀ i, F.hd i = 0) (hX : ∀ g, X g → g < w.heap.size) (hlw : Low.low ≤ w.heap.size) (hN1 : 1 ≤ N) :
 Calls Tryz.prog 12 #[.iface 24 (.pointer (some ⟨vb, 0, none⟩))] w fun e w' => ∃ tb, e = .returned (.pointer (some ⟨tb, 0, none⟩)) ∧ SysP X w' tb vb db kb n N off top q F noneP ∧ Ext w w' := by
 obtain ⟨R, hR⟩ : ∃ R : Ending → World → Prop, R = fun e w' => ∃ tb, e = .returned (.pointer (some ⟨tb, 0, none⟩)) ∧ SysP X w' tb vb db kb n N off top q F noneP ∧ Ext w w' := ⟨_, rfl⟩
 rw [← hR]
 have HR := Lib.hid hR; clear hR
 have HV := Lib.hid hv; have HX := Lib.hid hX; have HLW := Lib.hid hlw; have H0 := Lib.hid h0; have HN1 := Lib.hid hN1; clear hv hX hlw h0 hN1
 have hmk := @run_makeMap Tryz.prog
 go_enter Tryz.func12, Tryz.ntmps12
 go_wp2_with fail
 rw [HR.out]
 have hx : Ext w ((w.alloc (.map #[] 0)).alloc (.cells (tabV vb w.heap.size 1) 135)) := (Ext.alloc _ _).trans (Ext.alloc _ _)
 have hm := (MapF.made keyI w 3).ext (Ext.alloc _ (.cells (tabV vb w.heap.size 1) 135))
 have hb := heap_alloc_new (w.alloc (.map #[] 0)) (.cells (tabV vb w.heap.size 1) 135)
 have hs : (w.alloc (.map #[] 0)).heap.size = w.heap.size + 1 := by simp
 rw [hs] at hb
 have hs2 : ((w.alloc (.map #[] 0)).alloc (.cells (tabV vb w.heap.size 1) 135)).heap.size = w.heap.size + 2 := by simp
 have hlw := HLW.out
 have hn1 := HN1.out
 refine ⟨w.heap.size + 1, rfl, ⟨w.heap.size, fun _ => ⟨0, none, 0⟩, ⟨hb, (hm.mono (Nat.zero_le _)).same (by funext i; rfl), fun p h => absurd h List.not_mem_nil, fun p h => absurd h List.not_mem_nil, fun p h => absurd h List.not_mem_nil, noneP_good, ⟨fun h => by have := HX.out _ h; omega, fun p h => absurd h List.not_mem_nil, fun g h => Nat.lt_of_lt_of_le (HX.out _ h) hx.size⟩, ⟨by omega, by omega, fun p h => absurd h List.not_mem_nil⟩, fun p h => absurd h List.not_mem_nil, ?_, ⟨fun h => by have := HX.out _ h; omega, fun p h => absurd h List.not_mem_nil⟩⟩, ?_, fun i => H0.out i⟩, hx⟩
 · show (1 : Int) ≤ (N : Int)
   omega
 · refine HV.out.more hx fun g hg => ?_
   rcases hg with hg | hg
   · exact Or.inl hg
   · exact Or.inr ⟨by omega, by rw [hg]; exact Nat.lt_of_lt_of_le (by omega : w.heap.size < w.heap.size + 2) (Nat.le_of_eq hs2.symm)⟩
set_option maxRecDepth 100000 in
set_option maxHeartbeats 6400000 in
theorem proc_Exit (h : SysP X w tb vb db kb n N off top q F P) (i : Int) (h1 : -9223372036854775808 ≤ i) (h2 : i ≤ 9223372036854775807) (hN : N + 8 ≤ 1000000000) :
 Calls Tryz.prog 22 #[.pointer (some ⟨tb, 0, none⟩), .int .i64 i] w fun e w' => e = .returned (.int .i64 (exitF F P i).2) ∧ SysP X w' tb vb db kb n (N + 8) off top q (exitF F P i).1.1 (exitF F P i).1.2 ∧ KeepP X w w' := by
 obtain ⟨R, hR⟩ : ∃ R : Ending → World → Prop, R = fun e w' => e = .returned (.int .i64 (exitF F P i).2) ∧ SysP X w' tb vb db kb n (N + 8) off top q (exitF F P i).1.1 (exitF F P i).1.2 ∧ KeepP X w w' := ⟨_, rfl⟩
 rw [← hR]
 have HR := Lib.hid hR; clear hR
 obtain ⟨pm, A, hb, hv, hh⟩ := h
 have c1 := blk_cell hb.top 1 (.map (some pm)) rfl
 have hlk := hb.map.lookup int_keyedA Tryz.underlying133 (Tryz.zeroValue139 w) (key_int h1 h2)
 cases hg : getP P i with
 | none =>
   rw [procF_none hg] at hlk
   have he : exitF F P i = ((F, P), 8) := by unfold exitF; rw [hg]
   have HE := Lib.hid he; have HB := Lib.hid hb; have HV := Lib.hid hv; have HH := Lib.hid hh
   clear he hb hv hh hg
   dsimp only [Option.getD] at hlk
   go_enter Tryz.func22, Tryz.ntmps22
   go_wp2_with fail
   rw [HR.out, HE.out]
   exact ⟨rfl, ⟨pm, A, HB.out.mono (by omega), HV.out.mono (by omega), HH.out⟩, KeepP.refl _ _⟩
 | some p =>
   rw [procF_some hg] at hlk
   obtain ⟨hp, rfl⟩ := getP_some hg
   have he : exitF F P p.pid = ((letsF F p.maps, delP P p.pid), 0) := by unfold exitF; rw [hg]
   have hm8 := hb.good.maps p hp
   have hfree := proc_free hb.top (hb.proc p hp).1 (hb.proc p hp).2 hv (hb.lows.2.2 p hp) (by omega) (hb.ids p hp) (fun i => ⟨hh.has hp i, by have := hh.le hb.good i; omega⟩) (by omega)
   have HE := Lib.hid he; have HB := Lib.hid hb; have HV := Lib.hid hv; have HH := Lib.hid hh; have HPM := Lib.hid hp; have HF := Lib.hid hfree; have HM8 := Lib.hid hm8
   clear he hb hv hh hg hp hfree hm8
   dsimp only [Option.getD] at hlk
   go_enter Tryz.func22, Tryz.ntmps22
   go_wp2_with (first
    | (go_at_call 72; refine HF.out.mono ?_; rintro e w1 ⟨rfl, hp1, hv1, hk1⟩; have hpm := HB.out.proc p HPM.out; have hne : ∀ g cs t, w.heap[g]? = some (.cells cs t (0, 0)) → t ≠ 128 → t ∉ volT → CellH (AndM X pm) (A p.pid).blk none w g := (fun g cs t hg ht hn => ⟨Or.inr (Or.inr ⟨cs, t, _, hg, hn⟩), fun e => by (rw [e, hpm.1] at hg; injection (Option.some.inj hg) with _ h3; exact ht h3.symm), fun x hx => by cases hx⟩); have ht1 := Keep.heap hk1 (hne _ _ _ HB.out.top (by decide) (by decide)) HB.out.top; have c1 := blk_cell ht1 1 (.map (some pm)) rfl; have HP1 := Lib.hid hp1; have HV1 := Lib.hid hv1; have HK1 := Lib.hid hk1; have HNE := Lib.hid hne; have HT1 := Lib.hid ht1; clear hp1 hv1 hk1 hpm hne ht1)
    | (at_delete; obtain ⟨es, cl, hmb⟩ := HB.out.mapblk; have hpb := (HB.out.proc p HPM.out).1; have hsm : CellH (AndM X pm) (A p.pid).blk none w pm := ⟨Or.inr (Or.inl ⟨Or.inr rfl, es, cl, hmb⟩), (fun e => by rw [← e, hmb] at hpb; cases hpb), (fun x hx => by cases hx)⟩; have hm1 := HB.out.map.keep HK1.out hsm; refine wpList_delete_F rfl _ _ 133 rfl 139 int_keyedA Tryz.underlying133 pm N _ rfl hm1 keyI_inj _ p.pid rfl (key_int h1 h2) ?_; intro w2 hm2 hk2))
   rw [HR.out, HE.out]
   have hne2 : ∀ g cs t, w1.heap[g]? = some (.cells cs t (0, 0)) → g ≠ pm := fun g cs t hg e => by
    obtain ⟨es, cl, hmb⟩ := hm1.block
    rw [e, hmb] at hg; cases hg
   have hm8 := HM8.out
   have hB := HB.out
   have hpid : ∀ r ∈ (delP P p.pid).list, r ∈ P.list ∧ r.pid ≠ p.pid := fun r hr => mem_delP.1 hr
   have hkeep : ∀ r ∈ (delP P p.pid).list, w2.heap[(A r.pid).blk]? = some (.cells (procV r (A r.pid)) 128 (0, 0)) ∧ OwnIs w2 Low.low (A r.pid).ma (A r.pid).mc r.maps := fun r hr => by
    obtain ⟨hr1, hr2⟩ := hpid r hr
    have h3 := hB.proc r hr1
    have h4 : w1.heap[(A r.pid).blk]? = some (.cells (procV r (A r.pid)) 128 (0, 0)) := Keep.heap HK1.out ⟨Or.inr (Or.inr ⟨_, _, _, h3.1, by decide⟩), fun e => hr2 (hB.blk r hr1 p HPM.out e), fun x hx => by cases hx⟩ h3.1
    refine ⟨hk2.heap (hne2 _ _ _ h4) h4, ?_⟩
    have h5 := h3.2.keep HK1.out fun x cs _ hc => HNE.out _ _ _ hc (by decide) (by decide)
    exact h5.keep hk2 fun x cs _ hc => hne2 _ _ _ hc
   refine ⟨rfl, ⟨pm, A, ⟨hk2.heap (hne2 _ _ _ HT1.out) HT1.out, ?_, hkeep, fun r hr s hs => hB.blk r (hpid r hr).1 s (hpid s hs).1, fun r hr s hs => hB.row r (hpid r hr).1 s (hpid s hs).1, hB.good.del _, ⟨hB.out.1, fun r hr => hB.out.2.1 r (hpid r hr).1, fun g hg => Nat.lt_of_lt_of_le (Nat.lt_of_lt_of_le (hB.out.2.2 g hg) HK1.out.size) hk2.size⟩, ⟨hB.lows.1, hB.lows.2.1, fun r hr => hB.lows.2.2 r (hpid r hr).1⟩, fun r hr => hB.ids r (hpid r hr).1, ?_, ⟨hB.apart.1, fun r hr => hB.apart.2 r (hpid r hr).1⟩⟩, ?_, HH.out.exit hB.good HPM.out⟩, ?_⟩
   · rw [← procF_del]
     exact hm2.mono (by omega)
   · have := hB.next
     show P.next ≤ _
     omega
   · obtain ⟨es, cl, hmb⟩ := hm1.block
     exact (HV1.out.keepM (Or.inr rfl) hmb hk2).mono (by omega)
   · obtain ⟨es, cl, hmb⟩ := hm1.block
     exact (KeepH.toP (X := X) HK1.out (fun g hg => Or.inl hg) ⟨_, _, (hB.proc p HPM.out).1⟩ (hB.apart.2 p HPM.out) (hB.lows.2.2 p HPM.out) (fun x hx => by cases hx)).trans (KeepP.of_map hk2 hB.lows.2.1 hB.out.1 hmb)
end
end Go.Proofs.YtefpllpichhojaaGreatDoor
