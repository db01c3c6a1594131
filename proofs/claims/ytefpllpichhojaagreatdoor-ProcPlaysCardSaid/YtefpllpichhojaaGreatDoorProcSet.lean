/- proc's Kill, Pick, Get, Reset: one of what runs is turned. -/
import Derived.Test.YtefpllpichhojaaGreatDoorProcTab
namespace Go.Proofs.YtefpllpichhojaaGreatDoor
open Go.RowKit
variable [Low]
section
variable {P : TabD}
omit [Low] in
theorem getP_set {i j : Int} {p p' : ProcD} (hg : getP P i = some p) (hi : p'.pid = i) : getP (setP P i p') j = if j = i then some p' else getP P j := by
 have hpid : ∀ q : ProcD, (if q.pid = i then p' else q).pid = q.pid := fun q => by
  by_cases e : q.pid = i
  · rw [if_pos e, hi, e]
  · rw [if_neg e]
 unfold getP setP at *
 generalize P.list = L at hg
 induction L with
 | nil => cases hg
 | cons x L ih =>
   rw [List.find?_cons] at hg
   rw [List.map_cons, List.find?_cons, hpid]
   by_cases hj : j = i
   · subst hj
     rw [if_pos rfl] at *
     by_cases hx : x.pid = j
     · simp [hx]
     · have e : decide (x.pid = j) = false := by simpa using hx
       rw [e] at hg ⊢
       exact ih hg
   · rw [if_neg hj] at *
     by_cases hx : x.pid = j
     · have h2 : x.pid ≠ i := by omega
       simp [hx, hj]
     · have e : decide (x.pid = j) = false := by simpa using hx
       rw [e]
       rw [List.find?_cons, e]
       by_cases hxi : x.pid = i
       · have hno : ∀ M : List ProcD, (M.map fun q => if q.pid = i then p' else q).find? (fun q => decide (q.pid = j)) = M.find? fun q => decide (q.pid = j) := fun M => by
          induction M with
          | nil => rfl
          | cons y M ihM =>
            rw [List.map_cons, List.find?_cons, List.find?_cons, hpid, ihM]
            by_cases hy : y.pid = j
            · have : y.pid ≠ i := by omega
              simp [hy, hj]
            · have e : decide (y.pid = j) = false := by simpa using hy
              rw [e]
         exact hno L
       · have e2 : decide (x.pid = i) = false := by simpa using hxi
         rw [e2] at hg
         exact ih hg
omit [Low] in
theorem sum_set {α : Type} (f : α → Nat) (a : α → Int) {p' : α} : ∀ (L : List α), (L.Pairwise fun x y => a x < a y) → ∀ p ∈ L, a p' = a p → ((L.map fun q => if a q = a p then p' else q).map f).sum + f p = (L.map f).sum + f p'
 | [], _, p, hp, _ => absurd hp List.not_mem_nil
 | x :: L, hs, p, hp, e => by
   rw [List.pairwise_cons] at hs
   rcases List.mem_cons.1 hp with rfl | hp
   · have h1 : (L.map fun q => if a q = a p then p' else q) = L := by
        conv => rhs; rw [← List.map_id L]
        refine List.map_congr_left fun q hq => ?_
        have := hs.1 q hq
        rw [if_neg (by omega)]; rfl
     rw [List.map_cons, h1, if_pos rfl]
     simp only [List.map_cons, List.sum_cons]
     omega
   · have hne : ¬ a x = a p := fun h => by have := hs.1 p hp; omega
     have ih := sum_set f a L hs.2 p hp e
     rw [List.map_cons, if_neg hne]
     simp only [List.map_cons, List.sum_cons] at ih ⊢
     omega
omit [Low] in
theorem cntP_set (h : GoodP P) {p p' : ProcD} (hp : p ∈ P.list) (e : p'.pid = p.pid) (j : Int) : cntP (setP P p.pid p') j + cntM p.maps j = cntP P j + cntM p'.maps j :=
 sum_set (fun x : ProcD => cntM x.maps j) ProcD.pid P.list h.sorted p hp e
end
section
variable {X : Nat → Prop} {w w' : World} {tb pm vb db kb n N off top : Nat} {q : Int} {F : FileS} {P : TabD} {A : Int → ProcA}
theorem ProcB.turn {S : Nat → Prop} (h : ProcB X w tb pm vb N P A) (k : Keep S w w') (h1 : S tb) (h2 : S pm) {p p' : ProcD} {A' : ProcA} (hp : p ∈ P.list) (hpid : p'.pid = p.pid) (h3 : ∀ r ∈ P.list, r.pid ≠ p.pid → S (A r.pid).blk ∧ ∀ a, (A r.pid).ma = some a → S a.block)
 (hblk : A'.blk = (A p.pid).blk) (hnew : w'.heap[A'.blk]? = some (.cells (procV p' A') 128 (0, 0))) (hown : OwnIs w' Low.low A'.ma A'.mc p'.maps) (hrow : ∀ x, A'.ma = some x → (∃ y, (A p.pid).ma = some y ∧ x.block = y.block) ∨ w.heap.size ≤ x.block) (hm : p'.maps.length ≤ 8) (hids : ∀ i ∈ p'.maps, 0 ≤ i ∧ i ≤ 1000000000) :
 ProcB X w' tb pm vb N (setP P p.pid p') (fun i => if i = p.pid then A' else A i) := by
 have hmem : ∀ r ∈ (setP P p.pid p').list, r = p' ∨ (r ∈ P.list ∧ r.pid ≠ p.pid) := fun r hr => mem_setP hr
 have hA : ∀ r : ProcD, r.pid ≠ p.pid → (if r.pid = p.pid then A' else A r.pid) = A r.pid := fun r hr => if_neg hr
 have hA2 : (if p'.pid = p.pid then A' else A p'.pid) = A' := if_pos hpid
 have hsz : ∀ r ∈ P.list, ∀ x, (A r.pid).ma = some x → x.block < w.heap.size := fun r hr x hx => by
  obtain ⟨_, _, cs, hc⟩ := (h.proc r hr).2.block hx
  exact (Array.getElem?_eq_some_iff.1 hc).1
 have hcross : ∀ r ∈ P.list, r.pid ≠ p.pid → ∀ a b, A'.ma = some a → (A r.pid).ma = some b → a.block = b.block → False := fun r hr hne a b ha hb e => by
  rcases hrow a ha with ⟨y, hy, e2⟩ | e2
  · exact hne (h.row r hr p hp b y hb hy (e.symm.trans e2))
  · have := hsz r hr b hb; omega
 refine ⟨k.heap h1 h.top, ?_, ?_, ?_, ?_, h.good.set hpid hm, ⟨h.out.1, ?_, fun g hg => Nat.lt_of_lt_of_le (h.out.2.2 g hg) k.size⟩, ⟨h.lows.1, h.lows.2.1, ?_⟩, ?_, h.next, ⟨h.apart.1, ?_⟩⟩
 · refine (h.map.keep k h2).same ?_
   funext j
   unfold procF
   rw [getP_set (h.good.get hp) hpid]
   by_cases hj : j = p.pid
   · subst hj
     simp [h.good.get hp, hblk]
   · simp [hj]
 · intro r hr
   rcases hmem r hr with rfl | ⟨hr1, hr2⟩
   · simp only [hA2]
     exact ⟨hnew, hown⟩
   · simp only [hA r hr2]
     have h4 := h.proc r hr1
     have h5 := h3 r hr1 hr2
     exact ⟨k.heap h5.1 h4.1, h4.2.keep k fun x _ hx _ => h5.2 x hx⟩
 · intro r hr s hs e
   rcases hmem r hr with rfl | ⟨hr1, hr2⟩
   · rcases hmem s hs with rfl | ⟨hs1, hs2⟩
     · rfl
     · simp only [hA2, hA s hs2, hblk] at e
       exact absurd (h.blk s hs1 p hp e.symm) hs2
   · rcases hmem s hs with rfl | ⟨hs1, hs2⟩
     · simp only [hA2, hA r hr2, hblk] at e
       exact absurd (h.blk r hr1 p hp e) hr2
     · simp only [hA r hr2, hA s hs2] at e
       exact h.blk r hr1 s hs1 e
 · intro r hr s hs a b ha hb e
   rcases hmem r hr with rfl | ⟨hr1, hr2⟩
   · rcases hmem s hs with rfl | ⟨hs1, hs2⟩
     · rfl
     · simp only [hA2] at ha
       simp only [hA s hs2] at hb
       exact (hcross s hs1 hs2 a b ha hb e).elim
   · rcases hmem s hs with rfl | ⟨hs1, hs2⟩
     · simp only [hA2] at hb
       simp only [hA r hr2] at ha
       exact (hcross r hr1 hr2 b a hb ha e.symm).elim
     · simp only [hA r hr2] at ha
       simp only [hA s hs2] at hb
       exact h.row r hr1 s hs1 a b ha hb e
 · intro r hr a ha
   rcases hmem r hr with rfl | ⟨hr1, hr2⟩
   · simp only [hA2] at ha
     rcases hrow a ha with ⟨y, hy, e2⟩ | e2
     · rw [e2]; exact h.out.2.1 p hp y hy
     · intro hx
       have := h.out.2.2 _ hx
       omega
   · simp only [hA r hr2] at ha
     exact h.out.2.1 r hr1 a ha
 · intro r hr
   rcases hmem r hr with rfl | ⟨hr1, hr2⟩
   · simp only [hA2, hblk]; exact h.lows.2.2 p hp
   · simp only [hA r hr2]; exact h.lows.2.2 r hr1
 · intro r hr
   rcases hmem r hr with rfl | ⟨hr1, hr2⟩
   · exact hids
   · exact h.ids r hr1
 · intro r hr
   rcases hmem r hr with rfl | ⟨hr1, hr2⟩
   · simp only [hA2, hblk]; exact h.apart.2 p hp
   · simp only [hA r hr2]; exact h.apart.2 r hr1
def killF (P : TabD) (i : Int) : TabD × Int := match getP P i with
 | none => (P, 8)
 | some p => (setP P i { p with ending := true }, 0)
set_option maxRecDepth 100000 in
set_option maxHeartbeats 3200000 in
theorem proc_Kill (h : SysP X w tb vb db kb n N off top q F P) (i : Int) (h1 : -9223372036854775808 ≤ i) (h2 : i ≤ 9223372036854775807) :
 Calls Tryz.prog 20 #[.pointer (some ⟨tb, 0, none⟩), .int .i64 i] w fun e w' => e = .returned (.int .i64 (killF P i).2) ∧ SysP X w' tb vb db kb n N off top q F (killF P i).1 ∧ KeepP X w w' := by
 obtain ⟨R, hR⟩ : ∃ R : Ending → World → Prop, R = fun e w' => e = .returned (.int .i64 (killF P i).2) ∧ SysP X w' tb vb db kb n N off top q F (killF P i).1 ∧ KeepP X w w' := ⟨_, rfl⟩
 rw [← hR]
 have HR := Lib.hid hR; clear hR
 obtain ⟨pm, A, hb, hv, hh⟩ := h
 have c1 := blk_cell hb.top 1 (.map (some pm)) rfl
 have hlk := hb.map.lookup int_keyedA Tryz.underlying133 (Tryz.zeroValue139 w) (key_int h1 h2)
 cases hg : getP P i with
 | none =>
   rw [procF_none hg] at hlk
   have he : killF P i = (P, 8) := by unfold killF; rw [hg]
   have HE := Lib.hid he; have HB := Lib.hid hb; have HV := Lib.hid hv; have HH := Lib.hid hh
   clear he hb hv hh hg
   dsimp only [Option.getD] at hlk
   go_enter Tryz.func20, Tryz.ntmps20
   go_wp2_with fail
   rw [HR.out, HE.out]
   exact ⟨rfl, ⟨pm, A, HB.out, HV.out, HH.out⟩, KeepP.refl _ _⟩
 | some p =>
   rw [procF_some hg] at hlk
   obtain ⟨hp, rfl⟩ := getP_some hg
   have he : killF P p.pid = (setP P p.pid { p with ending := true }, 0) := by unfold killF; rw [hg]
   have c2 := blk_cell (hb.proc p hp).1 3 (.bool p.ending) rfl
   have f2 := blk_free (hb.proc p hp).1 3
   have HE := Lib.hid he; have HB := Lib.hid hb; have HV := Lib.hid hv; have HH := Lib.hid hh; have HPM := Lib.hid hp
   clear he hb hv hh hg hp
   dsimp only [Option.getD] at hlk
   go_enter Tryz.func20, Tryz.ntmps20
   go_wp2_with fail
   rw [HR.out, HE.out]
   have hB := HB.out
   have hpb := hB.proc p HPM.out
   have hset : Keep (· ≠ (A p.pid).blk) w (w.setCell ⟨(A p.pid).blk, 3, none⟩ (.bool true)) := (Keep.refl _ _).setCell (fun _ h => h) _ _
   have hnew : (w.setCell ⟨(A p.pid).blk, 3, none⟩ (.bool true)).heap[(A p.pid).blk]? = some (.cells (procV { p with ending := true } (A p.pid)) 128 (0, 0)) := by
    rw [setCell_row hpb.1 (i := 3) (.bool true)]
    unfold procV
    simp
   have hne : ∀ g cs t, w.heap[g]? = some (.cells cs t (0, 0)) → t ≠ 128 → g ≠ (A p.pid).blk := fun g cs t hg ht e => by
    rw [e, hpb.1] at hg
    injection (Option.some.inj hg) with _ h3
    exact ht h3.symm
   obtain ⟨es, cl, hmb⟩ := hB.mapblk
   have hturn := hB.turn hset (hne _ _ _ hB.top (by decide)) (fun e => by rw [e, hpb.1] at hmb; cases hmb) (p' := { p with ending := true }) (A' := A p.pid) HPM.out rfl (fun r hr hrp => ⟨fun e => hrp (hB.blk r hr p HPM.out e), fun a ha e => by
    obtain ⟨_, _, cs, hc⟩ := (hB.proc r hr).2.block ha
    exact hne _ _ _ hc (by decide) e⟩) rfl hnew (hpb.2.keep hset fun x cs _ hc => hne _ _ _ hc (by decide)) (fun x hx => Or.inl ⟨x, hx, rfl⟩) (hB.good.maps p HPM.out) (hB.ids p HPM.out)
   refine ⟨rfl, ⟨pm, _, hturn, HV.out.keepT (KeepT.ne (ts := [128]) hset hpb.1 (List.mem_singleton.2 rfl) (hB.lows.2.2 p HPM.out)) (by decide), fun j => ?_⟩, KeepP.of_cells hset hpb.1 (by decide) (hB.apart.2 p HPM.out) (hB.lows.2.2 p HPM.out)⟩
   have := cntP_set hB.good HPM.out (p' := { p with ending := true }) rfl j
   have h5 := HH.out j
   have e : cntM ({ p with ending := true } : ProcD).maps j = cntM p.maps j := rfl
   show F.hd j = cntP (setP P p.pid { p with ending := true }) j
   omega
def pickF (F : FileS) (P : TabD) (i : Int) : (FileS × TabD) × (Bool × Int) := match getP P i with
 | none => ((F, P), (false, 8))
 | some p => if p.ending = true then ((letsF F p.maps, delP P i), (true, 0)) else ((F, P), (false, 0))
set_option maxRecDepth 100000 in
set_option maxHeartbeats 3200000 in
theorem proc_Pick (h : SysP X w tb vb db kb n N off top q F P) (i : Int) (h1 : -9223372036854775808 ≤ i) (h2 : i ≤ 9223372036854775807) (hN : N + 8 ≤ 1000000000) :
 Calls Tryz.prog 21 #[.pointer (some ⟨tb, 0, none⟩), .int .i64 i] w fun e w' => e = .returned (.tuple #[.bool (pickF F P i).2.1, .int .i64 (pickF F P i).2.2]) ∧ SysP X w' tb vb db kb n (N + 8) off top q (pickF F P i).1.1 (pickF F P i).1.2 ∧ KeepP X w w' := by
 obtain ⟨R, hR⟩ : ∃ R : Ending → World → Prop, R = fun e w' => e = .returned (.tuple #[.bool (pickF F P i).2.1, .int .i64 (pickF F P i).2.2]) ∧ SysP X w' tb vb db kb n (N + 8) off top q (pickF F P i).1.1 (pickF F P i).1.2 ∧ KeepP X w w' := ⟨_, rfl⟩
 rw [← hR]
 have HR := Lib.hid hR; clear hR
 have HX := Lib.hid (proc_Exit h i h1 h2 hN)
 have HS := Lib.hid h
 obtain ⟨pm, A, hb, hv, hh⟩ := h
 have c1 := blk_cell hb.top 1 (.map (some pm)) rfl
 have hlk := hb.map.lookup int_keyedA Tryz.underlying133 (Tryz.zeroValue139 w) (key_int h1 h2)
 cases hg : getP P i with
 | none =>
   rw [procF_none hg] at hlk
   have he : pickF F P i = ((F, P), (false, 8)) := by unfold pickF; rw [hg]
   have HE := Lib.hid he
   clear he hb hv hh hg HX
   dsimp only [Option.getD] at hlk
   go_enter Tryz.func21, Tryz.ntmps21
   go_wp2_with fail
   rw [HR.out, HE.out]
   exact ⟨rfl, HS.out.mono (by omega), KeepP.refl _ _⟩
 | some p =>
   rw [procF_some hg] at hlk
   have hx : exitF F P i = ((letsF F p.maps, delP P i), 0) := by unfold exitF; rw [hg]
   rw [hx] at HX
   obtain ⟨hp, rfl⟩ := getP_some hg
   have c2 := blk_cell (hb.proc p hp).1 3 (.bool p.ending) rfl
   cases hend : p.ending with
   | false =>
     have he : pickF F P p.pid = ((F, P), (false, 0)) := by unfold pickF; rw [hg]; simp [hend]
     rw [hend] at c2
     have HE := Lib.hid he
     clear he hb hv hh hg hp HX hend hx
     dsimp only [Option.getD] at hlk
     go_enter Tryz.func21, Tryz.ntmps21
     go_wp2_with fail
     rw [HR.out, HE.out]
     exact ⟨rfl, HS.out.mono (by omega), KeepP.refl _ _⟩
   | true =>
     have he : pickF F P p.pid = ((letsF F p.maps, delP P p.pid), (true, 0)) := by unfold pickF; rw [hg]; simp [hend]
     rw [hend] at c2
     have HE := Lib.hid he
     clear he hb hv hh hg hp hend hx
     dsimp only [Option.getD] at hlk
     go_enter Tryz.func21, Tryz.ntmps21
     go_wp2_with (go_at_call 22; refine HX.out.mono ?_; rintro e w1 ⟨rfl, hs1, hk1⟩)
     rw [HR.out, HE.out]
     exact ⟨rfl, hs1, hk1⟩
set_option maxRecDepth 100000 in
set_option maxHeartbeats 3200000 in
theorem proc_ResetB {vb' db' kb' n' off' top' : Nat} {q' : Int} {F' : FileS} (hb : ProcB X w tb pm vb N P A) (hv : VolK X w vb' db' kb' n' N off' top' q' F'.m F'.hd) (h0 : ∀ i, F'.hd i = 0) (hlw : Low.low ≤ w.heap.size) :
 Calls Tryz.prog 25 #[.pointer (some ⟨tb, 0, none⟩), .iface 24 (.pointer (some ⟨vb', 0, none⟩))] w fun e w' => e = .returned (.tuple #[]) ∧ SysP X w' tb vb' db' kb' n' N off' top' q' F' ⟨[], P.next⟩ ∧ KeepP X w w' := by
 obtain ⟨R, hR⟩ : ∃ R : Ending → World → Prop, R = fun e w' => e = .returned (.tuple #[]) ∧ SysP X w' tb vb' db' kb' n' N off' top' q' F' ⟨[], P.next⟩ ∧ KeepP X w w' := ⟨_, rfl⟩
 rw [← hR]
 have HR := Lib.hid hR; clear hR
 have hmk := @run_makeMap Tryz.prog
 have hx := Ext.alloc w (.map #[] 0)
 have ht1 := hx.heap hb.top
 have ca := blk_cell ht1 0 (.iface 24 (.pointer (some ⟨vb, 0, none⟩))) rfl
 have fa := blk_free ht1 0
 have hset1 : Keep (· ≠ tb) (w.alloc (.map #[] 0)) ((w.alloc (.map #[] 0)).setCell ⟨tb, 0, none⟩ (.iface 24 (.pointer (some ⟨vb', 0, none⟩)))) := (Keep.refl _ _).setCell (fun _ h => h) _ _
 have ht2 := setCell_row ht1 (i := 0) (.iface 24 (.pointer (some ⟨vb', 0, none⟩)))
 have cb := blk_cell ht2 1 (.map (some pm)) rfl
 have fb := blk_free ht2 1
 have HB := Lib.hid hb; have HV := Lib.hid hv; have H0 := Lib.hid h0; have HLW := Lib.hid hlw; have HX := Lib.hid hx; have HT1 := Lib.hid ht1; have HT2 := Lib.hid ht2
 clear hb hv h0 hlw hx ht1 ht2 hset1
 go_enter Tryz.func25, Tryz.ntmps25
 go_wp2_with fail
 go_end0
 rw [HR.out]
 have hB := HB.out
 have hlw := HLW.out
 have hset : Keep (· ≠ tb) (w.alloc (.map #[] 0)) (((w.alloc (.map #[] 0)).setCell ⟨tb, 0, none⟩ (.iface 24 (.pointer (some ⟨vb', 0, none⟩)))).setCell ⟨tb, 1, none⟩ (.map (some w.heap.size))) := ((Keep.refl _ _).setCell (fun _ h => h) _ _).setCell (fun _ h => h) _ _
 have hb2 := setCell_row HT2.out (i := 1) (.map (some w.heap.size))
 have hmb := heap_alloc_new w (.map #[] 0)
 have hne : w.heap.size ≠ tb := fun e => by have := (Array.getElem?_eq_some_iff.1 hB.top).1; omega
 have hm := (MapF.made keyI w 3).keep hset hne
 have hmt : HeldBy F' ⟨[], P.next⟩ := fun i => by rw [H0.out i]; rfl
 refine ⟨rfl, ⟨w.heap.size, A, ⟨?_, (hm.mono (Nat.zero_le _)).same (by funext i; rfl), fun p h => absurd h List.not_mem_nil, fun p h => absurd h List.not_mem_nil, fun p h => absurd h List.not_mem_nil, ⟨List.Pairwise.nil, fun _ h => absurd h List.not_mem_nil, hB.good.next, Nat.zero_le _, fun _ h => absurd h List.not_mem_nil⟩, ⟨fun h => by have := hB.out.2.2 _ h; omega, fun p h => absurd h List.not_mem_nil, fun g h => Nat.lt_of_lt_of_le (hB.out.2.2 _ h) (Nat.le_trans HX.out.size hset.size)⟩, ⟨hB.lows.1, hlw, fun p h => absurd h List.not_mem_nil⟩, fun p h => absurd h List.not_mem_nil, hB.next, ⟨hB.apart.1, fun p h => absurd h List.not_mem_nil⟩⟩, ?_, hmt⟩, ?_⟩
 · rw [hb2]
   unfold tabV
   simp
 · have hv2 : VolK (AndM X w.heap.size) (w.alloc (.map #[] 0)) vb' db' kb' n' N off' top' q' F'.m F'.hd := HV.out.more HX.out fun g hg => by
    rcases hg with hg | hg
    · exact Or.inl hg
    · exact Or.inr ⟨by omega, by rw [hg]; simp⟩
   exact hv2.keepT (KeepT.ne (ts := [135]) hset HT1.out (List.mem_singleton.2 rfl) hB.lows.1) (by decide)
 · exact (KeepP.of_ext HX.out).trans (KeepP.of_cells hset HT1.out (by decide) hB.apart.1 hB.lows.1)
end
end Go.Proofs.YtefpllpichhojaaGreatDoor
