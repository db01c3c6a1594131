/- Several texts of mine, one behind the other: EndsLaw, SysTurn, CloneI, ProcGet. -/
import Derived.Test.YtachelbodpfckaaGreatDoorOpen08
import Derived.Test.YtachelbodpfckaaGreatDoorProcSpawn
import Derived.Test.YtachelbodpfckaaGreatDoorProcTab
import Derived.Test.YtachelbodpfckaaGreatDoorM4
import Derived.Test.YtachelbodpfckaaGreatDoorProcSet
import Derived.Test.YtachelbodpfckaaGreatDoorMapKeysI
import Derived.Shelf.SlIterI.Nil
import Derived.Shelf.SlIterI.Sorted
import Derived.Shelf.AbstractIn
namespace Go.Proofs.YtachelbodpfckaaGreatDoor
open Go.RowKit
def nameN (j : Nat) : By := if j = 0 then [47, 97] else if j = 1 then [47, 98] else [47, 100, 47, 99]
def idN (j : Nat) : Int := if j = 0 then 2 else if j = 1 then 3 else 5
def bitN (n : Int) (j : Nat) : Bool := bits .and .i64 (n / 2 ^ j) 1 == 1
def pathsN (n : Int) (j : Nat) : List By := ((List.range j).filter (bitN n)).map nameN
def mapsN (n : Int) : List Int := ((List.range 3).filter (bitN n)).map idN
theorem pathsN_succ (n : Int) (j : Nat) : pathsN n (j + 1) = if bitN n j = true then pathsN n j ++ [nameN j] else pathsN n j := by
 unfold pathsN
 rw [List.range_succ, List.filter_append, List.map_append]
 by_cases h : bitN n j = true
 · simp [h]
 · simp [h]
theorem pathsN_len (n : Int) (j : Nat) : (pathsN n j).length ≤ j := by
 unfold pathsN
 rw [List.length_map]
 exact Nat.le_trans (List.length_filter_le _ _) (Nat.le_of_eq List.length_range)
theorem hold08 {m : RefD} (h : m.list = tree08.list) (j : Nat) : holdF m (nameN j) = (idN j, 0) := by
 rw [holdF_list h]
 unfold nameN idN
 split
 · rfl
 · split
   · rfl
   · rfl
theorem holds08 : ∀ (js : List Nat) (F : FileS) (M : List Int), F.m.list = tree08.list → (holdsF F M (js.map nameN)).2 = 0 ∧ (holdsF F M (js.map nameN)).1.2 = M ++ js.map idN
 | [], F, M, _ => ⟨rfl, by simp [holdsF]⟩
 | j :: js, F, M, h => by
   have hj := hold08 h j
   rw [List.map_cons]
   unfold holdsF
   rw [hj, if_pos rfl]
   have ih := holds08 js (incF F (idN j)) (M ++ [idN j]) h
   refine ⟨ih.1, ?_⟩
   rw [ih.2, List.map_cons, List.append_assoc]
   rfl
theorem cnt08 (n : Int) (t : Nat) (ht : t < 3) : cntM (mapsN n) (idN t) = (bitN n t).toNat := by
 unfold mapsN
 rw [show List.range 3 = [0, 1, 2] from rfl]
 match t, ht with
 | 0, _ => simp only [List.filter_cons, List.filter_nil]; cases bitN n 0 <;> cases bitN n 1 <;> cases bitN n 2 <;> rfl
 | 1, _ => simp only [List.filter_cons, List.filter_nil]; cases bitN n 0 <;> cases bitN n 1 <;> cases bitN n 2 <;> rfl
 | 2, _ => simp only [List.filter_cons, List.filter_nil]; cases bitN n 0 <;> cases bitN n 1 <;> cases bitN n 2 <;> rfl
structure EndsI (L : List Int) (i K : Nat) (F : FileS) (P : TabD) : Prop where
 list : F.m.list = tree08.list
 next : P.next = (K : Int) + 1
 len : P.list.length + i = K
 get : ∀ t : Nat, i ≤ t → t < K → getP P ((t : Int) + 1) = some ⟨(t : Int) + 1, [117], mapsN (L.getD t 0), false⟩
theorem EndsI.start (L : List Int) : EndsI L 0 0 file08 noneP := ⟨rfl, rfl, rfl, fun t _ h => absurd h (Nat.not_lt_zero t)⟩
section
variable {L : List Int} {i K : Nat} {F : FileS} {P : TabD}
theorem EndsI.spawn (h : EndsI L 0 K F P) (hg : GoodP P) (hK : K < 32) {n : Int} (hn : n = L.getD K 0) :
 ∃ F', spawnF F P [117] (pathsN n 3) = ((F', addP P ⟨P.next, [117], mapsN n, false⟩), (P.next, 0)) ∧ EndsI L 0 (K + 1) F' (addP P ⟨P.next, [117], mapsN n, false⟩) ∧ ∀ t, t < 3 → F'.hd (idN t) = F.hd (idN t) + (bitN n t).toNat := by
 obtain ⟨h1, h2⟩ := holds08 ((List.range 3).filter (bitN n)) F [] h.list
 have hm := holdsF_m (pathsN n 3) F []
 have hhd := holdsF_hd (pathsN n 3) F []
 have hlen := h.len
 refine ⟨(holdsF F [] (pathsN n 3)).1.1, ?_, ⟨?_, ?_, ?_, ?_⟩, ?_⟩
 · unfold spawnF
   rw [if_neg (by have := pathsN_len n 3; omega), if_neg (by omega)]
   have e : pathsN n 3 = ((List.range 3).filter (bitN n)).map nameN := rfl
   rw [e, if_pos h1, h2]
   rfl
 · rw [hm]; exact h.list
 · show P.next + 1 = _
   rw [h.next]
   omega
 · show (P.list ++ [_]).length + 0 = K + 1
   rw [List.length_append, List.length_singleton]
   omega
 · intro t _ ht
   rw [getP_add P hg rfl, h.next]
   by_cases e : t = K
   · subst e
     rw [if_pos rfl, hn]
   · rw [if_neg (by omega)]
     exact h.get t (Nat.zero_le _) (by omega)
 · intro t ht
   have h3 := hhd (idN t)
   rw [show cntM [] (idN t) = 0 from rfl] at h3
   have h4 : (holdsF F [] (pathsN n 3)).1.2 = mapsN n := by
    have e : pathsN n 3 = ((List.range 3).filter (bitN n)).map nameN := rfl
    rw [e, h2]
    rfl
   rw [h4, cnt08 n t ht] at h3
   omega
theorem sum_ones {α : Type} : ∀ (L : List α), (L.map fun _ => 1).sum = L.length
 | [] => rfl
 | x :: L => by rw [List.map_cons, List.sum_cons, sum_ones L, List.length_cons]; omega
theorem delP_len (hg : GoodP P) {p : ProcD} (hp : p ∈ P.list) : (delP P p.pid).list.length + 1 = P.list.length := by
 have := sum_del (fun _ : ProcD => 1) ProcD.pid p.pid P.list hg.sorted p hp rfl
 rw [sum_ones, sum_ones] at this
 exact this
theorem EndsI.exit (h : EndsI L i K F P) (hg : GoodP P) (hh : HeldBy F P) (hi : i < K) {n : Int} (hn : n = L.getD i 0) :
 getP P ((i : Int) + 1) = some ⟨(i : Int) + 1, [117], mapsN n, false⟩ ∧ EndsI L (i + 1) K (letsF F (mapsN n)) (delP P ((i : Int) + 1)) ∧ ∀ t, t < 3 → F.hd (idN t) = (letsF F (mapsN n)).hd (idN t) + (bitN n t).toNat := by
 have hget := h.get i (Nat.le_refl _) hi
 rw [← hn] at hget
 obtain ⟨hp, _⟩ := getP_some hget
 refine ⟨hget, ⟨?_, h.next, ?_, ?_⟩, ?_⟩
 · rw [letsF_list]; exact h.list
 · have := delP_len hg hp
   have := h.len
   dsimp only at *
   omega
 · intro t ht hK
   rw [getP_del, if_neg (by omega)]
   exact h.get t (by omega) hK
 · intro t ht
   have h1 := hh.has hp (idN t)
   rw [letsF_hd]
   have e : (List.countP (fun x => decide (x = idN t)) (mapsN n)) = (bitN n t).toNat := cnt08 n t ht
   have e2 : cntM (mapsN n) (idN t) = (bitN n t).toNat := cnt08 n t ht
   rw [e]
   dsimp only at h1
   omega
theorem delP_set (P : TabD) (i : Int) {p' : ProcD} (hp : p'.pid = i) : delP (setP P i p') i = delP P i := by
 unfold delP setP
 congr 1
 show (P.list.map _).filter _ = P.list.filter _
 generalize P.list = L
 induction L with
 | nil => rfl
 | cons x L ih =>
   rw [List.map_cons, List.filter_cons, List.filter_cons, ih]
   by_cases hx : x.pid = i
   · simp [hx, hp]
   · simp [hx]
theorem kill_pick {p : ProcD} {i : Int} (hget : getP P i = some p) : (killF P i).2 = 0 ∧ pickF F (killF P i).1 i = ((letsF F p.maps, delP P i), (true, 0)) := by
 have hpid := (getP_some hget).2
 have hk : killF P i = (setP P i { p with ending := true }, 0) := by unfold killF; rw [hget]
 rw [hk]
 refine ⟨rfl, ?_⟩
 unfold pickF
 rw [getP_set hget (by exact hpid), if_pos rfl]
 show (if true = true then _ else _) = _
 rw [if_pos rfl, delP_set P i (p' := { p with ending := true }) hpid]
theorem exit_some {p : ProcD} {x : Int} (hget : getP P x = some p) : exitF F P x = ((letsF F p.maps, delP P x), 0) := by unfold exitF; rw [hget]
end
end Go.Proofs.YtachelbodpfckaaGreatDoor
namespace Go.Proofs.YtachelbodpfckaaGreatDoor
open Go.RowKit
variable [Low]
section
variable {X Y : Nat → Prop} {w w' : World} {tb vb db kb n N off top : Nat} {q : Int}
theorem VolM.grow {ts : List TypeId} {V : VolD} (h : VolM X w vb db kb n N V) (k : KeepT ts w w') (ht : ∀ t ∈ ts, t ∉ 113 :: 5 :: volT) (hY : ∀ g, Y g → X g ∨ (w.heap.size ≤ g ∧ g < w'.heap.size)) : VolM Y w' vb db kb n N V := by
 obtain ⟨tb, lb, hb, mb, A, h⟩ := h
 have h2 := h.keepT k ht
 obtain ⟨es, cl, hg1⟩ := h.held.block
 have hl1 := (Array.getElem?_eq_some_iff.1 hg1).1
 obtain ⟨es2, cl2, hg2⟩ := h.tree.map.block
 have hl2 := (Array.getElem?_eq_some_iff.1 hg2).1
 refine ⟨tb, lb, hb, mb, A, h2.top, h2.tree, h2.log, h2.held, h2.ne, h2.good, h2.fit, h2.glog, ⟨fun hy => ?_, fun hy => ?_, fun g hy => ?_⟩, h2.lows, fun i hi b hb hy => ?_⟩
 · rcases hY _ hy with hx | hx
   · exact h.out.1 hx
   · omega
 · rcases hY _ hy with hx | hx
   · exact h.out.2.1 hx
   · omega
 · rcases hY _ hy with hx | hx
   · exact h2.out.2.2 _ hx
   · exact hx.2
 · rcases hY _ hy with hx | hx
   · exact h.kids i hi b hb hx
   · obtain ⟨es3, cl3, hg3⟩ := (h.tree.node i hi).2.2.2.block hb
     have := (Array.getElem?_eq_some_iff.1 hg3).1
     omega
theorem VolK.grow {ts : List TypeId} {m : RefD} {hd : Int → Nat} (h : VolK X w vb db kb n N off top q m hd) (k : KeepT ts w w') (ht : ∀ t ∈ ts, t ∉ 113 :: 5 :: volT) (hY : ∀ g, Y g → X g ∨ (w.heap.size ≤ g ∧ g < w'.heap.size)) : VolK Y w' vb db kb n N off top q m hd := by
 obtain ⟨V, h1, h2⟩ := h
 exact ⟨V, h1.grow k ht hY, h2⟩
variable {F : FileS} {P : TabD}
theorem SysP.turn {S : Nat → Prop} {ts : List TypeId} (h : SysP X w tb vb db kb n N off top q F P) (k : Keep S w w') (kt : KeepT ts w w') (hts : ∀ t ∈ ts, t ∉ 113 :: 5 :: volT) (hS : ∀ g, g < w.heap.size → ¬ S g → (X g ∨ ∃ cs t fr, w.heap[g]? = some (.cells cs t fr) ∧ t ∉ procT) ∧ ∀ es cl, w.heap[g]? ≠ some (.map es cl)) (hY : ∀ g, Y g → X g ∨ (w.heap.size ≤ g ∧ g < w'.heap.size)) : SysP Y w' tb vb db kb n N off top q F P := by
 obtain ⟨pm, A, hb, hv, hh⟩ := h
 obtain ⟨es, cl, hmb⟩ := hb.mapblk
 have hml := (Array.getElem?_eq_some_iff.1 hmb).1
 have htl := (Array.getElem?_eq_some_iff.1 hb.top).1
 have hSc : ∀ g cs t, w.heap[g]? = some (.cells cs t (0, 0)) → t ∈ procT → ¬ X g → S g := fun g cs t hg ht hx => Classical.byContradiction fun hn => by
  rcases (hS g (Array.getElem?_eq_some_iff.1 hg).1 hn).1 with h | ⟨cs', t', fr', hg', ht'⟩
  · exact hx h
  · rw [hg] at hg'
    injection (Option.some.inj hg') with _ h3
    exact ht' (h3 ▸ ht)
 have h2 := hb.keep k (hSc _ _ _ hb.top (by decide) hb.apart.1) (Classical.byContradiction fun hn => (hS pm hml hn).2 _ _ hmb) fun p hp => ⟨hSc _ _ _ (hb.proc p hp).1 (by decide) (hb.apart.2 p hp), fun a ha => by
  obtain ⟨_, _, cs, hc⟩ := (hb.proc p hp).2.block ha
  exact hSc _ _ _ hc (by decide) (hb.out.2.1 p hp a ha)⟩
 have hno : ∀ g, g < w.heap.size → ¬ X g → ¬ Y g := fun g hg hx hy => by
  rcases hY g hy with h | h
  · exact hx h
  · omega
 refine ⟨pm, A, ⟨h2.top, h2.map, h2.proc, h2.blk, h2.row, h2.good, ⟨hno _ hml hb.out.1, fun p hp a ha => ?_, fun g hg => ?_⟩, h2.lows, h2.ids, h2.next, ⟨hno _ htl hb.apart.1, fun p hp => hno _ (Array.getElem?_eq_some_iff.1 (hb.proc p hp).1).1 (hb.apart.2 p hp)⟩⟩, hv.grow kt hts fun g hg => ?_, hh⟩
 · obtain ⟨_, _, cs, hc⟩ := (hb.proc p hp).2.block ha
   exact hno _ (Array.getElem?_eq_some_iff.1 hc).1 (hb.out.2.1 p hp a ha)
 · rcases hY g hg with h | h
   · exact Nat.lt_of_lt_of_le (hb.out.2.2 g h) k.size
   · exact h.2
 · rcases hg with hg | hg
   · rcases hY g hg with h | h
     · exact Or.inl (Or.inl h)
     · exact Or.inr h
   · exact Or.inl (Or.inr hg)
theorem SysP.grow {base E m c : Nat} {v : Value} {us : List Value} (h : SysP X w tb vb db kb n N off top q F P) (k : Keep (fun g => some g ≠ v.ownBlock) w w') (hr : w.ownsRow base E m v c us) (hl : Low.low ≤ base) (hE : E ∉ 113 :: 5 :: volT) (hX : E ∉ procT ∨ ∀ g, v.ownBlock = some g → X g) (hY : ∀ g, Y g → X g ∨ (w.heap.size ≤ g ∧ g < w'.heap.size)) : SysP Y w' tb vb db kb n N off top q F P := by
 refine h.turn k (KeepT.grown (ts := [E]) k hr (List.mem_singleton.2 rfl) hl) (fun t ht => by rw [List.mem_singleton.1 ht]; exact hE) (fun g _ hn => ?_) hY
 have e : some g = v.ownBlock := Classical.byContradiction fun h => hn h
 rcases hr.2 with ⟨h1, _⟩ | ⟨g', c', cur, h1, _, hg, _⟩
 · rw [h1] at e; cases e
 · have e2 : g = g' := by rw [h1] at e; exact Option.some.inj e
   subst e2
   refine ⟨?_, fun es cl hm => by rw [hm] at hg; cases hg⟩
   rcases hX with hx | hx
   · exact Or.inr ⟨_, _, _, hg, hx⟩
   · exact Or.inl (hx g e.symm)
theorem SysP.turnM (h : SysP X w tb vb db kb n N off top q F P) {m : Nat} (hx : X m) {es : Array MapEntry} {cl : Nat} (hm : w.heap[m]? = some (.map es cl)) (k : Keep (· ≠ m) w w') : SysP X w' tb vb db kb n N off top q F P := by
 obtain ⟨pm, A, hb, hv, hh⟩ := h
 have hc : ∀ g cs t fr, w.heap[g]? = some (.cells cs t fr) → g ≠ m := fun g cs t fr hg e => by rw [e, hm] at hg; cases hg
 refine ⟨pm, A, hb.keep k (hc _ _ _ _ hb.top) (fun e => hb.out.1 (e ▸ hx)) fun p hp => ⟨hc _ _ _ _ (hb.proc p hp).1, fun a ha => ?_⟩, hv.keepM (Or.inl hx) hm k, hh⟩
 obtain ⟨_, _, cs, hcc⟩ := (hb.proc p hp).2.block ha
 exact hc _ _ _ _ hcc
def idF (m : RefD) (p : By) : Int := match entM m p with
 | none => 0
 | some e => e.id
theorem sys_find (hE : Env w) (h : SysP X w tb vb db kb n N off top q F P) (hN : N ≤ 1000000000) : ∃ rb, w.cell? ⟨vb, 0, none⟩ = some (.pointer (some ⟨rb, 0, none⟩)) ∧ ∀ p, Calls Tryz.prog 13 #[.pointer (some ⟨rb, 0, none⟩), .string (bs p)] w fun e w' => e = .returned (.tuple #[.int .i64 (idF F.m p), .bool (entM F.m p).isSome]) ∧ Ext w w' := by
 obtain ⟨pm, A, _, hv, _⟩ := h
 obtain ⟨rb, T, hc, hT, hL⟩ := hv.tree
 refine ⟨rb, hc, fun p => ?_⟩
 have h1 := at_Find p hE hT hN
 have h2 := hL.ent_find p
 have e1 : idF F.m p = findT T p := by
  unfold idF
  rw [h2]
  by_cases h0 : findT T p = 0
  · rw [if_pos h0, h0]
  · rw [if_neg h0]
 have e2 : (entM F.m p).isSome = decide (findT T p ≠ 0) := by
  rw [h2]
  by_cases h0 : findT T p = 0
  · simp [h0]
  · simp [h0]
 rw [e1, e2]
 exact h1
end
end Go.Proofs.YtachelbodpfckaaGreatDoor
namespace Go.Proofs.YtachelbodpfckaaGreatDoor
open Go.RowKit
theorem OwnIs.runI {w : World} {base : Nat} {a : Option Addr} {c : Nat} {X : List Int} (h : OwnIs w base a c X) : RunM w a (intV X) := by
 obtain ⟨a', c', hv, _, hr, _⟩ := run_of_row h
 cases hv
 exact hr
def CloneI (l : List Int) (w : World) (e : Ending) (w' : World) : Prop := ∃ a c, e = .returned (.slice a l.length c) ∧ OwnIs w' w.heap.size a c l ∧ Ext w w'
set_option maxRecDepth 100000 in
set_option maxHeartbeats 1600000 in
theorem clone_i (a : Option Addr) (c : Nat) (l : List Int) (w : World) (hB : RunM w a (intV l)) (hl : l.length ≤ 100000) :
 Calls Tryz.prog 44 #[.slice a l.length c] w (CloneI l w) := by
 have h : RunM w a (intV l) := hB
 have hn : (intV l).length = l.length * 1 := by simp [intV]
 have h1 : ∀ u ∈ intV l, u.oneCell' = true := intV_one l
 obtain ⟨n, hnn⟩ : ∃ n, n = l.length := ⟨_, rfl⟩
 rw [← hnn] at hn hl ⊢
 have HNN := Lib.hid hnn; clear hnn
 obtain ⟨us, hus⟩ : ∃ us, us = intV l := ⟨_, rfl⟩
 rw [← hus] at h hn h1
 have HUS := Lib.hid hus; clear hus hB
 obtain ⟨R, hR⟩ : ∃ R, R = CloneI l w := ⟨_, rfl⟩
 rw [← hR]
 have HR := Lib.hid hR; clear hR
 have q24 : ∀ (w : World) (a : Option Addr) (n c n' c' : Nat), (binOp .eql 22 (.slice a n c) (.slice none n' c')).run Tryz.prog w = .ok (.bool a.isNone) w := fun w a n c n' c' => Lib.run_eql_slice_nil w _ _ a n c n' c' Tryz.underlying22
 have HH := Lib.hid h; clear h
 have HN := Lib.hid hn; clear hn
 cases a with
 | none =>
   go_enter Tryz.func44, Tryz.ntmps44
   go_wp2
   rw [HR.out]
   have hn0 : us = [] := by
    rcases HH.out with h | ⟨_, _, ha, _⟩
    · exact h
    · cases ha
   have hz : n = 0 := by have := HN.out; rw [hn0] at this; simp at this; omega
   subst hz
   have hl0 : l = [] := by have := HUS.out; rw [hn0] at this; simpa [intV] using this.symm
   subst hl0
   exact ⟨none, 0, rfl, OwnIs.none _ _, Ext.refl _⟩
 | some ad =>
   obtain ⟨i0, hi, hz, hsz, hby⟩ := info_parts info_intL
   have HI := Lib.hid hi; clear hi
   have HZ := Lib.hid hz; clear hz
   have HS := Lib.hid hsz; clear hsz
   have HB := Lib.hid hby; clear hby
   have hpl := (HH.out.ext (Ext.alloc w (.cells #[] 3))).plain
   have HP := Lib.hid hpl; clear hpl
   go_enter Tryz.func44, Tryz.ntmps44
   go_wp2_with (at_builtin; (refine wpList_append_own _ rfl _ _ 22 rfl w.heap.size 3 i0 (.int .i64 0) 1 8 Tryz.underlying22 HI.out HZ.out HS.out HB.out rfl (by decide) (.slice (some ⟨w.heap.size, 0, none⟩) 0 0) 0 [] rfl (World.ownsRow_made w #[] 0 (Nat.le_refl _) (Nat.zero_le _) rfl) ad n c us rfl HN.out HP.out h1 (by unfold maxLen; omega) (by omega) (by simp) ?_); intro v' w1 hown hgrow hnil)
   simp only [Nat.zero_add, List.nil_append] at hown
   rw [HUS.out] at hown
   obtain ⟨a', c', rfl, hc', hrun, hfr⟩ := run_of_row hown
   have HX := Lib.hid (((Below.refl _ w).alloc (Nat.le_refl _) _).grown hgrow (by simp) (by intro k hk; simp [Value.ownBlock] at hk; omega))
   rw [HR.out]
   have hnn := HNN.out
   subst hnn
   exact ⟨a', c', rfl, hown, HX.out⟩
end Go.Proofs.YtachelbodpfckaaGreatDoor
namespace Go.Proofs.YtachelbodpfckaaGreatDoor
open Go.RowKit Go.Maps Go.Sort Go.Shelf
variable [Low]
omit [Low] in
theorem sorts_ints (m : Nat) : AnyZI.SortsIn Tryz.prog Tryz.sorted_int_ren Fence.wide m :=
 ⟨fun blk off cap ss W hH hblk hsz => callsIn_wide.2 (AnyM.slices_Sort_int Tryz.sort_int blk off cap ss W hH hblk hsz),
  fun p cap W => callsIn_wide.2 (AnyM.slices_Sort_int_none Tryz.sort_int p cap W)⟩
section
variable {X : Nat → Prop} {w w' : World} {tb pm vb db kb n N off top : Nat} {q : Int} {F : FileS} {P : TabD} {A : Int → ProcA}
def pidsP (P : TabD) : List Int := P.list.map ProcD.pid
theorem ProcB.sorted (h : ProcB X w tb pm vb N P A) : (pidsP P).Pairwise (fun x y => x < y) := List.pairwise_map.2 h.good.sorted
set_option maxRecDepth 100000 in
set_option maxHeartbeats 3200000 in
theorem proc_List (h : SysP X w tb vb db kb n N off top q F P) (hN : N ≤ 1000000000) :
 Calls Tryz.prog 15 #[.pointer (some ⟨tb, 0, none⟩)] w fun e w' => ∃ a c, e = .returned (.slice a (pidsP P).length c) ∧ OwnIs w' w.heap.size a c (pidsP P) ∧ Ext w w' := by
 obtain ⟨R, hR⟩ : ∃ R : Ending → World → Prop, R = fun e w' => ∃ a c, e = .returned (.slice a (pidsP P).length c) ∧ OwnIs w' w.heap.size a c (pidsP P) ∧ Ext w w' := ⟨_, rfl⟩
 rw [← hR]
 have HR := Lib.hid hR; clear hR
 obtain ⟨pm, A, hb, hv, hh⟩ := h
 have c1 := blk_cell hb.top 1 (.map (some pm)) rfl
 obtain ⟨D, h1, h2, h3⟩ := hb.map
 have hsz := h1.size_le
 have hbl := h1.lt
 refine (callsIn_wide (n := 6)).1 ?_
 have cK : ∀ mb W, CallsIn Fence.wide 5 Tryz.prog 33 #[.map mb] W fun e w' => e = .returned (.func (.func 53) #[] #[.pointer (some ⟨W.heap.size, 0, none⟩)]) ∧ w' = W.alloc (.cells #[.map mb] 77) := fun mb W => AnyZI.keys_in Tryz.keysI_proc_Proc Fence.wide 5 trivial rfl mb W
 have hseq : SeqGives Fence.wide 2 Tryz.prog 53 #[.pointer (some ⟨w.heap.size, 0, none⟩)] encZ (fun ss => ss.Perm (intKeys D)) (Maps.size D) (w.alloc (.cells #[.map (some pm)] 77)) :=
  AnyZI.keys_gives (ρ := Tryz.keysI_proc_Proc_ren) { Tryz.keysI_proc_Proc with } Fence.wide _ trivial rfl (by omega) w.heap.size pm N D _ (by simp) (by simp) (by
   obtain ⟨es, clock, hb, Ft, hs, hD⟩ := h1
   exact ⟨es, clock, (Below.heap_alloc _ _ pm hbl).trans hb, Ft, hs, hD⟩)
 have cS := AnyZI.sorted_in Tryz.sorted_int Fence.wide 5 trivial trivial trivial trivial rfl (by omega) (sorts_ints _) (enters_of Tryz.func52 (by kernel_rfl) rfl) 53 #[.pointer (some ⟨w.heap.size, 0, none⟩)] trivial (enters_of Tryz.func53 (by kernel_rfl) rfl) _ _ (by unfold maxLen; omega) (by omega) _ hseq
 change CallsIn _ _ Tryz.prog 32 _ _ _ at cS
 have hfK : Fence.wide.fn 33 := trivial
 have hfS : Fence.wide.fn 32 := trivial
 have hint : ∀ ss : List Int, ss.Perm (intKeys D) → ss.mergeSort leI = pidsP P := fun ss hp => by
  obtain ⟨g1, g2, g3⟩ := sorted_ints h1 (f := procF P A) (fun x => (h3 x).2) hp
  have hs := hb.sorted
  refine List.Perm.eq_of_pairwise (le := fun a b : Int => a ≤ b) (fun a b _ _ h1 h2 => by omega) g1 (hs.imp fun {a b} hab => by omega) ?_
  refine (List.perm_ext_iff_of_nodup g2 (hs.imp fun {a b} hab e => by omega)).2 fun x => ?_
  rw [g3 x]
  unfold pidsP procF
  cases hg : getP P x with
  | none =>
    simp only [Option.map_none, Option.isSome_none, Bool.false_eq_true, false_iff]
    intro h5
    obtain ⟨p, hp, e⟩ := List.mem_map.1 h5
    exact getP_none hg p hp e
  | some p =>
    obtain ⟨h4, h5⟩ := getP_some hg
    simp only [Option.map_some, Option.isSome_some, true_iff]
    exact List.mem_map.2 ⟨p, h4, h5⟩
 have HI := Lib.hid hint; clear hint
 clear h1 h2 h3 hsz hbl hseq hb hv hh
 refine callsIn_of_wp Tryz.func15 rfl trivial ?_ rfl
 simp only [Tryz.ntmps15, List.size_toArray, List.length_cons, List.length_nil, Nat.reduceAdd, Nat.reduceSub, Array.replicate_succ, Array.replicate_zero, List.push_toArray, List.append_toArray, List.nil_append, List.cons_append]
 gi_wp2_with (first
  | (gi_at_call 33; refine (cK _ _).mono ?_; rintro e w' ⟨rfl, rfl⟩)
  | (gi_at_call 32; refine cS.mono ?_; rintro e w' ⟨v, ss, rfl, hS, hrow, hnil, hb⟩))
 rw [HR.out]
 have hrow' := ownsRow_base_a (base' := w.heap.size) hrow (by simp)
 have hbb : Ext w w' := ((Below.refl _ w).alloc (Nat.le_refl _) _).trans (hb.mono (by simp))
 have hi := HI.out ss hS
 have hl : ss.length = (pidsP P).length := by rw [← hi]; exact (List.mergeSort_perm ss _).length_eq.symm
 have hi2 : (ss.mergeSort fun x y => decide (x ≤ y)) = pidsP P := hi
 rw [hi2, hl] at hrow'
 have hv : ∃ a c, v = .slice a (pidsP P).length c := by
  rcases hrow'.2 with ⟨q1, q2⟩ | ⟨g, c, cur, q1, _⟩
  · exact ⟨none, 0, by rw [q1, q2]⟩
  · exact ⟨_, c, q1⟩
 obtain ⟨a, c, rfl⟩ := hv
 exact ⟨a, c, rfl, hrow', hbb⟩
def GotR (P : TabD) (i : Int) (w : World) (e : Ending) (w' : World) : Prop :=
 (match getP P i with
 | none => e = .returned (.tuple #[.agg #[.int .i64 0, .string ⟨#[]⟩, .slice none 0 0, .bool false], .bool false])
 | some p => ∃ a c, e = .returned (.tuple #[.agg #[.int .i64 p.pid, .string (bs p.unit), .slice a p.maps.length c, .bool p.ending], .bool true]) ∧ OwnIs w' w.heap.size a c p.maps) ∧ Ext w w'
set_option maxRecDepth 100000 in
set_option maxHeartbeats 6400000 in
theorem proc_Get (h : SysP X w tb vb db kb n N off top q F P) (i : Int) (h1 : -9223372036854775808 ≤ i) (h2 : i ≤ 9223372036854775807) :
 Calls Tryz.prog 26 #[.pointer (some ⟨tb, 0, none⟩), .int .i64 i] w (GotR P i w) := by
 obtain ⟨R, hR⟩ : ∃ R : Ending → World → Prop, R = GotR P i w := ⟨_, rfl⟩
 rw [← hR]
 have HR := Lib.hid hR; clear hR
 obtain ⟨pm, A, hb, hv, hh⟩ := h
 have hx := Ext.alloc w (.cells #[.int .i64 0, .string ⟨#[]⟩, .slice none 0 0, .bool false] 68)
 have c1 := blk_cell (hx.heap hb.top) 1 (.map (some pm)) rfl
 have hlk := (hb.map.ext hx).lookup int_keyedA Tryz.underlying77 (Tryz.zeroValue80 _) (key_int h1 h2)
 cases hg : getP P i with
 | none =>
   rw [procF_none hg] at hlk
   have HG := Lib.hid hg; have HX := Lib.hid hx
   clear hb hv hh hg hx
   dsimp only [Option.getD] at hlk
   go_enter Tryz.func26, Tryz.ntmps26
   go_wp2_with fail
   have hz := heap_alloc_new w (.cells #[.int .i64 0, .string ⟨#[]⟩, .slice none 0 0, .bool false] 68)
   have d0 := blk_cell hz 0 _ rfl
   have d1 := blk_cell hz 1 _ rfl
   have d2 := blk_cell hz 2 _ rfl
   have d3 := blk_cell hz 3 _ rfl
   refine bodyPost_ret (v := .tuple #[.agg #[.int .i64 0, .string ⟨#[]⟩, .slice none 0 0, .bool false], .bool false]) (by simp [results, Tryz.results26, go_sem, d0, d1, d2, d3]) rfl ?_
   rw [HR.out]
   unfold GotR
   rw [HG.out]
   exact ⟨rfl, HX.out⟩
 | some p =>
   rw [procF_some hg] at hlk
   obtain ⟨hp, rfl⟩ := getP_some hg
   have hpr := hb.proc p hp
   have hx2 : Ext w ((w.alloc (.cells #[.int .i64 0, .string ⟨#[]⟩, .slice none 0 0, .bool false] 68)).alloc (.cells (procV p (A p.pid)) 68)) := hx.trans (Ext.alloc _ _)
   have hm8 := hb.good.maps p hp
   generalize A p.pid = Ap at hlk hpr hx2
   obtain ⟨pb, ma, mc⟩ := Ap
   have hcl := fun W (k : Ext w W) => clone_i ma mc p.maps W (OwnIs.runI (hpr.2.keep (Keep.of_ext (S := fun _ => True) k) fun _ _ _ _ => trivial)) (by omega)
   have e0 := blk_cell (hx.heap hpr.1) 0 (.int .i64 p.pid) rfl
   have e1 := blk_cell (hx.heap hpr.1) 1 (.string (bs p.unit)) rfl
   have e2 := blk_cell (hx.heap hpr.1) 2 (.slice ma p.maps.length mc) rfl
   have e3 := blk_cell (hx.heap hpr.1) 3 (.bool p.ending) rfl
   have e4 := blk_cell (hx2.heap hpr.1) 2 (.slice ma p.maps.length mc) rfl
   have HG := Lib.hid hg; have HX2 := Lib.hid hx2; have HCL := Lib.hid hcl
   have hszw : pb < w.heap.size := (Array.getElem?_eq_some_iff.1 hpr.1).1
   clear hb hv hh hg hx hx2 hcl hpr hm8 hp
   dsimp only [Option.getD] at hlk
   go_enter Tryz.func26, Tryz.ntmps26
   go_wp2_with (go_at_call 44; refine Hid.out ?_)
   refine Lib.hid ?_
   refine (HCL.out _ HX2.out).mono ?_
   rintro e w3 ⟨a', c', rfl, hO, hx3⟩
   have hz := hx3.heap ((Ext.alloc (w.alloc (.cells #[.int .i64 0, .string ⟨#[]⟩, .slice none 0 0, .bool false] 68)) (.cells (procV p ⟨pb, ma, mc⟩) 68)).heap (heap_alloc_new w (.cells #[.int .i64 0, .string ⟨#[]⟩, .slice none 0 0, .bool false] 68)))
   have hn := hx3.heap (heap_alloc_new (w.alloc (.cells #[.int .i64 0, .string ⟨#[]⟩, .slice none 0 0, .bool false] 68)) (.cells (procV p ⟨pb, ma, mc⟩) 68))
   simp only [World.size_alloc] at hn
   have hz3 := hx3.size
   have g0 := blk_cell hn 0 (.int .i64 p.pid) rfl
   have g1 := blk_cell hn 1 (.string (bs p.unit)) rfl
   have g2 := blk_cell hn 2 (.slice ma p.maps.length mc) rfl
   have g3 := blk_cell hn 3 (.bool p.ending) rfl
   have k2 := blk_free hn 2
   have d0 := blk_cell hz 0 (.int .i64 0) rfl
   have d1 := blk_cell hz 1 (.string ⟨#[]⟩) rfl
   have d2 := blk_cell hz 2 (.slice none 0 0) rfl
   have d3 := blk_cell hz 3 (.bool false) rfl
   have q0 := blk_free hz 0
   have q1 := blk_free hz 1
   have q2 := blk_free hz 2
   have q3 := blk_free hz 3
   have HO := Lib.hid hO; have HZ := Lib.hid hz; have HN := Lib.hid hn
   have HX3 := Lib.hid (HX2.out.trans hx3)
   clear hO hx3 hz hn e0 e1 e2 e3 e4 hlk c1
   have HS2 : Hid (w.heap.size + 2 ≤ ((w.alloc (.cells #[.int .i64 0, .string ⟨#[]⟩, .slice none 0 0, .bool false] 68)).alloc (.cells (procV p ⟨pb, ma, mc⟩) 68)).heap.size) := Lib.hid (by simp)
   generalize ((w.alloc (.cells #[.int .i64 0, .string ⟨#[]⟩, .slice none 0 0, .bool false] 68)).alloc (.cells (procV p ⟨pb, ma, mc⟩) 68)).heap.size = s2 at HO HS2
   generalize hsz : w.heap.size = s at *
   have HSZ := Lib.hid hsz; clear hsz
   go_wp2_with fail
   have hk1 : Keep (· ≠ s + 1) w3 (w3.setCell ⟨s + 1, 2, none⟩ (.slice a' p.maps.length c')) := (Keep.refl _ _).setCell (fun _ h => h) _ _
   have hz1 := hk1.heap (show s ≠ s + 1 by omega) HZ.out
   generalize w3.setCell ⟨s + 1, 2, none⟩ (.slice a' p.maps.length c') = w4 at hk1 hz1 ⊢
   have hz2 := setCell_row (setCell_row (setCell_row (setCell_row hz1 (i := 0) (.int .i64 p.pid)) (i := 1) (.string (bs p.unit))) (i := 2) (.slice a' p.maps.length c')) (i := 3) (.bool p.ending)
   have hk2 : Keep (· ≠ s) w4 ((((w4.setCell ⟨s, 0, none⟩ (.int .i64 p.pid)).setCell ⟨s, 1, none⟩ (.string (bs p.unit))).setCell ⟨s, 2, none⟩ (.slice a' p.maps.length c')).setCell ⟨s, 3, none⟩ (.bool p.ending)) := ((((Keep.refl _ _).setCell (fun _ h => h) _ _).setCell (fun _ h => h) _ _).setCell (fun _ h => h) _ _).setCell (fun _ h => h) _ _
   generalize ((((w4.setCell ⟨s, 0, none⟩ (.int .i64 p.pid)).setCell ⟨s, 1, none⟩ (.string (bs p.unit))).setCell ⟨s, 2, none⟩ (.slice a' p.maps.length c')).setCell ⟨s, 3, none⟩ (.bool p.ending)) = wf at hz2 hk2 ⊢
   clear d0 d1 d2 d3 q0 q1 q2 q3 g0 g1 g2 g3 k2
   have d0 := blk_cell hz2 0 (.int .i64 p.pid) rfl
   have d1 := blk_cell hz2 1 (.string (bs p.unit)) rfl
   have d2 := blk_cell hz2 2 (.slice a' p.maps.length c') rfl
   have d3 := blk_cell hz2 3 (.bool p.ending) rfl
   refine bodyPost_ret (v := .tuple #[.agg #[.int .i64 p.pid, .string (bs p.unit), .slice a' p.maps.length c', .bool p.ending], .bool true]) (by simp [results, Tryz.results26, go_sem, d0, d1, d2, d3]) rfl ?_
   rw [HR.out]
   unfold GotR
   rw [HG.out]
   have hs2 := HS2.out
   have hsz := HSZ.out
   refine ⟨⟨a', c', rfl, ?_⟩, ?_⟩
   · refine OwnIs.low ?_ (by omega : w.heap.size ≤ s2)
     have h1 := HO.out.keep hk1 fun x cs hx _ => by have := (HO.out.block hx).1; show x.block ≠ s + 1; omega
     exact h1.keep hk2 fun x cs hx _ => by have := (HO.out.block hx).1; show x.block ≠ s; omega
   · exact (((Keep.of_ext (S := fun j => j < w.heap.size) HX3.out).andThen hk1 fun j _ hj => by have hj : j < w.heap.size := hj; show j ≠ s + 1; omega).andThen hk2 fun j _ hj => by have hj : j < w.heap.size := hj; show j ≠ s; omega).ext_lt
end
end Go.Proofs.YtachelbodpfckaaGreatDoor
