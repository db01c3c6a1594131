/- What stands between two acts; what each call makes of it. -/
import Derived.Test.YtefpllpichhojaaGreatDoorM2
import Derived.Test.YtefpllpichhojaaGreatDoorProcSpawn
namespace Go.Proofs.YtefpllpichhojaaGreatDoor
open Go.RowKit
variable [Low]
section
theorem keepP_act {X : Nat → Prop} {a b : World} {B : Nat} {cs : Array Value} {fr : Nat × Nat} (h : KeepP X a b) (hb : a.heap[B]? = some (.cells cs 31 fr)) : b.heap[B]? = some (.cells cs 31 fr) := Keep.heap h (Or.inr (Or.inr ⟨cs, _, fr, hb, by decide⟩)) hb
def PlaysQ (w wr : World) (tb vb N off : Nat) (F : FileS) (P : TabD) (L : List PlayD) (pa : Option Addr) : Prop :=
 ∃ X db kb, SysP X wr tb vb db kb 500 N off 1 2000 F P ∧ ListR X wr pa L ∧ Ext w wr
variable {w wr w' : World} {tb vb N off : Nat} {F : FileS} {P : TabD} {L : List PlayD} {pa : Option Addr}
theorem PlaysQ.ext (h : PlaysQ w wr tb vb N off F P L pa) (k : Ext wr w') : PlaysQ w w' tb vb N off F P L pa := by
 obtain ⟨X, db, kb, h1, h2, h4⟩ := h
 exact ⟨X, db, kb, h1.ext k, h2.ext k, h4.trans k⟩
theorem PlaysQ.from (h : PlaysQ w wr tb vb N off F P L pa) : Ext w wr := by
 obtain ⟨X, db, kb, h1, h2, h4⟩ := h; exact h4
theorem PlaysQ.good (h : PlaysQ w wr tb vb N off F P L pa) : GoodP P ∧ P.next ≤ (N : Int) := by
 obtain ⟨X, db, kb, h1, h2, h4⟩ := h; exact h1.heldBy.2
theorem PlaysQ.plr (h : PlaysQ w wr tb vb N off F P L pa) : PlR wr pa L := by
 obtain ⟨X, db, kb, h1, h2, h4⟩ := h; exact h2.1
theorem PlaysQ.row (h : PlaysQ w wr tb vb N off F P L pa) : ∀ x ∈ L, RunM wr x.2.1 (intV x.1.maps) := by
 obtain ⟨X, db, kb, h1, h2, h4⟩ := h; exact fun x hx => (h2.2.2 x hx).1
theorem PlaysQ.cap (h : PlaysQ w wr tb vb N off F P L pa) : ∀ x ∈ L, x.1.maps.length ≤ x.2.2 := by
 obtain ⟨X, db, kb, h1, h2, h4⟩ := h; exact fun x hx => (h2.2.2 x hx).2.2
theorem PlaysQ.anew {a' : Option Addr} {c' : Nat} {L' : List PlayD} (h : PlaysQ w wr tb vb N off F P L pa) (k : Ext wr w') {base : Nat} (hb : wr.heap.size ≤ base) (hr : w'.ownsRow base 36 4 (.slice a' L'.length c') L'.length (L'.flatMap plV)) (hm : ∀ x ∈ L', (∃ y ∈ L, x.1.maps = y.1.maps ∧ x.2 = y.2) ∨ ∃ b2, wr.heap.size ≤ b2 ∧ OwnIs w' b2 x.2.1 x.2.2 x.1.maps) : PlaysQ w w' tb vb N off F P L' a' := by
 obtain ⟨X, db, kb, h1, h2, h4⟩ := h
 obtain ⟨a2, c2, hv, _, hrun, _⟩ := run_of_row hr
 cases hv
 refine ⟨fun g => X g ∨ (wr.heap.size ≤ g ∧ g < w'.heap.size), db, kb, h1.more k fun g hg => hg, ⟨hrun, SetA.own hr (by decide) fun g h1 h2 => Or.inr ⟨Nat.le_trans hb h1, h2⟩, fun x hx => ?_⟩, h4.trans k⟩
 rcases hm x hx with ⟨y, hy, e1, e2⟩ | ⟨b2, h5, h6⟩
 · rw [e1, e2]
   exact ⟨(h2.2.2 y hy).1.ext k, ((h2.2.2 y hy).2.1.ext k).mono fun g hg => Or.inl hg, (h2.2.2 y hy).2.2⟩
 · obtain ⟨a3, c3, hv3, hcc, _, _⟩ := run_of_row h6
   cases hv3
   exact ⟨h6.runI, SetA.own h6 (by decide) fun g h1 h2 => Or.inr ⟨Nat.le_trans h5 h1, h2⟩, hcc⟩
theorem PlaysQ.agree (h : PlaysQ w wr tb vb N off F P L pa) (hL : P.list = L.map Prod.fst) (pc : Nat) (hN : N ≤ 1000000000) :
 Calls Tryz.prog 26 #[.pointer (some ⟨tb, 0, none⟩), .pointer (some ⟨vb, 0, none⟩), .slice pa L.length pc] wr fun e w' => e = .returned (.bool true) ∧ PlaysQ w w' tb vb N off F P L pa := by
 have h0 := h
 obtain ⟨X, db, kb, h1, h2, h4⟩ := h
 refine (law_agree h1 L pa pc hL h2.1 (fun x hx => (h2.2.2 x hx).1) hN).mono ?_
 rintro e w' ⟨he, hx⟩
 exact ⟨he, h0.ext hx⟩
theorem PlaysQ.id (hlw : Low.low = w.heap.size) (hE : EnvL w) (h : PlaysQ w wr tb vb N off F P L pa) (hN : N ≤ 1000000000) (p : By) :
 Calls Tryz.prog 14 #[.pointer (some ⟨vb, 0, none⟩), .string (bs p)] wr fun e w' => e = .returned (.tuple #[.int .i64 (holdF F.m p).1, .int .i64 (holdF F.m p).2]) ∧ Ext wr w' := by
 have _ := hlw
 obtain ⟨X, db, kb, h1, h2, h4⟩ := h
 exact law_id (hE.ext h4).env h1 hN p
theorem PlaysQ.kill (hlw : Low.low = w.heap.size) (h : PlaysQ w wr tb vb N off F P L pa) (i : Int) (hi : In64 i) :
 Calls Tryz.prog 20 #[.pointer (some ⟨tb, 0, none⟩), .int .i64 i] wr fun e w' => e = .returned (.int .i64 (killF P i).2) ∧ PlaysQ w w' tb vb N off F (killF P i).1 L pa ∧ ∃ X, KeepP X wr w' := by
 obtain ⟨X, db, kb, h1, h2, h4⟩ := h
 refine (proc_Kill h1 i hi.1 hi.2).mono ?_
 rintro e w' ⟨he, hs, hk⟩
 exact ⟨he, ⟨X, db, kb, hs, h2.keepP hk, Ext.keepP h4 hk hlw⟩, X, hk⟩
theorem PlaysQ.pick (hlw : Low.low = w.heap.size) (h : PlaysQ w wr tb vb N off F P L pa) (i : Int) (hi : In64 i) (hN : N + 8 ≤ 1000000000) :
 Calls Tryz.prog 21 #[.pointer (some ⟨tb, 0, none⟩), .int .i64 i] wr fun e w' => e = .returned (.tuple #[.bool (pickF F P i).2.1, .int .i64 (pickF F P i).2.2]) ∧ PlaysQ w w' tb vb (N + 8) off (pickF F P i).1.1 (pickF F P i).1.2 L pa ∧ ∃ X, KeepP X wr w' := by
 obtain ⟨X, db, kb, h1, h2, h4⟩ := h
 refine (proc_Pick h1 i hi.1 hi.2 hN).mono ?_
 rintro e w' ⟨he, hs, hk⟩
 exact ⟨he, ⟨X, db, kb, hs, h2.keepP hk, Ext.keepP h4 hk hlw⟩, X, hk⟩
theorem PlaysQ.exit (hlw : Low.low = w.heap.size) (h : PlaysQ w wr tb vb N off F P L pa) (i : Int) (hi : In64 i) (hN : N + 8 ≤ 1000000000) :
 Calls Tryz.prog 22 #[.pointer (some ⟨tb, 0, none⟩), .int .i64 i] wr fun e w' => e = .returned (.int .i64 (exitF F P i).2) ∧ PlaysQ w w' tb vb (N + 8) off (exitF F P i).1.1 (exitF F P i).1.2 L pa ∧ ∃ X, KeepP X wr w' := by
 obtain ⟨X, db, kb, h1, h2, h4⟩ := h
 refine (proc_Exit h1 i hi.1 hi.2 hN).mono ?_
 rintro e w' ⟨he, hs, hk⟩
 exact ⟨he, ⟨X, db, kb, hs, h2.keepP hk, Ext.keepP h4 hk hlw⟩, X, hk⟩
theorem PlaysQ.map (hlw : Low.low = w.heap.size) (hE : EnvL w) (h : PlaysQ w wr tb vb N off F P L pa) (i : Int) (hi : In64 i) (s : By) (hN : N + 1 ≤ 1000000000) :
 Calls Tryz.prog 16 #[.pointer (some ⟨tb, 0, none⟩), .int .i64 i, .string (bs s)] wr fun e w' => e = .returned (.int .i64 (mapF F P i s).2) ∧ PlaysQ w w' tb vb (N + 1) off (mapF F P i s).1.1 (mapF F P i s).1.2 L pa ∧ ∃ X, KeepP X wr w' := by
 obtain ⟨X, db, kb, h1, h2, h4⟩ := h
 refine (proc_Map (hE.ext h4) h1 (by have := h4.size; omega) i hi.1 hi.2 s hN).mono ?_
 rintro e w' ⟨he, hs, hk⟩
 exact ⟨he, ⟨X, db, kb, hs, h2.keepP hk, Ext.keepP h4 hk hlw⟩, X, hk⟩
theorem PlaysQ.unmap (hlw : Low.low = w.heap.size) (h : PlaysQ w wr tb vb N off F P L pa) (i f : Int) (hi : In64 i) (hN : N + 1 ≤ 1000000000) :
 Calls Tryz.prog 19 #[.pointer (some ⟨tb, 0, none⟩), .int .i64 i, .int .i64 f] wr fun e w' => e = .returned (.int .i64 (unmapF F P i f).2) ∧ PlaysQ w w' tb vb (N + 1) off (unmapF F P i f).1.1 (unmapF F P i f).1.2 L pa ∧ ∃ X, KeepP X wr w' := by
 obtain ⟨X, db, kb, h1, h2, h4⟩ := h
 refine (proc_Unmap h1 i f hi.1 hi.2 hN).mono ?_
 rintro e w' ⟨he, hs, hk⟩
 exact ⟨he, ⟨X, db, kb, hs, h2.keepP hk, Ext.keepP h4 hk hlw⟩, X, hk⟩
theorem PlaysQ.ren (hlw : Low.low = w.heap.size) (hE : EnvL w) (h : PlaysQ w wr tb vb N off F P L pa) {a : Option Addr} {c : Nat} {p s : By} {oa : OpA} (hL : OpsL wr a [(⟨5, p, s, []⟩, oa)]) (ho : off ≤ 247) (hN : N + 2 ≤ 1000000000) :
 Calls Tryz.prog 24 #[.pointer (some ⟨vb, 0, none⟩), .slice a 1 c] wr fun e w' => ∃ z F' off', e = .returned (.int .i64 z) ∧ off' ≤ off + 2 ∧ PlaysQ w w' tb vb (N + 2) off' F' P L pa ∧ ∃ X, KeepP X wr w' := by
 obtain ⟨X, db, kb, h1, h2, h4⟩ := h
 refine (sys_ren (hE.ext h4) h1 hL (by have : halfN 500 = 249 := rfl; omega) (by decide) hN).mono ?_
 rintro e w' ⟨z, F', off', he, ho', hs, hk⟩
 exact ⟨z, F', off', he, ho', ⟨X, db, kb, hs, h2.keepP hk, Ext.keepP h4 hk hlw⟩, X, hk⟩
def PlaysO (w wr : World) (tb vb vb' N : Nat) (P : TabD) (L : List PlayD) (pa : Option Addr) : Prop :=
 ∃ X pm A db kb, ProcB X wr tb pm vb N P A ∧ VolK (AndM X pm) wr vb' db kb 500 200010 2 1 2000 file08.m file08.hd ∧ ListR X wr pa L ∧ Ext w wr
theorem PlaysQ.open (hlw : Low.low = w.heap.size) (hE : EnvL w) (h : PlaysQ w wr tb vb N off F P L pa) :
 Calls Tryz.prog 11 #[] wr fun e w' => ∃ vb', e = .returned (.pointer (some ⟨vb', 0, none⟩)) ∧ PlaysO w w' tb vb vb' N P L pa ∧ ∃ X, KeepP X wr w' := by
 obtain ⟨X, db, kb, ⟨pm, A, hb, _, _⟩, h2, h4⟩ := h
 obtain ⟨es, cl, hm⟩ := hb.mapblk
 have hml := (Array.getElem?_eq_some_iff.1 hm).1
 refine (open08 (X := AndM X pm) wr (hE.ext h4) (by have := h4.size; omega) (fun g hg => by
  rcases hg with hg | hg
  · exact hb.out.2.2 g hg
  · omega)).mono ?_
 rintro e w' ⟨vb', db', kb', he, hv, hk⟩
 have hk2 : KeepP X wr w' := KeepP.of_keepY hk fun g hg => Or.inl hg
 exact ⟨vb', he, ⟨X, pm, A, db', kb', hb.keepY hk, hv, h2.keepP hk2, Ext.keepP h4 hk2 hlw⟩, X, hk2⟩
theorem PlaysO.reset {vb' : Nat} (hlw : Low.low = w.heap.size) (h : PlaysO w wr tb vb vb' N P L pa) (hN : 200010 ≤ N) :
 Calls Tryz.prog 25 #[.pointer (some ⟨tb, 0, none⟩), .iface 24 (.pointer (some ⟨vb', 0, none⟩))] wr fun e w' => e = .returned (.tuple #[]) ∧ PlaysQ w w' tb vb' N 2 file08 ⟨[], P.next⟩ [] none := by
 obtain ⟨X, pm, A, db, kb, hb, hv, h2, h4⟩ := h
 have hv2 : VolK X wr vb' db kb 500 N 2 1 2000 file08.m file08.hd := (hv.more (Ext.refl wr) fun g hg => Or.inl (Or.inl hg)).mono hN
 refine (proc_ResetB hb hv2 (fun _ => rfl) (by have := h4.size; omega)).mono ?_
 rintro e w' ⟨he, hs, hk⟩
 exact ⟨he, X, db, kb, hs, ⟨Or.inl rfl, fun x hx => (by cases hx), fun x hx => absurd hx List.not_mem_nil⟩, Ext.keepP h4 hk hlw⟩
def PlaysE (w wr : World) (tb vb N off : Nat) (F : FileS) (P : TabD) (L : List PlayD) (pa : Option Addr) (x : PlayD) : Prop :=
 ∃ X db kb, SysP X wr tb vb db kb 500 N off 1 2000 F P ∧ ListR X wr pa L ∧ Ext w wr ∧ RunM wr x.2.1 (intV x.1.maps) ∧ SetA X wr x.2.1 ∧ x.1.maps.length ≤ x.2.2
theorem PlaysE.toQ {x : PlayD} (h : PlaysE w wr tb vb N off F P L pa x) : PlaysQ w wr tb vb N off F P L pa := by
 obtain ⟨X, db, kb, h1, h2, h4, _⟩ := h; exact ⟨X, db, kb, h1, h2, h4⟩
theorem PlaysE.snoc {x : PlayD} {a' : Option Addr} {c' : Nat} {L' : List PlayD} (h : PlaysE w wr tb vb N off F P L pa x) (k : Ext wr w') {base : Nat} (hb : wr.heap.size ≤ base) (hL : L' = L ++ [x]) (hr : w'.ownsRow base 36 4 (.slice a' L'.length c') L'.length (L'.flatMap plV)) : PlaysQ w w' tb vb N off F P L' a' := by
 obtain ⟨X, db, kb, h1, h2, h4, h5, h6, h7⟩ := h
 obtain ⟨a2, c2, hv, _, hrun, _⟩ := run_of_row hr
 cases hv
 refine ⟨fun g => X g ∨ (wr.heap.size ≤ g ∧ g < w'.heap.size), db, kb, h1.more k fun g hg => hg, ⟨hrun, SetA.own hr (by decide) fun g h1 h2 => Or.inr ⟨Nat.le_trans hb h1, h2⟩, fun y hy => ?_⟩, h4.trans k⟩
 rw [hL] at hy
 rcases List.mem_append.1 hy with hy | hy
 · exact ⟨(h2.2.2 y hy).1.ext k, ((h2.2.2 y hy).2.1.ext k).mono fun g hg => Or.inl hg, (h2.2.2 y hy).2.2⟩
 · rw [List.mem_singleton.1 hy]
   exact ⟨h5.ext k, (h6.ext k).mono fun g hg => Or.inl hg, h7⟩
theorem PlaysQ.spawn {w5 : World} (hlw : Low.low = w.heap.size) (hE : EnvL w) (h : PlaysQ w w5 tb vb N off F P L pa) (k : Ext w5 wr) {base : Nat} (hb : w5.heap.size ≤ base) {ra : Option Addr} {rc : Nat} {M : List Int} (ho : OwnIs wr base ra rc M) (paths : List By) {qa : Option Addr} (qc : Nat) (hS : Strs w qa paths) (hl : paths.length ≤ 1099511627776) (hN : N + 20 ≤ 1000000000) (pd : ProcD) (hpd : pd.maps = M) :
 Calls Tryz.prog 15 #[.pointer (some ⟨tb, 0, none⟩), .string (bs [117]), .slice qa paths.length qc] wr fun e w' => e = .returned (.tuple #[.int .i64 (spawnF F P [117] paths).2.1, .int .i64 (spawnF F P [117] paths).2.2]) ∧ PlaysE w w' tb vb (N + 20) off (spawnF F P [117] paths).1.1 (spawnF F P [117] paths).1.2 L pa (pd, (ra, rc)) ∧ ∃ X, KeepP X wr w' := by
 obtain ⟨X, db, kb, h1, h2, h4⟩ := h
 have h5 := h4.trans k
 have hs2 := h1.more (Y := fun g => X g ∨ (w5.heap.size ≤ g ∧ g < wr.heap.size)) k fun g hg => hg
 have hl2 := (h2.ext k).mono (Y := fun g => X g ∨ (w5.heap.size ≤ g ∧ g < wr.heap.size)) fun g hg => Or.inl hg
 have hsa : SetA (fun g => X g ∨ (w5.heap.size ≤ g ∧ g < wr.heap.size)) wr ra := SetA.own ho (by decide) fun g h1 h2 => Or.inr ⟨Nat.le_trans hb h1, h2⟩
 obtain ⟨a3, c3, hv3, hcc, _, _⟩ := run_of_row ho
 cases hv3
 refine (proc_Spawn (hE.ext h5) hs2 (by have := h5.size; omega) [117] paths qa qc (fun W kk => hS.ext (Ext.keepP h5 (KeepP.of_keepY kk fun _ h => h) hlw)) hl hN).mono ?_
 rintro e w' ⟨he, hs, hk⟩
 refine ⟨he, ⟨_, db, kb, hs, hl2.keepP hk, Ext.keepP h5 hk hlw, ?_, hsa.keepP hk, ?_⟩, _, hk⟩
 · rw [hpd]; exact hsa.run ho.runI hk
 · rw [hpd]; exact hcc
def HoldZ (F : FileS) (ps : List By) (z0 : Int) (j : Nat) (z : Int) (M : List Int) : Prop :=
 (z0 ≠ 0 ∧ z = z0) ∨ (z0 = 0 ∧ z = (holdsF F [] (ps.take j)).2 ∧ (z = 0 → M = (holdsF F [] (ps.take j)).1.2))
omit [Low] in
theorem take_getD8 {ps : List By} {j : Nat} (hj : j < ps.length) : ps.take (j + 1) = ps.take j ++ [ps.getD j []] := by
 rw [take_succ_L ps hj, List.getD_eq_getElem?_getD, List.getElem?_eq_getElem hj]; rfl
omit [Low] in
theorem HoldZ.stop {ps : List By} {z0 z : Int} {j : Nat} {M M' : List Int} (h : HoldZ F ps z0 j z M) (hz : z ≠ 0) (hj : j < ps.length) : HoldZ F ps z0 (j + 1) z M' := by
 rcases h with h | ⟨h1, h2, _⟩
 · exact Or.inl h
 · refine Or.inr ⟨h1, ?_, fun h => absurd h hz⟩
   rw [take_getD8 hj, holdsF_stop _ _ _ _ (by rw [← h2]; exact hz)]
   exact h2
omit [Low] in
theorem HoldZ.go {ps : List By} {z0 z : Int} {j : Nat} {M : List Int} (h : HoldZ F ps z0 j z M) (hz : z = 0) (hj : j < ps.length) : HoldZ F ps z0 (j + 1) (holdF F.m (ps.getD j [])).2 (M ++ [(holdF F.m (ps.getD j [])).1]) := by
 rcases h with ⟨h1, h2⟩ | ⟨h1, h2, h3⟩
 · exact absurd (h2.symm.trans hz) h1
 · have h0 : (holdsF F [] (ps.take j)).2 = 0 := h2.symm.trans hz
   refine Or.inr ⟨h1, ?_, fun h => ?_⟩
   · rw [take_getD8 hj, holdsF_snoc _ _ _ _ h0, holdsF_m]
     split
     · rename_i h4; rw [h4]
     · rfl
   · rw [take_getD8 hj, holdsF_snoc _ _ _ _ h0, holdsF_m, if_pos h, h3 hz]
omit [Low] in
theorem HoldZ.done {ps : List By} {z0 z : Int} {M : List Int} (h : HoldZ F ps z0 ps.length z M) (h0 : z0 = if 8 < ps.length then 22 else if 32 ≤ P.list.length then 7 else 0) :
 (z ≠ 0 → (spawnF F P [117] ps).2 = (0, z) ∧ (spawnF F P [117] ps).1.2 = P) ∧ (z = 0 → (spawnF F P [117] ps).1.2 = addP P ⟨P.next, [117], M, false⟩ ∧ (spawnF F P [117] ps).2 = (P.next, 0)) := by
 unfold spawnF
 by_cases h8 : 8 < ps.length
 · rw [if_pos h8] at h0
   rw [if_pos h8]
   rcases h with ⟨_, h2⟩ | ⟨h1, _⟩
   · rw [h2, h0]
     exact ⟨fun _ => ⟨rfl, rfl⟩, fun h => absurd h (by decide)⟩
   · rw [h1] at h0; exact absurd h0 (by decide)
 rw [if_neg h8] at h0
 rw [if_neg h8]
 by_cases h32 : 32 ≤ P.list.length
 · rw [if_pos h32] at h0
   rw [if_pos h32]
   rcases h with ⟨_, h2⟩ | ⟨h1, _⟩
   · rw [h2, h0]
     exact ⟨fun _ => ⟨rfl, rfl⟩, fun h => absurd h (by decide)⟩
   · rw [h1] at h0; exact absurd h0 (by decide)
 rw [if_neg h32] at h0
 rw [if_neg h32]
 rcases h with ⟨h1, _⟩ | ⟨_, h2, h3⟩
 · exact absurd h0 h1
 · rw [List.take_length] at h2 h3
   refine ⟨fun hz => ?_, fun hz => ?_⟩
   · rw [if_neg (by rw [← h2]; exact hz)]
     exact ⟨by rw [h2], rfl⟩
   · rw [if_pos (h2.symm.trans hz), h3 hz]
     exact ⟨rfl, rfl⟩
end
end Go.Proofs.YtefpllpichhojaaGreatDoor
