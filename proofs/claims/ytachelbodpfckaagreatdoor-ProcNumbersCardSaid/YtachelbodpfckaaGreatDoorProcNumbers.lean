/- The walk of farrierlaw08.ProcNumbers. -/
import Derived.Test.YtachelbodpfckaaGreatDoorAlive08
import Derived.Test.YtachelbodpfckaaGreatDoorReadAct08
namespace Go.Proofs.YtachelbodpfckaaGreatDoor
open Go.RowKit
theorem and_3 (q : Int) : ∃ k : Nat, bits .and .i64 q 3 = (k : Int) ∧ k ≤ 3 := by
 have h : bits .and .i64 q 3 = IntKind.i64.wrap (((BitVec.ofInt 64 q &&& BitVec.ofInt 64 3).toNat : Nat) : Int) := rfl
 have h2 : (BitVec.ofInt 64 q &&& BitVec.ofInt 64 3).toNat ≤ 3 := by
  rw [BitVec.toNat_and]
  exact Nat.le_trans Nat.and_le_right (by decide)
 refine ⟨(BitVec.ofInt 64 q &&& BitVec.ofInt 64 3).toNat, ?_, h2⟩
 rw [h, IntWalk.i64_in _ (by omega)]
theorem cntP_bare {P : TabD} (h : ∀ p ∈ P.list, p.maps = []) (i : Int) : cntP P i = 0 := by
 unfold cntP
 generalize P.list = L at h
 induction L with
 | nil => rfl
 | cons x L ih =>
   rw [List.map_cons, List.sum_cons, h x List.mem_cons_self, ih fun p hp => h p (List.mem_cons_of_mem _ hp)]
   rfl
theorem exitF_next (F : FileS) (P : TabD) (i : Int) : (exitF F P i).1.2.next = P.next ∧ ∀ p ∈ (exitF F P i).1.2.list, p ∈ P.list := by
 unfold exitF
 cases getP P i with
 | none => exact ⟨rfl, fun p hp => hp⟩
 | some p => exact ⟨rfl, fun r hr => (mem_delP.1 hr).1⟩
variable [Low]
theorem KeepP.low {X : Nat → Prop} {a b : World} (h : KeepP X a b) (hl : Low.low = a.heap.size) : Ext a b := (Keep.mono h (T := fun j => j < a.heap.size) fun g _ hg => Or.inl (by have hg : g < a.heap.size := hg; omega)).ext_lt
theorem SysP.vol {X : Nat → Prop} {w : World} {tb vb db kb n N off top : Nat} {q : Int} {F : FileS} {P : TabD} (h : SysP X w tb vb db kb n N off top q F P) : VolK X w vb db kb n N off top q F.m F.hd := by
 obtain ⟨pm, A, _, hv, _⟩ := h
 exact hv.more (Ext.refl _) fun g hg => Or.inl (Or.inl hg)
theorem SysP.heldBy {X : Nat → Prop} {w : World} {tb vb db kb n N off top : Nat} {q : Int} {F : FileS} {P : TabD} (h : SysP X w tb vb db kb n N off top q F P) : HeldBy F P ∧ GoodP P ∧ P.next ≤ (N : Int) := by
 obtain ⟨pm, A, hb, _, hh⟩ := h
 exact ⟨hh, hb.good, hb.next⟩
section
set_option maxRecDepth 100000 in
set_option maxHeartbeats 12800000 in
theorem proc_numbersW (a : Option Addr) (c : Nat) (L : List ActD) (w : World) (hlw : Low.low = w.heap.size) (hE : EnvL w) (hA : ActsL w a L) :
 Calls Tryz.prog 4 #[.slice a L.length c] w fun e w' => e = .returned (.bool true) ∧ Ext w w' := by
 obtain ⟨R, hR⟩ : ∃ R : Ending → World → Prop, R = fun e w' => e = .returned (.bool true) ∧ Ext w w' := ⟨_, rfl⟩
 rw [← hR]
 have hfin : ∀ w', KeepP (fun _ => False) w w' → R (.returned (.bool true)) w' := fun w' hk => by rw [hR]; exact ⟨rfl, hk.low hlw⟩
 have HFIN := Lib.hid hfin; clear hfin hR
 have HLW := Lib.hid hlw
 have HAL := Lib.hid (alive08 (X := fun _ => False) w hE (by omega) (fun _ h => h.elim))
 have HE := Lib.hid hE; have HA := Lib.hid hA
 obtain ⟨m, hm⟩ : ∃ m, m = L.length := ⟨_, rfl⟩
 rw [← hm]
 have HM := Lib.hid hm
 clear hlw hE hA hm
 by_cases h100 : 100 < m
 · have hd : decide ((100 : Int) < (m : Int)) = true := by simp; omega
   go_enter Tryz.func4, Tryz.ntmps4
   go_wp2_with (go_at_call 6; refine HAL.out.mono ?_; rintro e w1 ⟨rfl, hk⟩; have HK1 := Lib.hid hk; clear hk)
   exact HFIN.out _ HK1.out
 have hd : decide ((100 : Int) < (m : Int)) = false := by simp; omega
 go_enter Tryz.func4, Tryz.ntmps4
 go_upto_region 6 with (first
  | (go_at_call 6; refine HAL.out.mono ?_; rintro e w1 ⟨rfl, hk⟩; have HK1 := Lib.hid hk; clear hk)
  | (go_at_call 7; refine (open08 (X := fun _ => False) w1 (HE.out.keepP HK1.out) (by have := HLW.out; have := HK1.out.size; omega) (fun _ h => h.elim)).mono ?_; rintro e w2 ⟨vb, db, kb, rfl, hv, hy⟩; have HV := Lib.hid hv; have HK2 := Lib.hid (HK1.out.trans (KeepP.of_Y hy)); clear hv hy))
 go_wp2_with (go_at_call 8; refine (proc_New HV.out (fun _ => rfl) (fun _ h => h.elim) (by have := HLW.out; have := HK2.out.size; omega) (by decide)).mono ?_; rintro e w3 ⟨tb, rfl, hs, hx⟩; have HS := Lib.hid hs; have HK3 := Lib.hid (HK2.out.trans (KeepP.of_ext hx)); clear hs hx)
 clear HV HK1 HK2 HAL
 go_loopw [22, 5] (fun i l wr => ∃ (k N : Nat) (F : FileS) (P : TabD), i = .int .i64 k ∧ l = .int .i64 (P.next - 1) ∧ k ≤ m ∧ N ≤ 300000 + 20 * k ∧ Hid (SysP (fun _ => False) wr tb vb db kb 500 N 2 1 2000 F P) ∧ Hid (∀ p ∈ P.list, p.maps = []) ∧ Hid (KeepP (fun _ => False) w wr)) (fun i _ _ => m - (RowKit.intOf i).toNat)
 case atStart => exact ⟨0, 200010, file08, noneP, rfl, rfl, Nat.zero_le _, by omega, HS, Lib.hid (fun p h => absurd h List.not_mem_nil), HK3⟩
 case round =>
  clear HS HK3
  obtain ⟨k, N, F, P, rfl, rfl, hk, hN, HS, HB, HK⟩ := hrel
  obtain ⟨hhb, hgp, hnx⟩ := HS.out.heldBy
  have hnx1 := hgp.next
  have HHB := Lib.hid hhb; have HGP := Lib.hid hgp; clear hhb hgp
  by_cases hlt : k < m
  · have hkL : k < L.length := by have := HM.out; omega
    have hx := HK.out.low HLW.out
    obtain ⟨g, o, rfl, hgs, hcs, hst, ⟨hik, hpid, hif⟩, hpl⟩ := (HA.out.ext hx).at hkL
    obtain ⟨c0, c1, c2, c3⟩ := hcs
    clear hst hik hif hpl hgs
    generalize L[k] = act at c0 c1 c2 c3 hpid
    obtain ⟨kd, hand, hkd⟩ := and_3 act.kind
    obtain ⟨hp1, hp2⟩ := hpid
    clear hx hkL
    by_cases h0 : kd = 0
    · have hand0 : bits .and .i64 act.kind 3 = 0 := by rw [hand, h0]; rfl
      clear hand hkd h0
      go_wp2_with (go_at_call 12; refine (proc_Exit (HS.out.ext (Ext.alloc _ _)) act.pid hp1 hp2 (by omega)).mono ?_; rintro e w5 ⟨rfl, hs, hk5⟩; have HS5 := Lib.hid hs; have HK5 := Lib.hid ((HK.out.trans (KeepP.of_ext (Ext.alloc _ _))).trans hk5); clear hs hk5)
      obtain ⟨hnx5, hls5⟩ := exitF_next F P act.pid
      have HLS := Lib.hid hls5; have HNX := Lib.hid hnx5; clear hls5 hnx5
      go_roundw
      case rel => exact ⟨k + 1, N + 8, _, _, by go_num, by rw [HNX.out], by omega, by omega, HS5, Lib.hid (fun p hp => HB.out p (HLS.out p hp)), HK5⟩
      case measure => simp [RowKit.intOf]; omega
    by_cases h1 : kd = 1
    · have hand1 : bits .and .i64 act.kind 3 = 1 := by rw [hand, h1]; rfl
      clear hand hkd h0 h1
      have hF0 : ∀ i, F.hd i = 0 := fun i => by rw [HHB.out i]; exact cntP_bare HB.out i
      have HF0 := Lib.hid hF0; clear hF0
      go_wp2_with (go_at_call 16; refine (proc_Reset (HS.out.ext (Ext.alloc _ _)) (HS.out.vol.ext (Ext.alloc _ _)) HF0.out (by have := HLW.out; have := HK.out.size; simp; omega)).mono ?_; rintro e w5 ⟨rfl, hs, hk5⟩; have HS5 := Lib.hid hs; have HK5 := Lib.hid ((HK.out.trans (KeepP.of_ext (Ext.alloc _ _))).trans hk5); clear hs hk5)
      go_roundw
      case rel => exact ⟨k + 1, N, F, ⟨[], P.next⟩, by go_num, rfl, by omega, by omega, HS5, Lib.hid (fun p hp => absurd hp List.not_mem_nil), HK5⟩
      case measure => simp [RowKit.intOf]; omega
    have hb0 : ((kd : Int) == 0) = false := by simpa using h0
    have hb1 : ((kd : Int) == 1) = false := by simp; omega
    rw [← hand] at hb0 hb1
    clear hand hkd h0 h1
    have hpl : (pidsP P).length = P.list.length := by unfold pidsP; rw [List.length_map]
    have hls := fun W (hx : Ext wr W) => proc_List (HS.out.ext hx) (by omega)
    rw [hpl] at hls
    have HLS := Lib.hid hls; clear hls hpl
    obtain ⟨n0, hn0⟩ : ∃ n0, n0 = P.list.length := ⟨_, rfl⟩
    rw [← hn0] at HLS
    by_cases h32 : 32 ≤ n0
    · have hsp : spawnF F P [117] [] = ((F, P), (0, 7)) := by
       unfold spawnF
       rw [if_neg (by decide), if_pos (by omega)]
      have hlt32 : decide ((n0 : Int) < 32) = false := by simp; omega
      have hspn := fun W (hx : Ext wr W) => proc_Spawn (X := fun _ => False) (HE.out.keepP (HK.out.trans (KeepP.of_ext hx))) (HS.out.ext hx) (by have := HLW.out; have := HK.out.size; have := hx.size; omega) [117] [] none 0 (fun _ _ => Strs.nil _ _) (by decide) (by omega)
      rw [hsp] at hspn
      have HSP := Lib.hid hspn; clear hspn hsp hn0
      go_wp2_with (first
       | (go_at_call 15; refine (HLS.out _ (Ext.alloc _ _)).mono ?_; rintro e w5 ⟨a5, c5, rfl, _, hx5⟩; have HX5 := Lib.hid ((Ext.alloc _ _).trans hx5); clear hx5)
       | (go_at_call 9; refine (HSP.out _ HX5.out).mono ?_; rintro e w6 ⟨rfl, hs, hk6⟩; have HS6 := Lib.hid hs; have HK6 := Lib.hid ((HK.out.trans (KeepP.of_ext HX5.out)).trans hk6); clear hs hk6))
      go_roundw
      case rel => exact ⟨k + 1, N + 20, _, _, by go_num, rfl, by omega, by omega, HS6, HB, HK6⟩
      case measure => simp [RowKit.intOf]; omega
    · have hsp : spawnF F P [117] [] = ((F, addP P ⟨P.next, [117], [], false⟩), (P.next, 0)) := by
       unfold spawnF
       rw [if_neg (by decide), if_neg (by omega)]
       rfl
      have hlt32 : decide ((n0 : Int) < 32) = true := by simp; omega
      have hspn := fun W (hx : Ext wr W) => proc_Spawn (X := fun _ => False) (HE.out.keepP (HK.out.trans (KeepP.of_ext hx))) (HS.out.ext hx) (by have := HLW.out; have := HK.out.size; have := hx.size; omega) [117] [] none 0 (fun _ _ => Strs.nil _ _) (by decide) (by omega)
      rw [hsp] at hspn
      have HSP := Lib.hid hspn; clear hspn hsp hn0
      have hnn : P.next - 1 + 1 = P.next := by omega
      have hbn : (P.next != P.next) = false := by simp
      go_wp2_with (first
       | (go_at_call 15; refine (HLS.out _ (Ext.alloc _ _)).mono ?_; rintro e w5 ⟨a5, c5, rfl, _, hx5⟩; have HX5 := Lib.hid ((Ext.alloc _ _).trans hx5); clear hx5)
       | (go_at_call 9; refine (HSP.out _ HX5.out).mono ?_; rintro e w6 ⟨rfl, hs, hk6⟩; have HS6 := Lib.hid hs; have HK6 := Lib.hid ((HK.out.trans (KeepP.of_ext HX5.out)).trans hk6); clear hs hk6))
      go_roundw
      case rel => exact ⟨k + 1, N + 20, _, _, by go_num, by show Value.int .i64 P.next = .int .i64 (P.next + 1 - 1); rw [Int.add_sub_cancel], by omega, by omega, HS6, Lib.hid (fun p hp => by
       rcases List.mem_append.1 hp with hp | hp
       · exact HB.out p hp
       · rw [List.mem_singleton.1 hp]), HK6⟩
      case measure => simp [RowKit.intOf]; omega
  · go_wp2_with fail
    exact HFIN.out _ HK.out
end
omit [Low] in
theorem proc_numbers (a : Option Addr) (c : Nat) (L : List ActD) (w : World) (hE : Env w) (hA : ActsL w a L) :
 Calls Tryz.prog 4 #[.slice a L.length c] w fun e w' => e = .returned (.bool true) ∧ Ext w w' :=
 @proc_numbersW ⟨w.heap.size⟩ a c L w rfl (@EnvL.mk ⟨w.heap.size⟩ w hE (by obtain ⟨m, cs, hh, _⟩ := hE.word; exact (Array.getElem?_eq_some_iff.1 hh).1)) hA
end Go.Proofs.YtachelbodpfckaaGreatDoor
