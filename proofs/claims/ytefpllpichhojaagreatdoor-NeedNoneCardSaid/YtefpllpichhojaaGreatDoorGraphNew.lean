/- graph.New: the graph of units, or what is wrong with them. -/
import Derived.Test.YtefpllpichhojaaGreatDoorGraphSort
import Derived.Test.YtefpllpichhojaaGreatDoorM14
namespace Go.Proofs.YtefpllpichhojaaGreatDoor
open Go.RowKit
abbrev UnA := UnitD × (Nat → Option Addr) × (Nat → Nat)
def unC (x : UnA) : List Value := (unitC x.1 x.2.1 x.2.2).toList
def UnitsL (w : World) (a : Option Addr) (L : List UnA) : Prop := RunM w a (L.flatMap unC) ∧ ∀ x ∈ L, UnitR w x.1 x.2.1
theorem UnitsL.at {w : World} {a : Option Addr} {L : List UnA} (h : UnitsL w a L) {k : Nat} (hk : k < L.length) : ∃ g off, a = some ⟨g, off, none⟩ ∧ g < w.heap.size ∧ ∀ j v, j < 8 → (unitC L[k].1 L[k].2.1 L[k].2.2)[j]? = some v → w.cell? ⟨g, off + k * 8 + j, none⟩ = some v := by
 rcases of_runM (F := unC) (m := 8) (fun _ => rfl) (by omega) h.1 with h | ⟨g, off, ha, hg, hc⟩
 · rw [h] at hk; simp at hk
 · exact ⟨g, off, ha, hg, fun j v hj hv => hc k hk j v hj (by unfold unC; rw [Array.getElem?_toList]; exact hv)⟩
structure SmallU (u : UnitD) : Prop where
 name : u.name.length ≤ 100000
 rows : ∀ f, 1 ≤ f → f ≤ 6 → (u.row f).length ≤ 1000 ∧ ∀ s ∈ u.row f, s.length ≤ 100000
theorem unitF_snoc {U : List UnitD} {u : UnitD} {A : GraphA} {A2 : Nat → Option Addr} {C2 : Nat → Nat} (h : hasU U u.name = false) :
 (fun z => if z = u.name then some (unitV u A2 C2) else unitF U A z) = unitF (U ++ [u]) ⟨fun z => if z = u.name then A2 else A.ua z, fun z => if z = u.name then C2 else A.uc z, A.ra, A.rc⟩ := by
 funext z
 unfold unitF
 rw [getU_snoc]
 by_cases e : z = u.name
 · subst e
   have : getU U u.name = none := by unfold hasU at h; cases hg : getU U u.name with | none => rfl | some x => rw [hg] at h; cases h
   rw [this]
   simp
 · rw [if_neg e]
   cases getU U z with
   | none => simp [e]
   | some x => simp [e]
theorem find_first {p : Bs → Bool} {L : List Bs} {k : Nat} (hk : k < L.length) (h : ∀ x ∈ L.take k, p x = false) (hp : p (L.getD k []) = true) : L.find? p = some (L.getD k []) := by
 have e : L.getD k [] = L[k] := by simp [List.getD_eq_getElem?_getD, List.getElem?_eq_getElem hk]
 rw [e] at hp ⊢
 have : L = L.take k ++ L[k] :: L.drop (k + 1) := by rw [List.getElem_cons_drop, List.take_append_drop]
 conv => lhs; rw [this]
 rw [List.find?_append, List.find?_eq_none.2 (fun x hx => by rw [h x hx]; simp), Option.none_or, List.find?_cons, hp]
theorem take_snocB {L : List Bs} {k : Nat} (hk : k < L.length) : L.take (k + 1) = L.take k ++ [L.getD k []] := by
 rw [List.take_succ_eq_append_getElem hk]
 simp [List.getD_eq_getElem?_getD, List.getElem?_eq_getElem hk]
theorem mem_getDB {L : List Bs} {k : Nat} (hk : k < L.length) : L.getD k [] ∈ L := by
 have e : L.getD k [] = L[k] := by simp [List.getD_eq_getElem?_getD, List.getElem?_eq_getElem hk]
 rw [e]; exact List.getElem_mem hk
theorem field_reqs (v0 v1 v2 v3 v4 v5 v6 v7 : Value) (W : World) : (Instr.field 84 (.agg #[v0, v1, v2, v3, v4, v5, v6, v7]) 4).run Tryz.prog W = .ok v4 W := by kernel_rfl
theorem field_part (v0 v1 v2 v3 v4 v5 v6 v7 : Value) (W : World) : (Instr.field 84 (.agg #[v0, v1, v2, v3, v4, v5, v6, v7]) 6).run Tryz.prog W = .ok v6 W := by kernel_rfl
theorem putU_len (U : List UnitD) (b : Bs → List Bs) (n : Bs) (os : List Bs) (z : Bs) : (putU U b n os z).length ≤ (b z).length + os.length := by
 unfold putU
 split
 · rename_i h
   rw [h.1, List.length_append]
   have := List.length_filter_le (hasU U) os
   omega
 · omega
def GraphR (L : List UnitD) (w : World) (e : Ending) (w' : World) : Prop :=
 (match newU L with
 | .inr (z, n) => e = .returned (.tuple #[.pointer none, .int .i64 z, .string (bs n)])
 | .inl g => ∃ gb, e = .returned (.tuple #[.pointer (some ⟨gb, 0, none⟩), .int .i64 0, .string ⟨#[]⟩]) ∧ GraphM (fun k => w.heap.size ≤ k ∧ k < w'.heap.size) w' gb 100000 g) ∧ Ext w w'
theorem GraphR.bad {L : List UnitD} {w w' : World} {z : Int} {n : Bs} (h : newU L = .inr (z, n)) (k : Ext w w') : GraphR L w (.returned (.tuple #[.pointer none, .int .i64 z, .string (bs n)])) w' := by
 unfold GraphR; rw [h]; exact ⟨rfl, k⟩
theorem ne_map {w : World} {b : Nat} (hb : ∃ es cl, w.heap[b]? = some (.map es cl)) {g : Nat} {cs : Array Value} {t : TypeId} {fr : Nat × Nat} (hg : w.heap[g]? = some (.cells cs t fr)) : g ≠ b := fun e => by
 obtain ⟨es, cl, hm⟩ := hb
 rw [e, hm] at hg; cases hg
set_option maxRecDepth 100000 in
set_option maxHeartbeats 12800000 in
theorem graph_New {w : World} {a : Option Addr} {c : Nat} {L : List UnA} (hL : UnitsL w a L) (hs : ∀ x ∈ L, SmallU x.1) :
 Calls Tryz.prog 37 #[.slice a L.length c] w (GraphR (L.map Prod.fst) w) := by
 obtain ⟨U, hU⟩ : ∃ U, U = L.map Prod.fst := ⟨_, rfl⟩
 rw [← hU]
 obtain ⟨R, hR⟩ : ∃ R, R = GraphR U w := ⟨_, rfl⟩
 rw [← hR]
 have HR := Lib.hid hR; clear hR
 have hUL : U.length = L.length := by rw [hU, List.length_map]
 have HU := Lib.hid hU; have HL := Lib.hid hL; have HS := Lib.hid hs
 clear hU hL hs
 have hmk := @run_makeMap Tryz.prog
 by_cases h16 : 16 < L.length
 · have HE := Lib.hid (show newU U = .inr (22, []) by unfold newU; rw [if_pos (by omega)])
   go_enter Tryz.func37, Tryz.ntmps37
   go_wp2_with fail
   rw [HR.out]
   exact GraphR.bad HE.out (((Ext.alloc _ _).trans (Ext.alloc _ _)).trans (Ext.alloc _ _))
 have hx1 : Ext w (((w.alloc (.map #[] 0)).alloc (.map #[] 0)).alloc (.cells #[.map (some w.heap.size), .map (some (w.heap.size + 1)), .slice none 0 0] 164)) := ((Ext.alloc _ _).trans (Ext.alloc _ _)).trans (Ext.alloc _ _)
 have hm1 := (((MapF.made keyS w 9).ext (Ext.alloc _ (.map #[] 0))).ext (Ext.alloc _ (.cells #[.map (some w.heap.size), .map (some (w.heap.size + 1)), .slice none 0 0] 164)))
 have hm2 := (MapF.made keyS (w.alloc (.map #[] 0)) 9).ext (Ext.alloc _ (.cells #[.map (some w.heap.size), .map (some (w.heap.size + 1)), .slice none 0 0] 164))
 have hg1 := heap_alloc_new ((w.alloc (.map #[] 0)).alloc (.map #[] 0)) (.cells #[.map (some w.heap.size), .map (some (w.heap.size + 1)), .slice none 0 0] 164)
 have hsz1 : (((w.alloc (.map #[] 0)).alloc (.map #[] 0)).alloc (.cells #[.map (some w.heap.size), .map (some (w.heap.size + 1)), .slice none 0 0] 164)).heap.size = w.heap.size + 3 := by simp
 simp only [World.size_alloc] at hm2 hg1
 go_enter Tryz.func37, Tryz.ntmps37
 go_wp2_with fail
 generalize ((w.alloc (.map #[] 0)).alloc (.map #[] 0)).alloc (.cells #[.map (some w.heap.size), .map (some (w.heap.size + 1)), .slice none 0 0] 164) = w1 at hx1 hm1 hm2 hg1 hsz1 ⊢
 obtain ⟨ub, hub⟩ : ∃ b, b = w.heap.size := ⟨_, rfl⟩
 obtain ⟨hb, hhb⟩ : ∃ b, b = w.heap.size + 1 := ⟨_, rfl⟩
 obtain ⟨gb, hgb⟩ : ∃ b, b = w.heap.size + 1 + 1 := ⟨_, rfl⟩
 rw [← hgb, ← hhb, ← hub] at hg1
 rw [← hub] at hm1
 rw [← hhb] at hm2
 rw [← hgb, ← hub]
 have HX1 := Lib.hid hx1; have HM1 := Lib.hid hm1; have HM2 := Lib.hid hm2; have HG1 := Lib.hid hg1; have HSZ1 := Lib.hid hsz1; have HUB := Lib.hid hub; have HHB := Lib.hid hhb; have HGB := Lib.hid hgb
 clear hx1 hm1 hm2 hg1 hsz1 hub hhb hgb hmk
 go_loopw [31] (fun i wr => ∃ (k : Nat) (A : GraphA), i = .int .i64 k ∧ k ≤ L.length ∧ Hid (MapF keyS wr 9 ub k (unitF (U.take k) A)) ∧ Hid (∀ n u, getU (U.take k) n = some u → ∀ f, 1 ≤ f → f ≤ 6 → OwnS wr w.heap.size (A.ua n f) (A.uc n f) (u.row f) ∧ (u.row f).length ≤ A.uc n f) ∧ Hid (dupU [] U = dupU (U.take k) (U.drop k)) ∧ Hid (((U.take k).map UnitD.name).Nodup) ∧ Hid (Keep (· ≠ ub) w1 wr)) (fun i _ => L.length - (intOf i).toNat)
 case atStart => exact ⟨0, ⟨fun _ _ => none, fun _ _ => 0, fun _ => none, fun _ => 0⟩, rfl, Nat.zero_le _, Lib.hid (HM1.out.same (by funext z; rfl)), Lib.hid (fun n u h => by simp [getU] at h), Lib.hid rfl, Lib.hid List.nodup_nil, Lib.hid (Keep.refl _ _)⟩
 case round =>
  obtain ⟨k, A, rfl, hk, hM, hrow, hdup, hnd, hkp⟩ := hrel
  by_cases hlt : k < L.length
  · obtain ⟨g, off, rfl, hgl, hcell⟩ := HL.out.at hlt
    have hug : g ≠ ub := by have := HUB.out; omega
    have hsm := HS.out L[k] (List.getElem_mem hlt)
    have hur := HL.out.2 L[k] (List.getElem_mem hlt)
    have huk : U.take (k + 1) = U.take k ++ [L[k].1] := by
     rw [List.take_succ_eq_append_getElem (by omega)]
     congr 1
     simp [HU.out]
    have hdk : U.drop k = L[k].1 :: U.drop (k + 1) := by
     rw [← List.getElem_cons_drop (by omega : k < U.length)]
     congr 1
     simp [HU.out]
    generalize L[k] = x at hcell hsm hur huk hdk
    obtain ⟨u, Au, Cu⟩ := x
    dsimp only at hcell hsm hur huk hdk
    have hc2 : ∀ j v, j < 8 → (unitC u Au Cu)[j]? = some v → wr.cell? ⟨g, off + k * 8 + j, none⟩ = some v := fun j v hj hv => hkp.out.cell hug (HX1.out.cell (hcell j v hj hv))
    have q0 := hc2 0 (.string (bs u.name)) (by omega) rfl
    have q1 := hc2 1 (.slice (Au 1) u.files.length (Cu 1)) (by omega) rfl
    have q2 := hc2 2 (.slice (Au 2) u.after.length (Cu 2)) (by omega) rfl
    have q3 := hc2 3 (.slice (Au 3) u.before.length (Cu 3)) (by omega) rfl
    have q4 := hc2 4 (.slice (Au 4) u.reqs.length (Cu 4)) (by omega) rfl
    have q5 := hc2 5 (.slice (Au 5) u.wants.length (Cu 5)) (by omega) rfl
    have q6 := hc2 6 (.slice (Au 6) u.partof.length (Cu 6)) (by omega) rfl
    have q7 := hc2 7 (.int .i64 u.retry) (by omega) rfl
    rw [Nat.add_zero] at q0
    obtain ⟨ok, hok⟩ : ∃ ok, ok = hasU (U.take k) u.name := ⟨_, rfl⟩
    obtain ⟨V, AV, CV, hV⟩ := unitF_val (U.take k) A u.name
    have hg1 := hkp.out.heap (g := gb) (by have := HUB.out; have := HGB.out; omega) HG1.out
    have hx7 : Ext wr (wr.alloc (.cells #[.string (bs u.name), .slice (Au 1) u.files.length (Cu 1), .slice (Au 2) u.after.length (Cu 2), .slice (Au 3) u.before.length (Cu 3), .slice (Au 4) u.reqs.length (Cu 4), .slice (Au 5) u.wants.length (Cu 5), .slice (Au 6) u.partof.length (Cu 6), .int .i64 u.retry] 84)) := Ext.alloc _ _
    have hb7 := heap_alloc_new wr (.cells #[.string (bs u.name), .slice (Au 1) u.files.length (Cu 1), .slice (Au 2) u.after.length (Cu 2), .slice (Au 3) u.before.length (Cu 3), .slice (Au 4) u.reqs.length (Cu 4), .slice (Au 5) u.wants.length (Cu 5), .slice (Au 6) u.partof.length (Cu 6), .int .i64 u.retry] 84)
    have HNL := Lib.hid hsm.name; have HSM := Lib.hid hsm; have HUR := Lib.hid hur; have HUK := Lib.hid huk; have HDK := Lib.hid hdk; have HOK := Lib.hid hok; have HV := Lib.hid hV; have HG1R := Lib.hid hg1
    clear hcell hsm hur huk hdk hc2 hok hV hg1 hug
    go_upto_region 7 with (fail)
    generalize wr.alloc (.cells #[.string (bs u.name), .slice (Au 1) u.files.length (Cu 1), .slice (Au 2) u.after.length (Cu 2), .slice (Au 3) u.before.length (Cu 3), .slice (Au 4) u.reqs.length (Cu 4), .slice (Au 5) u.wants.length (Cu 5), .slice (Au 6) u.partof.length (Cu 6), .int .i64 u.retry] 84) = w7 at hx7 hb7 ⊢
    obtain ⟨B7, hB7⟩ : ∃ b, b = wr.heap.size := ⟨_, rfl⟩
    rw [← hB7] at hb7 ⊢
    have HX7 := Lib.hid hx7; have HB7 := Lib.hid hb7; have HB7E := Lib.hid hB7
    clear hx7 hb7 hB7 q0 q1 q2 q3 q4 q5 q6 q7
    have hcs : ∀ W, Ext w7 W → W.cell? ⟨gb, 0, none⟩ = some (.map (some ub)) ∧ W.cell? ⟨B7, 0, none⟩ = some (.string (bs u.name)) ∧ (Instr.lookup 161 (.map (some ub)) (.string (bs u.name)) true).run Tryz.prog W = .ok (.tuple #[.agg #[.string (bs V.name), .slice (AV 1) V.files.length (CV 1), .slice (AV 2) V.after.length (CV 2), .slice (AV 3) V.before.length (CV 3), .slice (AV 4) V.reqs.length (CV 4), .slice (AV 5) V.wants.length (CV 5), .slice (AV 6) V.partof.length (CV 6), .int .i64 V.retry], .bool ok]) W := fun W kk => by
     refine ⟨blk_cell (kk.heap (HX7.out.heap HG1R.out)) 0 _ rfl, blk_cell (kk.heap HB7.out) 0 _ rfl, ?_⟩
     have h := (hM.out.ext (HX7.out.trans kk)).look_ok str_keyed Tryz.underlying161 (Tryz.zeroValue84 W) (key_by HNL.out)
     have hz : (.agg #[.string ⟨#[]⟩, .slice none 0 0, .slice none 0 0, .slice none 0 0, .slice none 0 0, .slice none 0 0, .slice none 0 0, .int .i64 0] : Value) = .agg (unitC uzD (fun _ => none) (fun _ => 0)) := rfl
     rw [hz, HV.out, unitF_some, ← HOK.out] at h
     exact h
    have HCS := Lib.hid hcs; clear hcs
    have HK := Lib.hid ((Ext.refl w7).drew)
    refine wp_region_noPanic ?_
    refine wp_region_held_drew (S := (fun W => W.cell? ⟨gb, 0, none⟩ = some (.map (some ub)) ∧ W.cell? ⟨B7, 0, none⟩ = some (.string (bs u.name)) ∧ (Instr.lookup 161 (.map (some ub)) (.string (bs u.name)) true).run Tryz.prog W = .ok (.tuple #[.agg #[.string (bs V.name), .slice (AV 1) V.files.length (CV 1), .slice (AV 2) V.after.length (CV 2), .slice (AV 3) V.before.length (CV 3), .slice (AV 4) V.reqs.length (CV 4), .slice (AV 5) V.wants.length (CV 5), .slice (AV 6) V.partof.length (CV 6), .int .i64 V.retry], .bool ok]) W)) (by kernel_rfl) (HCS.out _ HK.out) (fun hHeld => ?_)
    clear hHeld
    generalize w7.drew = wc at HK ⊢
    refine wpAnyH_take (i := 0) (v := ?_) rfl (by kernel_rfl) (by kernel_rfl) (by kernel_rfl) (fun _ _ _ h => h) (Or.inl ⟨by kernel_rfl, ?_⟩) (HCS.out _ HK.out) ?_
    rotate_left
    · (intro wq _; first | (go_simp; done) | (go_simp; with_reducible rfl))
    try simp only [List.getElem_toArray, List.getElem_cons_zero, Act.put, List.setIfInBounds_toArray, List.set_cons_zero, List.set_cons_succ]
    refine wpAnyH_take (i := 1) (v := ?_) rfl (by kernel_rfl) (by kernel_rfl) (by kernel_rfl) (fun _ _ _ h => h) (Or.inl ⟨by kernel_rfl, ?_⟩) (HCS.out _ HK.out) ?_
    rotate_left
    · (intro wq _; first | (go_simp; done) | (go_simp; with_reducible rfl))
    try simp only [List.getElem_toArray, List.getElem_cons_zero, List.getElem_cons_succ, Act.put, List.setIfInBounds_toArray, List.set_cons_zero, List.set_cons_succ]
    refine wpAnyH_take (i := 2) (v := ?_) rfl (by kernel_rfl) (by kernel_rfl) (by kernel_rfl) (fun _ _ _ h => h) (Or.inl ⟨by kernel_rfl, ?_⟩) (HCS.out _ HK.out) ?_
    rotate_left
    · (intro wq _; first | (go_simp; done) | (go_simp; with_reducible rfl))
    try simp only [List.getElem_toArray, List.getElem_cons_zero, List.getElem_cons_succ, Act.put, List.setIfInBounds_toArray, List.set_cons_zero, List.set_cons_succ]
    refine wpAnyH_take (i := 3) (v := ?_) rfl (by kernel_rfl) (by kernel_rfl) (by kernel_rfl) (fun _ _ _ h => h) (Or.inl ⟨by kernel_rfl, ?_⟩) (HCS.out _ HK.out) ?_
    rotate_left
    · (intro wq hSw; (try dsimp only at hSw); first | (go_simp; done) | (go_simp; with_reducible rfl))
    try simp only [List.getElem_toArray, List.getElem_cons_zero, List.getElem_cons_succ, Act.put, List.setIfInBounds_toArray, List.set_cons_zero, List.set_cons_succ]
    refine wpAnyH_take (i := 4) (v := ?_) rfl (by kernel_rfl) (by kernel_rfl) (by kernel_rfl) (fun _ _ _ h => h) (Or.inl ⟨by kernel_rfl, ?_⟩) (HCS.out _ HK.out) ?_
    rotate_left
    · (intro wq _; first | (go_simp; done) | (go_simp; with_reducible rfl))
    try simp only [List.getElem_toArray, List.getElem_cons_zero, List.getElem_cons_succ, Act.put, List.setIfInBounds_toArray, List.set_cons_zero, List.set_cons_succ]
    refine wpAnyH_take (i := 5) (v := ?_) rfl (by kernel_rfl) (by kernel_rfl) (by kernel_rfl) (fun _ _ _ h => h) (Or.inl ⟨by kernel_rfl, ?_⟩) (HCS.out _ HK.out) ?_
    rotate_left
    · (intro wq hSw; (try dsimp only at hSw); first | (go_simp; done) | (go_simp; with_reducible rfl))
    try simp only [List.getElem_toArray, List.getElem_cons_zero, List.getElem_cons_succ, Act.put, List.setIfInBounds_toArray, List.set_cons_zero, List.set_cons_succ]
    refine wpAnyH_take (i := 6) (v := ?_) rfl (by kernel_rfl) (by kernel_rfl) (by kernel_rfl) (fun _ _ _ h => h) (Or.inl ⟨by kernel_rfl, ?_⟩) (HCS.out _ HK.out) ?_
    rotate_left
    · (intro wq hSw; (try dsimp only at hSw); first | (go_simp; done) | (go_simp; with_reducible rfl))
    try simp only [List.getElem_toArray, List.getElem_cons_zero, List.getElem_cons_succ, Act.put, List.setIfInBounds_toArray, List.set_cons_zero, List.set_cons_succ]
    refine wpAnyH_take (i := 7) (v := ?_) rfl (by kernel_rfl) (by kernel_rfl) (by kernel_rfl) (fun _ _ _ h => h) (Or.inl ⟨by kernel_rfl, ?_⟩) (HCS.out _ HK.out) ?_
    rotate_left
    · (intro wq _; first | (go_simp; done) | (go_simp; with_reducible rfl))
    try simp only [List.getElem_toArray, List.getElem_cons_zero, List.getElem_cons_succ, Act.put, List.setIfInBounds_toArray, List.set_cons_zero, List.set_cons_succ]
    refine wpAnyH_take (i := 8) (v := ?_) rfl (by kernel_rfl) (by kernel_rfl) (by kernel_rfl) (fun _ _ _ h => h) (Or.inl ⟨by kernel_rfl, ?_⟩) (HCS.out _ HK.out) ?_
    rotate_left
    · (intro wq _; first | (go_simp; done) | (go_simp; with_reducible rfl))
    try simp only [List.getElem_toArray, List.getElem_cons_zero, List.getElem_cons_succ, Act.put, List.setIfInBounds_toArray, List.set_cons_zero, List.set_cons_succ]
    refine wpAnyH_take (i := 9) (v := ?_) rfl (by kernel_rfl) (by kernel_rfl) (by kernel_rfl) (fun _ _ _ h => h) (Or.inl ⟨by kernel_rfl, ?_⟩) (HCS.out _ HK.out) ?_
    rotate_left
    · (intro wq _; first | (go_simp; done) | (go_simp; with_reducible rfl))
    try simp only [List.getElem_toArray, List.getElem_cons_zero, List.getElem_cons_succ, Act.put, List.setIfInBounds_toArray, List.set_cons_zero, List.set_cons_succ]
    all_goals (
     first
      | refine wpAnyH_ready (rs := [10]) (by decide +kernel) (by simp) ?_
     repeat' (first | exact AllReadyH.nil | (refine AllReadyH.cons rfl (fun K hK => ?_) ?_)))
    all_goals (
     first
      | (go_simp
         first
          | (have hx := Ext.alloc wc (.cells #[.string ⟨#[]⟩, .slice none 0 0, .slice none 0 0, .slice none 0 0, .slice none 0 0, .slice none 0 0, .slice none 0 0, .int .i64 0] 84)
             have hbn := heap_alloc_new wc (.cells #[.string ⟨#[]⟩, .slice none 0 0, .slice none 0 0, .slice none 0 0, .slice none 0 0, .slice none 0 0, .slice none 0 0, .int .i64 0] 84)
             have hle := HK.out.size
             refine hK.out _ (wc.alloc (.cells #[.string ⟨#[]⟩, .slice none 0 0, .slice none 0 0, .slice none 0 0, .slice none 0 0, .slice none 0 0, .slice none 0 0, .int .i64 0] 84)) (HCS.out _ (HK.out.trans hx)) (fun _ => ?_)
             clear hK K
             replace HK := Lib.hid (HK.out.trans hx)
             obtain ⟨G, hG⟩ : ∃ x, x = wc.heap.size := ⟨_, rfl⟩
             rw [← hG] at hbn hle ⊢
             have HG := Lib.hid hbn
             have LHG := Lib.hid hle
             clear hbn hG hle hx
             generalize wc.alloc (.cells #[.string ⟨#[]⟩, .slice none 0 0, .slice none 0 0, .slice none 0 0, .slice none 0 0, .slice none 0 0, .slice none 0 0, .int .i64 0] 84) = wc at *
             try simp only [List.getElem_toArray, List.getElem_cons_zero, List.getElem_cons_succ, Act.put, List.setIfInBounds_toArray, List.set_cons_zero, List.set_cons_succ])))
    all_goals (
     refine wpAnyH_ready (rs := [11]) (by kernel_rfl) (by simp) ?_
     refine AllReadyH.cons rfl (fun K hK => ?_) AllReadyH.nil
     have d0 := blk_cell HG.out 0 _ rfl
     have d1 := blk_cell HG.out 1 _ rfl
     have d2 := blk_cell HG.out 2 _ rfl
     have d3 := blk_cell HG.out 3 _ rfl
     have d4 := blk_cell HG.out 4 _ rfl
     have d5 := blk_cell HG.out 5 _ rfl
     have d6 := blk_cell HG.out 6 _ rfl
     have d7 := blk_cell HG.out 7 _ rfl
     have fd0 := blk_free HG.out 0
     have fd1 := blk_free HG.out 1
     have fd2 := blk_free HG.out 2
     have fd3 := blk_free HG.out 3
     have fd4 := blk_free HG.out 4
     have fd5 := blk_free HG.out 5
     have fd6 := blk_free HG.out 6
     have fd7 := blk_free HG.out 7
     go_simp
     obtain ⟨hs8, hbut⟩ := set8 HG.out (.string (bs V.name)) (.slice (AV 1) V.files.length (CV 1)) (.slice (AV 2) V.after.length (CV 2)) (.slice (AV 3) V.before.length (CV 3)) (.slice (AV 4) V.reqs.length (CV 4)) (.slice (AV 5) V.wants.length (CV 5)) (.slice (AV 6) V.partof.length (CV 6)) (.int .i64 V.retry)
     have hxf : Ext w7 (((((((((wc.setCell ⟨G, 0, none⟩ (.string (bs V.name))).setCell ⟨G, 1, none⟩ (.slice (AV 1) V.files.length (CV 1))).setCell ⟨G, 2, none⟩ (.slice (AV 2) V.after.length (CV 2))).setCell ⟨G, 3, none⟩ (.slice (AV 3) V.before.length (CV 3))).setCell ⟨G, 4, none⟩ (.slice (AV 4) V.reqs.length (CV 4))).setCell ⟨G, 5, none⟩ (.slice (AV 5) V.wants.length (CV 5))).setCell ⟨G, 6, none⟩ (.slice (AV 6) V.partof.length (CV 6))).setCell ⟨G, 7, none⟩ (.int .i64 V.retry))) := ((Keep.of_ext (S := (· < w7.heap.size)) HK.out).trans ((Keep.of_but hbut).mono fun g _ hg => by have hg : g < w7.heap.size := hg; show g ≠ G; have := LHG.out; omega)).ext_lt
     generalize (((((((((wc.setCell ⟨G, 0, none⟩ (.string (bs V.name))).setCell ⟨G, 1, none⟩ (.slice (AV 1) V.files.length (CV 1))).setCell ⟨G, 2, none⟩ (.slice (AV 2) V.after.length (CV 2))).setCell ⟨G, 3, none⟩ (.slice (AV 3) V.before.length (CV 3))).setCell ⟨G, 4, none⟩ (.slice (AV 4) V.reqs.length (CV 4))).setCell ⟨G, 5, none⟩ (.slice (AV 5) V.wants.length (CV 5))).setCell ⟨G, 6, none⟩ (.slice (AV 6) V.partof.length (CV 6))).setCell ⟨G, 7, none⟩ (.int .i64 V.retry))) = wf at hs8 hbut hxf ⊢
     refine hK.out _ _ (HCS.out _ hxf) (fun _ => ?_)
     clear hK K hbut hs8 d0 fd0 d1 fd1 d2 fd2 d3 fd3 d4 fd4 d5 fd5 d6 fd6 d7 fd7
     replace HK := Lib.hid hxf
     clear hxf
     rename_i wo
     try clear wo
     obtain ⟨wc, rfl⟩ : ∃ x : World, x = wf := ⟨_, rfl⟩
     try simp only [List.getElem_toArray, List.getElem_cons_zero, Act.put, List.setIfInBounds_toArray, List.set_cons_zero, List.set_cons_succ]
     refine wpAnyH_take (i := 12) (v := ?_) rfl (by kernel_rfl) (by kernel_rfl) (by kernel_rfl) (fun _ _ _ h => h) (Or.inl ⟨by kernel_rfl, ?_⟩) (HCS.out _ HK.out) ?_
     rotate_left
     · (intro wq _; first | (go_simp; done) | (go_simp; with_reducible rfl))
     try simp only [List.getElem_toArray, List.getElem_cons_zero, List.getElem_cons_succ, Act.put, List.setIfInBounds_toArray, List.set_cons_zero, List.set_cons_succ])
    all_goals (
     refine wpAnyH_done (by kernel_rfl) ?_ _
     refine NoPanic.normal ?_
     cases ok with
     | true =>
       have hnu : newU U = .inr (9, u.name) := by
        unfold newU
        rw [if_neg (by omega), hdup.out, HDK.out]
        show (match (if hasU (U.take k) u.name = true then some u.name else _) with | some n => _ | none => _) = _
        rw [← HOK.out, if_pos rfl]
       have HNU := Lib.hid hnu; clear hnu
       have e0 := blk_cell (HK.out.heap HB7.out) 0 (.string (bs u.name)) rfl
       go_wp2_with fail
       go_quiet (fail)
       go_wp2_with fail
       rw [HR.out]
       refine GraphR.bad HNU.out ?_
       refine Ext.drewN ?_ _
       exact ((Keep.of_ext (S := (· < w.heap.size)) HX1.out).trans ((hkp.out.mono fun g _ hg => by have hg : g < w.heap.size := hg; show g ≠ ub; have := HUB.out; omega).trans (Keep.of_ext (HX7.out.trans HK.out)))).ext_lt
     | false =>
       go_upto_region 10 with (fail)
       obtain ⟨w10, rfl⟩ : ∃ x : World, x = wc := ⟨_, rfl⟩
       have hgub : gb ≠ ub := by have := HUB.out; have := HGB.out; omega
       have hbub : B7 ≠ ub := by have := HUB.out; have := HB7E.out; have := hM.out.lt; omega
       have hsk : ∀ wc wn, Ext w10 wc → Keep (· ≠ ub) wc wn → wn.cell? ⟨gb, 0, none⟩ = some (.map (some ub)) ∧ wn.cell? ⟨B7, 0, none⟩ = some (.string (bs u.name)) ∧ wn.cell? ⟨B7, 1, none⟩ = some (.slice (Au 1) u.files.length (Cu 1)) ∧ wn.cell? ⟨B7, 2, none⟩ = some (.slice (Au 2) u.after.length (Cu 2)) ∧ wn.cell? ⟨B7, 3, none⟩ = some (.slice (Au 3) u.before.length (Cu 3)) ∧ wn.cell? ⟨B7, 4, none⟩ = some (.slice (Au 4) u.reqs.length (Cu 4)) ∧ wn.cell? ⟨B7, 5, none⟩ = some (.slice (Au 5) u.wants.length (Cu 5)) ∧ wn.cell? ⟨B7, 6, none⟩ = some (.slice (Au 6) u.partof.length (Cu 6)) ∧ wn.cell? ⟨B7, 7, none⟩ = some (.int .i64 u.retry) := fun wc wn k1 k2 => by
        have h1 := k2.heap hbub (k1.heap (HK.out.heap HB7.out))
        exact ⟨blk_cell (k2.heap hgub (k1.heap (HK.out.heap (HX7.out.heap HG1R.out)))) 0 _ rfl, blk_cell h1 0 _ rfl, blk_cell h1 1 _ rfl, blk_cell h1 2 _ rfl, blk_cell h1 3 _ rfl, blk_cell h1 4 _ rfl, blk_cell h1 5 _ rfl, blk_cell h1 6 _ rfl, blk_cell h1 7 _ rfl⟩
       have HSK := Lib.hid hsk
       have HCS := Lib.hid fun W kk => hsk W W kk (Keep.refl _ _)
       have HCL := Lib.hid fun W (kk : Ext w10 W) => graph_clone u Au Cu W (fun f h1 h6 => (HUR.out f h1 h6).ext (((Keep.of_ext (S := (· < w.heap.size)) HX1.out).trans ((hkp.out.mono fun g _ hg => by have hg : g < w.heap.size := hg; show g ≠ ub; have := HUB.out; omega).trans (Keep.of_ext ((HX7.out.trans HK.out).trans kk)))).ext_lt)) (fun f h1 h6 => by have := (HSM.out.rows f h1 h6).1; omega)
       have HM7 := Lib.hid (hM.out.ext (HX7.out.trans HK.out))
       have HXR := Lib.hid (HX7.out.trans HK.out)
       clear hsk hgub hbub HCS HK
       have HCS := Lib.hid fun W kk => HSK.out W W kk (Keep.refl _ _)
       have HK := Lib.hid ((Ext.refl w10).drew)
       refine wp_region_noPanic ?_
       refine wp_region_held_drew (S := (fun W => W.cell? ⟨gb, 0, none⟩ = some (.map (some ub)) ∧ W.cell? ⟨B7, 0, none⟩ = some (.string (bs u.name)) ∧ W.cell? ⟨B7, 1, none⟩ = some (.slice (Au 1) u.files.length (Cu 1)) ∧ W.cell? ⟨B7, 2, none⟩ = some (.slice (Au 2) u.after.length (Cu 2)) ∧ W.cell? ⟨B7, 3, none⟩ = some (.slice (Au 3) u.before.length (Cu 3)) ∧ W.cell? ⟨B7, 4, none⟩ = some (.slice (Au 4) u.reqs.length (Cu 4)) ∧ W.cell? ⟨B7, 5, none⟩ = some (.slice (Au 5) u.wants.length (Cu 5)) ∧ W.cell? ⟨B7, 6, none⟩ = some (.slice (Au 6) u.partof.length (Cu 6)) ∧ W.cell? ⟨B7, 7, none⟩ = some (.int .i64 u.retry))) (by kernel_rfl) (HCS.out _ HK.out) (fun hHeld => ?_)
       clear hHeld
       generalize w10.drew = wc at HK ⊢
       refine wpAnyH_take (i := 0) (v := ?_) rfl (by kernel_rfl) (by kernel_rfl) (by kernel_rfl) (fun _ _ _ h => h) (Or.inl ⟨by kernel_rfl, ?_⟩) (HCS.out _ HK.out) ?_
       rotate_left
       · (intro wq _; first | (go_simp; done) | (go_simp; with_reducible rfl))
       try simp only [List.getElem_toArray, List.getElem_cons_zero, Act.put, List.setIfInBounds_toArray, List.set_cons_zero, List.set_cons_succ]
       refine wpAnyH_take (i := 1) (v := ?_) rfl (by kernel_rfl) (by kernel_rfl) (by kernel_rfl) (fun _ _ _ h => h) (Or.inl ⟨by kernel_rfl, ?_⟩) (HCS.out _ HK.out) ?_
       rotate_left
       · (intro wq _; first | (go_simp; done) | (go_simp; with_reducible rfl))
       try simp only [List.getElem_toArray, List.getElem_cons_zero, List.getElem_cons_succ, Act.put, List.setIfInBounds_toArray, List.set_cons_zero, List.set_cons_succ]
       refine wpAnyH_take (i := 2) (v := ?_) rfl (by kernel_rfl) (by kernel_rfl) (by kernel_rfl) (fun _ _ _ h => h) (Or.inl ⟨by kernel_rfl, ?_⟩) (HCS.out _ HK.out) ?_
       rotate_left
       · (intro wq _; first | (go_simp; done) | (go_simp; with_reducible rfl))
       try simp only [List.getElem_toArray, List.getElem_cons_zero, List.getElem_cons_succ, Act.put, List.setIfInBounds_toArray, List.set_cons_zero, List.set_cons_succ]
       refine wpAnyH_take (i := 3) (v := ?_) rfl (by kernel_rfl) (by kernel_rfl) (by kernel_rfl) (fun _ _ _ h => h) (Or.inl ⟨by kernel_rfl, ?_⟩) (HCS.out _ HK.out) ?_
       rotate_left
       · (intro wq hSw; (try dsimp only at hSw); first | (go_simp; done) | (go_simp; with_reducible rfl))
       try simp only [List.getElem_toArray, List.getElem_cons_zero, List.getElem_cons_succ, Act.put, List.setIfInBounds_toArray, List.set_cons_zero, List.set_cons_succ]
       refine wpAnyH_take (i := 4) (v := ?_) rfl (by kernel_rfl) (by kernel_rfl) (by kernel_rfl) (fun _ _ _ h => h) (Or.inl ⟨by kernel_rfl, ?_⟩) (HCS.out _ HK.out) ?_
       rotate_left
       · (intro wq _; first | (go_simp; done) | (go_simp; with_reducible rfl))
       try simp only [List.getElem_toArray, List.getElem_cons_zero, List.getElem_cons_succ, Act.put, List.setIfInBounds_toArray, List.set_cons_zero, List.set_cons_succ]
       refine wpAnyH_take (i := 5) (v := ?_) rfl (by kernel_rfl) (by kernel_rfl) (by kernel_rfl) (fun _ _ _ h => h) (Or.inl ⟨by kernel_rfl, ?_⟩) (HCS.out _ HK.out) ?_
       rotate_left
       · (intro wq hSw; (try dsimp only at hSw); first | (go_simp; done) | (go_simp; with_reducible rfl))
       try simp only [List.getElem_toArray, List.getElem_cons_zero, List.getElem_cons_succ, Act.put, List.setIfInBounds_toArray, List.set_cons_zero, List.set_cons_succ]
       refine wpAnyH_take (i := 6) (v := ?_) rfl (by kernel_rfl) (by kernel_rfl) (by kernel_rfl) (fun _ _ _ h => h) (Or.inl ⟨by kernel_rfl, ?_⟩) (HCS.out _ HK.out) ?_
       rotate_left
       · (intro wq hSw; (try dsimp only at hSw); first | (go_simp; done) | (go_simp; with_reducible rfl))
       try simp only [List.getElem_toArray, List.getElem_cons_zero, List.getElem_cons_succ, Act.put, List.setIfInBounds_toArray, List.set_cons_zero, List.set_cons_succ]
       all_goals (
        first
         | refine wpAnyH_ready (rs := [7]) (by decide +kernel) (by simp) ?_
        repeat' (first | exact AllReadyH.nil | (refine AllReadyH.cons rfl (fun K hK => ?_) ?_)))
       all_goals (
        first
         | (go_simp
            first
             | (go_at_call 90
                refine (HCL.out _ HK.out).mono ?_
                rintro E wn ⟨A2, C2, rfl, hO2, hx⟩
                have HO2 := Lib.hid hO2
                have hle := HK.out.size
                have HLE := Lib.hid hle
                replace HK := Lib.hid (HK.out.trans hx)
                clear hx hO2 hle
                unfold unitV
                go_wp2_with fail
                refine hK.out _ _ (HCS.out _ HK.out) (fun _ => ?_)
                clear hK K
                obtain ⟨wc, rfl⟩ : ∃ x : World, x = wn := ⟨_, rfl⟩
                try simp only [List.getElem_toArray, List.getElem_cons_zero, List.getElem_cons_succ, Act.put, List.setIfInBounds_toArray, List.set_cons_zero, List.set_cons_succ])))
       all_goals (
        refine wpAnyH_ready (rs := [8]) (by kernel_rfl) (by simp) ?_
        refine AllReadyH.cons rfl (fun K hK => ?_) AllReadyH.nil
        have hmw := HM7.out.ext HK.out
        have hmb := hmw.block
        obtain ⟨wn, hrun, hmn, hkn⟩ := hmw.store (t := 161) str_keyed Tryz.underlying161 (by unfold maxLen; omega) keyS_inj (.agg #[.string (bs u.name), .slice (A2 1) u.files.length (C2 1), .slice (A2 2) u.after.length (C2 2), .slice (A2 3) u.before.length (C2 3), .slice (A2 4) u.reqs.length (C2 4), .slice (A2 5) u.wants.length (C2 5), .slice (A2 6) u.partof.length (C2 6), .int .i64 u.retry]) (key_by HNL.out)
        have hsn := HSK.out _ _ HK.out hkn
        have HMN := Lib.hid hmn
        have HKN := Lib.hid hkn
        clear hmw hmn
        go_simp
        refine hK.out _ _ hsn (fun _ => ?_)
        clear hK K hrun hkn hsn
        try simp only [List.getElem_toArray, List.getElem_cons_zero, List.getElem_cons_succ, Act.put, List.setIfInBounds_toArray, List.set_cons_zero, List.set_cons_succ])
       all_goals (
        refine wpAnyH_done (by kernel_rfl) ?_ _
        refine NoPanic.normal ?_
        have hxc := HXR.out.trans HK.out
        have HXC := Lib.hid hxc; clear hxc
        go_wp2_with fail
        go_roundw
        case rel =>
         have hno : hasU (U.take k) u.name = false := HOK.out.symm
         have hnb : ∀ g cs, wc.heap[g]? = some (.cells cs 9 (0, 0)) → g ≠ ub := fun g cs hg => ne_map hmb hg
         refine ⟨k + 1, ⟨fun z => if z = u.name then A2 else A.ua z, fun z => if z = u.name then C2 else A.uc z, A.ra, A.rc⟩, by go_num, by omega, Lib.hid ?_, Lib.hid fun z v hz f h1 h6 => ?_, Lib.hid ?_, Lib.hid ?_, Lib.hid ((hkp.out.trans (Keep.of_ext HXC.out)).trans HKN.out)⟩
         · rw [HUK.out]
           exact HMN.out.same (unitF_snoc hno)
         · rw [HUK.out, getU_snoc] at hz
           dsimp only
           by_cases e : z = u.name
           · subst e
             have hg : getU (U.take k) u.name = none := by
              unfold hasU at hno
              cases hg : getU (U.take k) u.name with
              | none => rfl
              | some x => rw [hg] at hno; cases hno
             rw [hg] at hz
             have hz : (if u.name = u.name then some u else none) = some v := hz
             rw [if_pos rfl] at hz
             cases hz
             rw [if_pos rfl, if_pos rfl]
             have h := HO2.out f h1 h6
             refine ⟨(h.1.keep HKN.out hnb).base2 ?_, h.2⟩
             have := HLE.out; have := HXR.out.size; have := hkp.out.size; have := HX1.out.size
             omega
           · rw [if_neg e, if_neg e]
             cases hg : getU (U.take k) z with
             | none =>
               rw [hg] at hz
               have hz : (if z = u.name then some u else none) = some v := hz
               rw [if_neg e] at hz; cases hz
             | some x =>
               rw [hg] at hz
               have hz : some x = some v := hz
               cases hz
               have h := hrow.out z v hg f h1 h6
               exact ⟨(h.1.ext HXC.out).keep HKN.out hnb, h.2⟩
         · rw [hdup.out, HDK.out, HUK.out]
           show (if hasU (U.take k) u.name = true then some u.name else dupU (U.take k ++ [u]) (U.drop (k + 1))) = _
           rw [if_neg (by rw [hno]; simp)]
         · rw [HUK.out, List.map_append, List.nodup_append]
           refine ⟨hnd.out, by simp, fun x hx y hy e => ?_⟩
           rw [List.map_cons, List.map_nil, List.mem_singleton] at hy
           rw [hy] at e
           rw [e] at hx
           rw [hasU_iff.2 hx] at hno
           cases hno
        case measure => simp [intOf]; omega))
  · have hkk : k = L.length := by omega
    subst hkk
    have htk : U.take L.length = U := List.take_of_length_le (by omega)
    have hM2 : MapF keyS wr 9 ub L.length (unitF U A) := by have h := hM.out; rwa [htk] at h
    have hrow2 : ∀ n u, getU U n = some u → ∀ f, 1 ≤ f → f ≤ 6 → OwnS wr w.heap.size (A.ua n f) (A.uc n f) (u.row f) ∧ (u.row f).length ≤ A.uc n f := by have h := hrow.out; rwa [htk] at h
    have hnd2 : (U.map UnitD.name).Nodup := by have h := hnd.out; rwa [htk] at h
    have hdd : dupU [] U = none := by rw [hdup.out, htk, List.drop_of_length_le (by omega)]; rfl
    have hg2 := hkp.out.heap (g := gb) (by have := HUB.out; have := HGB.out; omega) HG1.out
    have hb2 := HM2.out.keep hkp.out (show hb ≠ ub by have := HUB.out; have := HHB.out; omega)
    have hxw : Ext w wr := ((Keep.of_ext (S := (· < w.heap.size)) HX1.out).trans (hkp.out.mono fun g _ hg => by have hg : g < w.heap.size := hg; show g ≠ ub; have := HUB.out; omega)).ext_lt
    have hsmU : ∀ n u, getU U n = some u → SmallU u := fun n u h => by
     obtain ⟨h1, _⟩ := getU_some h
     rw [HU.out] at h1
     obtain ⟨x, hx, rfl⟩ := List.mem_map.1 h1
     exact HS.out x hx
    have hsN : ∀ u ∈ U, u.name.length ≤ 100000 := fun u hu => by
     rw [HU.out] at hu
     obtain ⟨x, hx, rfl⟩ := List.mem_map.1 hu
     exact (HS.out x hx).name
    have hnl : ∀ x ∈ namesU U, x.length ≤ 100000 ∧ ∃ u, getU U x = some u := fun x hx => by
     rw [namesU_mem] at hx
     have h2 := hasU_iff.1 hx
     obtain ⟨u, hu, rfl⟩ := List.mem_map.1 h2
     exact ⟨hsN u hu, _, getU_mem hnd2 hu⟩
    have hnn : (namesU U).length = U.length := namesU_len U
    have HNM := Lib.hid fun W (kk : Ext wr W) => graph_Names (kk.heap hg2) (hM2.ext kk) hnd2 (by omega)
    obtain ⟨names, hnames⟩ : ∃ n, n = namesU U := ⟨_, rfl⟩
    rw [← hnames] at HNM hnl hnn
    have HM := Lib.hid hM2; have HROW := Lib.hid hrow2; have HND := Lib.hid hnd2; have HDD := Lib.hid hdd; have HG2 := Lib.hid hg2; have HB2 := Lib.hid hb2; have HXW := Lib.hid hxw; have HSMU := Lib.hid hsmU; have HSN := Lib.hid hsN; have HNL := Lib.hid hnl; have HNAMES := Lib.hid hnames
    clear hM2 hrow2 hnd2 hdd hg2 hb2 hxw hsmU hsN hnl hnames htk hM hrow hdup hnd hkp
    obtain ⟨w2, rfl⟩ : ∃ x : World, x = wr := ⟨_, rfl⟩
    go_wp2_with (go_at_call 58; refine (HNM.out _ (Ext.refl _)).mono ?_; rintro e w3 ⟨na, nc, rfl, hO, hnc, hx3⟩; have HO := Lib.hid hO; have HX3 := Lib.hid hx3; have HNC := Lib.hid hnc; clear hO hx3 hnc)
    go_loopw [60] (fun i wr => ∃ k : Nat, i = .int .i64 k ∧ k ≤ names.length ∧ Hid (∀ x ∈ names.take k, lackU U x = false) ∧ Hid (Ext w3 wr)) (fun i _ => names.length - (intOf i).toNat)
    case atStart => exact ⟨0, rfl, Nat.zero_le _, Lib.hid (fun x hx => by simp at hx), Lib.hid (Ext.refl _)⟩
    case round =>
     obtain ⟨k, rfl, hk, hlack, hx⟩ := hrel
     by_cases hlt : k < names.length
     · obtain ⟨ng, rfl, _, _, _, _, hncell⟩ := HO.out.cells (fun e => by rw [e] at hlt; simp at hlt)
       have q0 := hx.out.cell (hncell k hlt)
       obtain ⟨nm, hnm⟩ : ∃ nm, nm = names.getD k [] := ⟨_, rfl⟩
       have hmem : nm ∈ names := by rw [hnm]; exact mem_getDB hlt
       have htk : names.take (k + 1) = names.take k ++ [nm] := by rw [take_snocB hlt, hnm]
       rw [← hnm] at q0
       obtain ⟨hnml, V, hV⟩ := HNL.out nm hmem
       have HNML := Lib.hid hnml; have HV := Lib.hid hV; have HTK := Lib.hid htk; have HNMD := Lib.hid hnm
       clear hncell hnml hV htk hmem hnm
       go_upto_region 15 with (fail)
       clear q0
       obtain ⟨w15, rfl⟩ : ∃ x : World, x = wr := ⟨_, rfl⟩
       obtain ⟨AV, hAV⟩ : ∃ x, x = A.ua nm := ⟨_, rfl⟩
       obtain ⟨CV, hCV⟩ : ∃ x, x = A.uc nm := ⟨_, rfl⟩
       have hx15 : Ext w2 w15 := HX3.out.trans hx.out
       have hcs : ∀ W, Ext w15 W → W.cell? ⟨gb, 0, none⟩ = some (.map (some ub)) ∧ (Instr.lookup 161 (.map (some ub)) (.string (bs nm)) false).run Tryz.prog W = .ok (.agg #[.string (bs V.name), .slice (AV 1) V.files.length (CV 1), .slice (AV 2) V.after.length (CV 2), .slice (AV 3) V.before.length (CV 3), .slice (AV 4) V.reqs.length (CV 4), .slice (AV 5) V.wants.length (CV 5), .slice (AV 6) V.partof.length (CV 6), .int .i64 V.retry]) W := fun W kk => by
        refine ⟨blk_cell ((hx15.trans kk).heap HG2.out) 0 _ rfl, ?_⟩
        have h := (HM.out.ext (hx15.trans kk)).lookup str_keyed Tryz.underlying161 (Tryz.zeroValue84 W) (key_by HNML.out)
        have hu : unitF U A nm = some (unitV V AV CV) := by unfold unitF; rw [HV.out, hAV, hCV]; rfl
        rw [hu] at h
        exact h
       have HCS := Lib.hid hcs
       have HR4 := Lib.hid fun W (kk : Ext w15 W) => (show Strs W (AV 4) V.reqs by rw [hAV]; exact (OwnS.strs ((HROW.out nm V HV.out 4 (by omega) (by omega)).1.ext (hx15.trans kk))).1)
       have HR6 := Lib.hid fun W (kk : Ext w15 W) => (show Strs W (AV 6) V.partof by rw [hAV]; exact (OwnS.strs ((HROW.out nm V HV.out 6 (by omega) (by omega)).1.ext (hx15.trans kk))).1)
       have HL4 : Hid (V.reqs.length ≤ 50000) := Lib.hid (by have h := ((HSMU.out nm V HV.out).rows 4 (by omega) (by omega)).1; have h : V.reqs.length ≤ 1000 := h; omega)
       have HL6 : Hid (V.partof.length ≤ 50000) := Lib.hid (by have h := ((HSMU.out nm V HV.out).rows 6 (by omega) (by omega)).1; have h : V.partof.length ≤ 1000 := h; omega)
       have HXS : Hid (∀ x ∈ V.reqs ++ V.partof, x.length ≤ 100000) := Lib.hid fun x hx => by
        rcases List.mem_append.1 hx with hx | hx
        · exact ((HSMU.out nm V HV.out).rows 4 (by omega) (by omega)).2 x hx
        · exact ((HSMU.out nm V HV.out).rows 6 (by omega) (by omega)).2 x hx
       have HX15 := Lib.hid hx15
       obtain ⟨xs, hxs⟩ : ∃ xs, xs = V.reqs ++ V.partof := ⟨_, rfl⟩
       rw [← hxs] at HXS
       have HXE := Lib.hid hxs
       have HLT := Lib.hid hlt
       clear hcs hx15 hAV hCV hxs
       have HK := Lib.hid ((Ext.refl w15).drew)
       have hfd4 := field_reqs
       have hfd6 := field_part
       refine wp_region_noPanic ?_
       refine wp_region_held_drew (S := (fun W => W.cell? ⟨gb, 0, none⟩ = some (.map (some ub)) ∧ (Instr.lookup 161 (.map (some ub)) (.string (bs nm)) false).run Tryz.prog W = .ok (.agg #[.string (bs V.name), .slice (AV 1) V.files.length (CV 1), .slice (AV 2) V.after.length (CV 2), .slice (AV 3) V.before.length (CV 3), .slice (AV 4) V.reqs.length (CV 4), .slice (AV 5) V.wants.length (CV 5), .slice (AV 6) V.partof.length (CV 6), .int .i64 V.retry]) W)) (by kernel_rfl) (HCS.out _ HK.out) (fun hHeld => ?_)
       clear hHeld
       generalize w15.drew = wc at HK ⊢
       refine wpAnyH_take (i := 0) (v := ?_) rfl (by kernel_rfl) (by kernel_rfl) (by kernel_rfl) (fun _ _ _ h => h) (Or.inl ⟨by kernel_rfl, ?_⟩) (HCS.out _ HK.out) ?_
       rotate_left
       · (intro wq _; first | (go_simp; done) | (go_simp; with_reducible rfl))
       try simp only [List.getElem_toArray, List.getElem_cons_zero, Act.put, List.setIfInBounds_toArray, List.set_cons_zero, List.set_cons_succ]
       refine wpAnyH_take (i := 1) (v := ?_) rfl (by kernel_rfl) (by kernel_rfl) (by kernel_rfl) (fun _ _ _ h => h) (Or.inl ⟨by kernel_rfl, ?_⟩) (HCS.out _ HK.out) ?_
       rotate_left
       · (intro wq _; first | (go_simp; done) | (go_simp; with_reducible rfl))
       try simp only [List.getElem_toArray, List.getElem_cons_zero, List.getElem_cons_succ, Act.put, List.setIfInBounds_toArray, List.set_cons_zero, List.set_cons_succ]
       refine wpAnyH_take (i := 2) (v := ?_) rfl (by kernel_rfl) (by kernel_rfl) (by kernel_rfl) (fun _ _ _ h => h) (Or.inl ⟨by kernel_rfl, ?_⟩) (HCS.out _ HK.out) ?_
       rotate_left
       · (intro wq _; first | (go_simp; done) | (go_simp; with_reducible rfl))
       try simp only [List.getElem_toArray, List.getElem_cons_zero, List.getElem_cons_succ, Act.put, List.setIfInBounds_toArray, List.set_cons_zero, List.set_cons_succ]
       refine wpAnyH_take (i := 3) (v := ?_) rfl (by kernel_rfl) (by kernel_rfl) (by kernel_rfl) (fun _ _ _ h => h) (Or.inl ⟨by kernel_rfl, ?_⟩) (HCS.out _ HK.out) ?_
       rotate_left
       · (intro wq hSw; (try dsimp only at hSw); first | (go_simp; done) | (go_simp; with_reducible rfl))
       try simp only [List.getElem_toArray, List.getElem_cons_zero, List.getElem_cons_succ, Act.put, List.setIfInBounds_toArray, List.set_cons_zero, List.set_cons_succ]
       refine wpAnyH_take (i := 4) (v := ?_) rfl (by kernel_rfl) (by kernel_rfl) (by kernel_rfl) (fun _ _ _ h => h) (Or.inl ⟨by kernel_rfl, ?_⟩) (HCS.out _ HK.out) ?_
       rotate_left
       · (intro wq _; first | (go_simp; done) | (go_simp; with_reducible rfl))
       try simp only [List.getElem_toArray, List.getElem_cons_zero, List.getElem_cons_succ, Act.put, List.setIfInBounds_toArray, List.set_cons_zero, List.set_cons_succ]
       refine wpAnyH_take (i := 5) (v := ?_) rfl (by kernel_rfl) (by kernel_rfl) (by kernel_rfl) (fun _ _ _ h => h) (Or.inl ⟨by kernel_rfl, ?_⟩) (HCS.out _ HK.out) ?_
       rotate_left
       · (intro wq hSw; (try dsimp only at hSw); first | (go_simp; done) | (go_simp; with_reducible rfl))
       try simp only [List.getElem_toArray, List.getElem_cons_zero, List.getElem_cons_succ, Act.put, List.setIfInBounds_toArray, List.set_cons_zero, List.set_cons_succ]
       refine wpAnyH_take (i := 6) (v := ?_) rfl (by kernel_rfl) (by kernel_rfl) (by kernel_rfl) (fun _ _ _ h => h) (Or.inl ⟨by kernel_rfl, ?_⟩) (HCS.out _ HK.out) ?_
       rotate_left
       · (intro wq _; first | (go_simp; done) | (go_simp; with_reducible rfl))
       try simp only [List.getElem_toArray, List.getElem_cons_zero, List.getElem_cons_succ, Act.put, List.setIfInBounds_toArray, List.set_cons_zero, List.set_cons_succ]
       refine wpAnyH_take (i := 7) (v := ?_) rfl (by kernel_rfl) (by kernel_rfl) (by kernel_rfl) (fun _ _ _ h => h) (Or.inl ⟨by kernel_rfl, ?_⟩) (HCS.out _ HK.out) ?_
       rotate_left
       · (intro wq _; first | (go_simp; done) | (go_simp; with_reducible rfl))
       try simp only [List.getElem_toArray, List.getElem_cons_zero, List.getElem_cons_succ, Act.put, List.setIfInBounds_toArray, List.set_cons_zero, List.set_cons_succ]
       refine wpAnyH_take (i := 8) (v := ?_) rfl (by kernel_rfl) (by kernel_rfl) (by kernel_rfl) (fun _ _ _ h => h) (Or.inl ⟨by kernel_rfl, ?_⟩) (HCS.out _ HK.out) ?_
       rotate_left
       · (intro wq _; first | (go_simp; done) | (go_simp; with_reducible rfl))
       try simp only [List.getElem_toArray, List.getElem_cons_zero, List.getElem_cons_succ, Act.put, List.setIfInBounds_toArray, List.set_cons_zero, List.set_cons_succ]
       refine wpAnyH_take (i := 9) (v := ?_) rfl (by kernel_rfl) (by kernel_rfl) (by kernel_rfl) (fun _ _ _ h => h) (Or.inl ⟨by kernel_rfl, ?_⟩) (HCS.out _ HK.out) ?_
       rotate_left
       · (intro wq _; first | (go_simp; done) | (go_simp; with_reducible rfl))
       try simp only [List.getElem_toArray, List.getElem_cons_zero, List.getElem_cons_succ, Act.put, List.setIfInBounds_toArray, List.set_cons_zero, List.set_cons_succ]
       refine wpAnyH_take (i := 10) (v := ?_) rfl (by kernel_rfl) (by kernel_rfl) (by kernel_rfl) (fun _ _ _ h => h) (Or.inl ⟨by kernel_rfl, ?_⟩) (HCS.out _ HK.out) ?_
       rotate_left
       · (intro wq hSw; (try dsimp only at hSw); first | (go_simp; done) | (go_simp; with_reducible rfl))
       try simp only [List.getElem_toArray, List.getElem_cons_zero, List.getElem_cons_succ, Act.put, List.setIfInBounds_toArray, List.set_cons_zero, List.set_cons_succ]
       refine wpAnyH_take (i := 11) (v := ?_) rfl (by kernel_rfl) (by kernel_rfl) (by kernel_rfl) (fun _ _ _ h => h) (Or.inl ⟨by kernel_rfl, ?_⟩) (HCS.out _ HK.out) ?_
       rotate_left
       · (intro wq _; first | (go_simp; done) | (go_simp; with_reducible rfl))
       try simp only [List.getElem_toArray, List.getElem_cons_zero, List.getElem_cons_succ, Act.put, List.setIfInBounds_toArray, List.set_cons_zero, List.set_cons_succ]
       refine wpAnyH_take (i := 12) (v := ?_) rfl (by kernel_rfl) (by kernel_rfl) (by kernel_rfl) (fun _ _ _ h => h) (Or.inl ⟨by kernel_rfl, ?_⟩) (HCS.out _ HK.out) ?_
       rotate_left
       · (intro wq hSw; (try dsimp only at hSw); first | (go_simp; done) | (go_simp; with_reducible rfl))
       try simp only [List.getElem_toArray, List.getElem_cons_zero, List.getElem_cons_succ, Act.put, List.setIfInBounds_toArray, List.set_cons_zero, List.set_cons_succ]
       refine wpAnyH_take (i := 13) (v := ?_) rfl (by kernel_rfl) (by kernel_rfl) (by kernel_rfl) (fun _ _ _ h => h) (Or.inl ⟨by kernel_rfl, ?_⟩) (HCS.out _ HK.out) ?_
       rotate_left
       · (intro wq _; first | (go_simp; done) | (go_simp; with_reducible rfl))
       try simp only [List.getElem_toArray, List.getElem_cons_zero, List.getElem_cons_succ, Act.put, List.setIfInBounds_toArray, List.set_cons_zero, List.set_cons_succ]
       refine wpAnyH_take (i := 17) (v := ?_) rfl (by kernel_rfl) (by kernel_rfl) (by kernel_rfl) (fun _ _ _ h => h) (Or.inl ⟨by kernel_rfl, ?_⟩) (HCS.out _ HK.out) ?_
       rotate_left
       · (intro wq _; first | (go_simp; done) | (go_simp; with_reducible rfl))
       try simp only [List.getElem_toArray, List.getElem_cons_zero, List.getElem_cons_succ, Act.put, List.setIfInBounds_toArray, List.set_cons_zero, List.set_cons_succ]
       all_goals (
        first
         | refine wpAnyH_ready (rs := [14]) (by decide +kernel) (by simp) ?_
        repeat' (first | exact AllReadyH.nil | (refine AllReadyH.cons rfl (fun K hK => ?_) ?_)))
       all_goals (
        first
         | (go_simp
            first
             | (have hx := Ext.alloc wc (.cells #[.slice (AV 4) V.reqs.length (CV 4), .slice (AV 6) V.partof.length (CV 6)] 29)
                have hbn := heap_alloc_new wc (.cells #[.slice (AV 4) V.reqs.length (CV 4), .slice (AV 6) V.partof.length (CV 6)] 29)
                have hle := HK.out.size
                refine hK.out _ (wc.alloc (.cells #[.slice (AV 4) V.reqs.length (CV 4), .slice (AV 6) V.partof.length (CV 6)] 29)) (HCS.out _ (HK.out.trans hx)) (fun _ => ?_)
                clear hK K
                replace HK := Lib.hid (HK.out.trans hx)
                obtain ⟨G, hG⟩ : ∃ x, x = wc.heap.size := ⟨_, rfl⟩
                rw [← hG] at hbn hle ⊢
                have HG := Lib.hid hbn
                have LHG := Lib.hid hle
                clear hbn hG hle hx
                generalize wc.alloc (.cells #[.slice (AV 4) V.reqs.length (CV 4), .slice (AV 6) V.partof.length (CV 6)] 29) = wc at *
                try simp only [List.getElem_toArray, List.getElem_cons_zero, List.getElem_cons_succ, Act.put, List.setIfInBounds_toArray, List.set_cons_zero, List.set_cons_succ])))
       all_goals (
        first
         | refine wpAnyH_ready (rs := [15]) (by decide +kernel) (by simp) ?_
        repeat' (first | exact AllReadyH.nil | (refine AllReadyH.cons rfl (fun K hK => ?_) ?_)))
       all_goals (
        first
         | (go_simp
            first
             | (go_at_call 91
                have hcc := concat_s HG.out (HR4.out _ HK.out) (HR6.out _ HK.out) HL4.out HL6.out
                rw [← HXE.out] at hcc
                refine hcc.mono ?_
                clear hcc
                rintro E wn ⟨xa, xc, rfl, hO2, hxc, hx⟩
                have HO2 := Lib.hid hO2
                have HXC := Lib.hid hxc
                replace HK := Lib.hid (HK.out.trans hx)
                clear hx hO2 hxc
                go_wp2_with fail
                refine hK.out _ _ (HCS.out _ HK.out) (fun _ => ?_)
                clear hK K
                obtain ⟨wc, rfl⟩ : ∃ x : World, x = wn := ⟨_, rfl⟩
                try simp only [List.getElem_toArray, List.getElem_cons_zero, List.getElem_cons_succ, Act.put, List.setIfInBounds_toArray, List.set_cons_zero, List.set_cons_succ]
                refine wpAnyH_take (i := 16) (v := ?_) rfl (by kernel_rfl) (by kernel_rfl) (by kernel_rfl) (fun _ _ _ h => h) (Or.inl ⟨by kernel_rfl, ?_⟩) (HCS.out _ HK.out) ?_
                rotate_left
                · (intro wq _; first | (go_simp; done) | (go_simp; with_reducible rfl))
                try simp only [List.getElem_toArray, List.getElem_cons_zero, List.getElem_cons_succ, Act.put, List.setIfInBounds_toArray, List.set_cons_zero, List.set_cons_succ])))
       all_goals (
        refine wpAnyH_done (by kernel_rfl) ?_ _
        refine NoPanic.normal ?_
        clear hfd4 hfd6
        have hxsl : xs.length ≤ 100000 := by rw [HXE.out, List.length_append]; have h4 := HL4.out; have h6 := HL6.out; omega
        go_wp2_with fail
        go_loopw [81] (fun j wr => ∃ q : Nat, j = .int .i64 q ∧ q ≤ xs.length ∧ Hid (∀ x ∈ xs.take q, hasU U x = true) ∧ Hid (Ext wc wr)) (fun j _ => xs.length - (intOf j).toNat)
        case atStart => exact ⟨0, rfl, Nat.zero_le _, Lib.hid (fun x hx => by simp at hx), Lib.hid (Ext.refl _)⟩
        case round =>
         obtain ⟨q, rfl, hq, hall, hx2⟩ := hrel
         by_cases hlq : q < xs.length
         · obtain ⟨xg, rfl, _, _, _, _, hxcell⟩ := HO2.out.cells (fun e => by rw [e] at hlq; simp at hlq)
           have q0 := hx2.out.cell (hxcell q hlq)
           obtain ⟨y, hy⟩ : ∃ y, y = xs.getD q [] := ⟨_, rfl⟩
           have hym : y ∈ xs := by rw [hy]; exact mem_getDB hlq
           have hyt : xs.take (q + 1) = xs.take q ++ [y] := by rw [take_snocB hlq, hy]
           rw [← hy] at q0
           have hxr := (HX15.out.trans HK.out).trans hx2.out
           have c0 := blk_cell (hxr.heap HG2.out) 0 (.map (some ub)) rfl
           have hlk := (HM.out.ext hxr).look_ok str_keyed Tryz.underlying161 (Tryz.zeroValue84 wr) (key_by (HXS.out y hym))
           obtain ⟨V2, AV2, CV2, hV2⟩ := unitF_val U A y
           have hz : (.agg #[.string ⟨#[]⟩, .slice none 0 0, .slice none 0 0, .slice none 0 0, .slice none 0 0, .slice none 0 0, .slice none 0 0, .int .i64 0] : Value) = .agg (unitC uzD (fun _ => none) (fun _ => 0)) := rfl
           rw [hz, hV2, unitF_some] at hlk
           unfold unitC at hlk
           have HYM := Lib.hid hym; have HYT := Lib.hid hyt; have HXR := Lib.hid hxr
           clear hV2 hz hym hyt hxr hxcell hy
           cases hh : hasU U y with
           | true =>
             rw [hh] at hlk
             have HH := Lib.hid hh; clear hh
             go_wp2_with fail
             go_roundw
             case rel => exact ⟨q + 1, by go_num, by omega, Lib.hid (by rw [HYT.out]; exact fun x hx => (List.mem_append.1 hx).elim (hall.out x) fun hx => by rw [List.mem_singleton.1 hx]; exact HH.out), Lib.hid (hx2.out.trans (Ext.alloc _ _))⟩
             case measure => simp [intOf]; omega
           | false =>
             rw [hh] at hlk
             have hnu : newU U = .inr (16, nm) := by
              have hl : lackU U nm = true := by
               unfold lackU
               rw [HV.out]
               exact List.any_eq_true.2 ⟨y, by rw [← HXE.out]; exact HYM.out, by rw [hh]; rfl⟩
              have hf := find_first hlt hlack.out (by rw [← HNMD.out]; exact hl)
              rw [← HNMD.out, HNAMES.out] at hf
              unfold newU
              rw [if_neg (by omega), HDD.out, hf]
             have HNU := Lib.hid hnu; clear hnu hh
             go_wp2_with fail
             rw [HR.out]
             exact GraphR.bad HNU.out ((HXW.out.trans HXR.out).trans (Ext.alloc _ _))
         · have hqq : q = xs.length := by omega
           have hal : ∀ x ∈ xs, hasU U x = true := by have h := hall.out; rwa [hqq, List.take_length] at h
           have hlf : lackU U nm = false := by
            unfold lackU
            rw [HV.out]
            exact List.any_eq_false.2 fun x hx => by rw [hal x (by rw [HXE.out]; exact hx)]; simp
           have HLF := Lib.hid hlf
           clear hal hlf hqq hall
           go_wp2_with fail
           go_roundw
           case rel => exact ⟨k + 1, by go_num, by have := HLT.out; omega, Lib.hid (by rw [HTK.out]; exact fun x hx => (List.mem_append.1 hx).elim (hlack.out x) fun hx => by rw [List.mem_singleton.1 hx]; exact HLF.out), Lib.hid ((hx.out.trans HK.out).trans hx2.out)⟩
           case measure => have := HLT.out; simp [intOf]; omega)
     · have hkk : k = names.length := by omega
       subst hkk
       have hlk : ∀ x ∈ names, lackU U x = false := by have h := hlack.out; rwa [List.take_length] at h
       have HLK := Lib.hid hlk
       have HX4 := Lib.hid (HX3.out.trans hx.out)
       clear hlk hlack hx HO HX3 HNC
       obtain ⟨w4, rfl⟩ : ∃ x : World, x = wr := ⟨_, rfl⟩
       go_wp2_with (go_at_call 58; refine (HNM.out _ HX4.out).mono ?_; rintro e w5 ⟨na, nc, rfl, hO, hnc, hx3⟩; have HO := Lib.hid hO; have HX5 := Lib.hid (HX4.out.trans hx3); clear hO hx3 hnc)
       obtain ⟨base, hbase⟩ : ∃ b, b = w5.heap.size := ⟨_, rfl⟩
       have HBASE := Lib.hid hbase
       clear hbase
       have hB0 : BehM w5 base hb 0 (fun _ => []) ⟨fun _ => none, fun _ => 0⟩ := ⟨(HB2.out.ext HX5.out).same (by funext z; rfl), fun n => OwnS.nil _ _, fun n m x y h => by cases h⟩
       have HB0 := Lib.hid hB0
       clear hB0
       go_loopw [102] (fun i wr => ∃ (k : Nat) (b : Bs → List Bs) (Ab : BehA), i = .int .i64 k ∧ k ≤ names.length ∧ Hid (BehM wr base hb (3000 * k) b Ab) ∧ Hid (b = (names.take k).foldl (putsU U) fun _ => []) ∧ Hid (∀ z, (b z).length ≤ 3000 * k) ∧ Hid (Keep (fun g => g < base ∧ g ≠ hb) w5 wr)) (fun i _ => names.length - (intOf i).toNat)
       case atStart => exact ⟨0, fun _ => [], _, rfl, Nat.zero_le _, HB0, Lib.hid rfl, Lib.hid (fun z => Nat.le_refl _), Lib.hid (Keep.refl _ _)⟩
       case round =>
        obtain ⟨k, b, Ab, rfl, hk, hB, hbe, hbl, hkp⟩ := hrel
        by_cases hlt : k < names.length
        · obtain ⟨ng, rfl, _, _, _, ⟨ncs, hngb⟩, hncell⟩ := HO.out.cells (fun e => by rw [e] at hlt; simp at hlt)
          have hngl : ng < base := by rw [HBASE.out]; exact (Array.getElem?_eq_some_iff.1 hngb).1
          have hmb5 := HB0.out.map.block
          have q0 := hkp.out.cell (g := ng) ⟨hngl, ne_map hmb5 hngb⟩ (hncell k hlt)
          obtain ⟨nm, hnm⟩ : ∃ nm, nm = names.getD k [] := ⟨_, rfl⟩
          have hmem : nm ∈ names := by rw [hnm]; exact mem_getDB hlt
          have htk : names.take (k + 1) = names.take k ++ [nm] := by rw [take_snocB hlt, hnm]
          rw [← hnm] at q0
          obtain ⟨hnml, V, hV⟩ := HNL.out nm hmem
          obtain ⟨AV, hAV⟩ : ∃ x, x = A.ua nm := ⟨_, rfl⟩
          obtain ⟨CV, hCV⟩ : ∃ x, x = A.uc nm := ⟨_, rfl⟩
          have hg5 := HX5.out.heap HG2.out
          have hgl : gb < base := by rw [HBASE.out]; exact (Array.getElem?_eq_some_iff.1 hg5).1
          have hm5 := HM.out.ext HX5.out
          have hul : ub < base := by rw [HBASE.out]; exact hm5.lt
          have hubh : ub ≠ hb := by have := HUB.out; have := HHB.out; omega
          have hgr := hkp.out.heap (g := gb) ⟨hgl, ne_map hmb5 hg5⟩ hg5
          have hmr := hm5.keep hkp.out ⟨hul, hubh⟩
          have c0 := blk_cell hgr 0 (.map (some ub)) rfl
          have hlk := hmr.lookup str_keyed Tryz.underlying161 (Tryz.zeroValue84 wr) (key_by hnml)
          have hu : unitF U A nm = some (unitV V AV CV) := by unfold unitF; rw [hV, hAV, hCV]; rfl
          rw [hu] at hlk
          replace hlk : (Instr.lookup 161 (.map (some ub)) (.string (bs nm)) false).run Tryz.prog wr = .ok (.agg #[.string (bs V.name), .slice (AV 1) V.files.length (CV 1), .slice (AV 2) V.after.length (CV 2), .slice (AV 3) V.before.length (CV 3), .slice (AV 4) V.reqs.length (CV 4), .slice (AV 5) V.wants.length (CV 5), .slice (AV 6) V.partof.length (CV 6), .int .i64 V.retry]) wr := hlk
          have hx26 : Ext wr (wr.alloc (.cells #[.string (bs V.name), .slice (AV 1) V.files.length (CV 1), .slice (AV 2) V.after.length (CV 2), .slice (AV 3) V.before.length (CV 3), .slice (AV 4) V.reqs.length (CV 4), .slice (AV 5) V.wants.length (CV 5), .slice (AV 6) V.partof.length (CV 6), .int .i64 V.retry] 84)) := Ext.alloc _ _
          have hb26 := heap_alloc_new wr (.cells #[.string (bs V.name), .slice (AV 1) V.files.length (CV 1), .slice (AV 2) V.after.length (CV 2), .slice (AV 3) V.before.length (CV 3), .slice (AV 4) V.reqs.length (CV 4), .slice (AV 5) V.wants.length (CV 5), .slice (AV 6) V.partof.length (CV 6), .int .i64 V.retry] 84)
          have hrows : ∀ f, 1 ≤ f → f ≤ 6 → OwnS w5 w.heap.size (AV f) (CV f) (V.row f) := fun f h1 h6 => by rw [hAV, hCV]; exact (HROW.out nm V hV f h1 h6).1.ext HX5.out
          have hkeep : ∀ {a : Option Addr} {L : List Bs} {c : Nat}, OwnS w5 w.heap.size a c L → ∀ W, Keep (fun g => g < base ∧ g ≠ hb) w5 W → Strs W a L := fun {a L c} h W kk => (OwnS.strs (ownsRow_keep h kk fun g cur hv _ hg => ⟨by rw [HBASE.out]; exact (Array.getElem?_eq_some_iff.1 hg).1, ne_map hmb5 hg⟩)).1
          have hsm := HSMU.out nm V hV
          have hol : (V.after ++ V.reqs).length ≤ 2000 := by
           have h2 : V.after.length ≤ 1000 := (hsm.rows 2 (by omega) (by omega)).1
           have h4 : V.reqs.length ≤ 1000 := (hsm.rows 4 (by omega) (by omega)).1
           rw [List.length_append]; omega
          have hoe : ∀ x ∈ V.after ++ V.reqs, x.length ≤ 100000 := fun x hx => by
           rcases List.mem_append.1 hx with hx | hx
           · exact (hsm.rows 2 (by omega) (by omega)).2 x hx
           · exact (hsm.rows 4 (by omega) (by omega)).2 x hx
          have hn16 : names.length ≤ 16 := by omega
          have HNML := Lib.hid hnml; have HV := Lib.hid hV; have HTK := Lib.hid htk; have HGR := Lib.hid hgr; have HMR := Lib.hid hmr; have HUBH := Lib.hid hubh; have HROWS := Lib.hid hrows; have HSM := Lib.hid hsm; have HOL := Lib.hid hol; have HOE := Lib.hid hoe; have HGL := Lib.hid hgl; have HUL := Lib.hid hul; have HMB5 := Lib.hid hmb5
          have HLT := Lib.hid hlt
          have HKEEP : Hid (∀ (a : Option Addr) (L : List Bs) (c : Nat), OwnS w5 w.heap.size a c L → ∀ W, Keep (fun g => g < base ∧ g ≠ hb) w5 W → Strs W a L) := Lib.hid fun a L c h W kk => hkeep h W kk
          clear hncell hnml hV htk hmem hnm hgr hmr hubh hrows hkeep hsm hol hoe hu hg5 hm5 hgl hul hmb5 hngl hngb hAV hCV
          go_upto_region 27 with (fail)
          clear q0 c0 hlk
          generalize wr.alloc (.cells #[.string (bs V.name), .slice (AV 1) V.files.length (CV 1), .slice (AV 2) V.after.length (CV 2), .slice (AV 3) V.before.length (CV 3), .slice (AV 4) V.reqs.length (CV 4), .slice (AV 5) V.wants.length (CV 5), .slice (AV 6) V.partof.length (CV 6), .int .i64 V.retry] 84) = w26 at hx26 hb26 ⊢
          obtain ⟨B18, hB18⟩ : ∃ b, b = wr.heap.size := ⟨_, rfl⟩
          rw [← hB18] at hb26 ⊢
          have d2 := blk_cell hb26 2 (.slice (AV 2) V.after.length (CV 2)) rfl
          have d4 := blk_cell hb26 4 (.slice (AV 4) V.reqs.length (CV 4)) rfl
          have hcc : Calls Tryz.prog 91 #[.slice (some ⟨w26.heap.size, 0, none⟩) 2 2] (w26.alloc (.cells #[.slice (AV 2) V.after.length (CV 2), .slice (AV 4) V.reqs.length (CV 4)] 29)) (NamesG (V.after ++ V.reqs) (w26.alloc (.cells #[.slice (AV 2) V.after.length (CV 2), .slice (AV 4) V.reqs.length (CV 4)] 29))) :=
           concat_s (heap_alloc_new w26 _) (HKEEP.out _ _ _ (HROWS.out 2 (by omega) (by omega)) _ (hkp.out.trans (Keep.of_ext (hx26.trans (Ext.alloc _ _))))) (HKEEP.out _ _ _ (HROWS.out 4 (by omega) (by omega)) _ (hkp.out.trans (Keep.of_ext (hx26.trans (Ext.alloc _ _))))) (by have h : V.after.length ≤ 1000 := (HSM.out.rows 2 (by omega) (by omega)).1; omega) (by have h : V.reqs.length ≤ 1000 := (HSM.out.rows 4 (by omega) (by omega)).1; omega)
          obtain ⟨os, hos⟩ : ∃ os, os = V.after ++ V.reqs := ⟨_, rfl⟩
          rw [← hos] at hcc HOL HOE
          have HOS := Lib.hid hos
          have hx27 : Ext wr (w26.alloc (.cells #[.slice (AV 2) V.after.length (CV 2), .slice (AV 4) V.reqs.length (CV 4)] 29)) := hx26.trans (Ext.alloc _ _)
          have hbw : wr.heap.size ≤ (w26.alloc (.cells #[.slice (AV 2) V.after.length (CV 2), .slice (AV 4) V.reqs.length (CV 4)] 29)).heap.size := hx27.size
          have hb27 := (Ext.alloc w26 (.cells #[.slice (AV 2) V.after.length (CV 2), .slice (AV 4) V.reqs.length (CV 4)] 29)).heap hb26
          have HCC := Lib.hid hcc; have HX27 := Lib.hid hx27; have HBW := Lib.hid hbw; have HB27 := Lib.hid hb27; have HB18 := Lib.hid hB18
          have HBZ : Hid (base ≤ wr.heap.size) := Lib.hid (by have := hkp.out.size; rw [HBASE.out]; exact this)
          clear hcc hx27 hbw hb27 hB18 hx26 hb26 hos
          go_wp2_with (go_at_call 91; refine Hid.out ?_)
          refine Lib.hid ?_
          refine HCC.out.mono ?_
          rintro e w27 ⟨oa, oc, rfl, hO2, hoc, hx27⟩
          have hxr := HX27.out.trans hx27
          have hBr := hB.out.ext hxr
          have hput := graph_put (base := base) (hxr.heap HGR.out) (HMR.out.ext hxr) hBr HUBH.out nm os oa oc (OwnS.strs hO2).1 (fun x hx => by
           obtain ⟨h1, cs, h2⟩ := hO2.blk hx
           refine ⟨ne_map hBr.map.block h2, fun hr => ?_⟩
           have h3 := (hB.out.lt hr).1
           have h4 := HBW.out
           omega) HNML.out HOE.out (by have := HOL.out; omega) (by have := HOL.out; omega) (Nat.le_trans HBZ.out hxr.size) (fun z => by have := hbl.out z; omega)
          have HPUT := Lib.hid hput; have HXR := Lib.hid hxr; have HB7 := Lib.hid (hx27.heap HB27.out); have HBR := Lib.hid hBr
          clear hput hxr hO2 hoc hx27 d2 d4 hBr
          go_wp2_with (go_at_call 92; refine Hid.out ?_)
          refine Lib.hid ?_
          refine HPUT.out.mono ?_
          rintro e w28 ⟨rfl, A2, hB28, hk28, _⟩
          have hk5 : Keep (fun g => g < base ∧ g ≠ hb) w5 w28 := hkp.out.trans ((Keep.of_ext HXR.out).trans (hk28.mono fun g _ hg => ⟨hg.2, fun hr => by have := (HBR.out.lt hr).2.1; have := hg.1; omega⟩))
          have hb28 := hk28.heap (g := B18) ⟨ne_map HBR.out.map.block HB7.out, fun hr => by
           obtain ⟨_, _, cs, h2⟩ := HBR.out.lt hr
           rw [HB7.out] at h2
           injection (Option.some.inj h2) with _ h3
           exact absurd h3 (by decide)⟩ HB7.out
          have d3 := blk_cell hb28 3 (.slice (AV 3) V.before.length (CV 3)) rfl
          have HB28 := Lib.hid hB28; have HK5 := Lib.hid hk5
          have HL3 : Hid (V.before.length ≤ 1000) := Lib.hid (by have h : V.before.length ≤ 1000 := (HSM.out.rows 3 (by omega) (by omega)).1; exact h)
          have hb3 := HROWS.out 3 (by omega) (by omega)
          have hb3 : OwnS w5 w.heap.size (AV 3) (CV 3) V.before := hb3
          have hbe3 : ∀ x ∈ V.before, x.length ≤ 100000 := (HSM.out.rows 3 (by omega) (by omega)).2
          obtain ⟨bf, hbf⟩ : ∃ bf, bf = V.before := ⟨_, rfl⟩
          rw [← hbf] at d3 HL3 hb3 hbe3
          obtain ⟨ba, hba⟩ : ∃ x, x = AV 3 := ⟨_, rfl⟩
          rw [← hba] at d3 hb3
          have HBF := Lib.hid hbf; have HB3 := Lib.hid hb3; have HBE3 := Lib.hid hbe3
          clear hB28 hk5 hk28 hb28 hb3 hbe3 hbf hba HPUT HXR HB7 HBR HCC HX27 HBW HB27
          have hl3 := HL3.out
          go_wp2_with fail
          go_loopw [124] (fun i wr => ∃ (j : Nat) (b2 : Bs → List Bs) (A3 : BehA), i = .int .i64 j ∧ j ≤ bf.length ∧ Hid (BehM wr base hb (3000 * k + 2000 + j) b2 A3) ∧ Hid (b2 = (bf.take j).foldl (fun b x => putU U b x [nm]) (putU U b nm os)) ∧ Hid (∀ z, (b2 z).length ≤ 3000 * k + 2000 + j) ∧ Hid (Keep (fun g => g < base ∧ g ≠ hb) w5 wr)) (fun i _ => bf.length - (intOf i).toNat)
          case atStart => exact ⟨0, _, A2, rfl, Nat.zero_le _, Lib.hid (HB28.out.mono (by have := HOL.out; omega)), Lib.hid rfl, Lib.hid (fun z => by have h1 := putU_len U b nm os z; have h2 := hbl.out z; have h3 := HOL.out; omega), HK5⟩
          case round =>
           obtain ⟨j, b2, A3, rfl, hj, hB2, hb2e, hb2l, hkp2⟩ := hrel
           by_cases hlj : j < bf.length
           · obtain ⟨bg, rfl, _, _, _, ⟨bcs, hbgb⟩, hbcell⟩ := HB3.out.cells (fun e => by rw [e] at hlj; simp at hlj)
             have hbgl : bg < base := by rw [HBASE.out]; exact (Array.getElem?_eq_some_iff.1 hbgb).1
             have q0 := hkp2.out.cell (g := bg) ⟨hbgl, ne_map HMB5.out hbgb⟩ (hbcell j hlj)
             obtain ⟨y, hy⟩ : ∃ y, y = bf.getD j [] := ⟨_, rfl⟩
             have hym : y ∈ bf := by rw [hy]; exact mem_getDB hlj
             have hyt : bf.take (j + 1) = bf.take j ++ [y] := by rw [take_snocB hlj, hy]
             rw [← hy] at q0
             have hg5 := HX5.out.heap HG2.out
             have hgr := hkp2.out.heap (g := gb) ⟨HGL.out, ne_map HMB5.out hg5⟩ hg5
             have hmr := (HM.out.ext HX5.out).keep hkp2.out ⟨HUL.out, HUBH.out⟩
             have hxa : Ext wr (wr.alloc (.cells #[.string (bs nm)] 9)) := Ext.alloc _ _
             have hBr := hB2.out.ext hxa
             have hn16 : names.length ≤ 16 := by omega
             have hput := graph_put (base := base) (os := [nm]) (c := 1) (hxa.heap hgr) (hmr.ext hxa) hBr HUBH.out y (some ⟨wr.heap.size, 0, none⟩) (Strs.made wr [nm] 9) (fun x hx => by
              cases hx
              refine ⟨fun e => ?_, fun hr => ?_⟩
              · have h1 := hB2.out.map.lt
                have e : wr.heap.size = hb := e
                omega
              · have h3 := (hB2.out.lt hr).1
                have h3 : wr.heap.size < wr.heap.size := h3
                omega) (HBE3.out y hym) (fun x hx => by rw [List.mem_singleton.1 hx]; exact HNML.out) (by simp) (by have := HL3.out; have := HLT.out; simp only [List.length_singleton]; omega) (by have h1 := hkp2.out.size; have h2 := hxa.size; rw [HBASE.out]; exact Nat.le_trans h1 h2) (fun z => by have := hb2l.out z; have := HL3.out; have := HLT.out; omega)
             have HPUT := Lib.hid hput; have HXA := Lib.hid hxa; have HYT := Lib.hid hyt; have HBR := Lib.hid hBr
             clear hput hxa hyt hBr hgr hmr hg5 hym hbcell hbgb hbgl hy hn16
             go_wp2_with (go_at_call 92; refine Hid.out ?_)
             refine Lib.hid ?_
             refine HPUT.out.mono ?_
             rintro e w31 ⟨rfl, A4, hB31, hk31, _⟩
             have hk5 : Keep (fun g => g < base ∧ g ≠ hb) w5 w31 := hkp2.out.trans ((Keep.of_ext HXA.out).trans (hk31.mono fun g _ hg => ⟨hg.2, fun hr => by have := (HBR.out.lt hr).2.1; have := hg.1; omega⟩))
             have HB31 := Lib.hid hB31; have HK31 := Lib.hid hk5
             clear hB31 hk31 hk5 HPUT HXA HBR q0
             go_wp2_with fail
             go_roundw
             case rel => exact ⟨j + 1, _, A4, by go_num, by omega, HB31, Lib.hid (by rw [HYT.out, List.foldl_append, hb2e.out]; rfl), Lib.hid (fun z => by have h1 := putU_len U b2 y [nm] z; have h2 := hb2l.out z; simp only [List.length_singleton] at h1; omega), HK31⟩
             case measure => simp [intOf]; omega
           · have hjj : j = bf.length := by omega
             have hbe2 : b2 = putsU U b nm := by
              have h := hb2e.out
              rw [hjj, List.take_length, HBF.out, HOS.out] at h
              unfold putsU
              rw [HV.out]
              exact h
             have HBE2 := Lib.hid hbe2
             have HJJ := Lib.hid hjj
             clear hbe2 hjj
             go_wp2_with fail
             go_roundw
             case rel =>
              have hj := HJJ.out
              have hl3 := HL3.out
              have hlt := HLT.out
              exact ⟨k + 1, b2, A3, by go_num, by omega, Lib.hid (hB2.out.mono (by omega)), Lib.hid (by rw [HTK.out, List.foldl_append, ← hbe.out, HBE2.out]; rfl), Lib.hid (fun z => by have := hb2l.out z; omega), hkp2⟩
             case measure => have := HLT.out; simp [intOf]; omega
        · have hkk : k = names.length := by omega
          subst hkk
          have hbu : b = behindU U := by
           have h := hbe.out
           rw [List.take_length, HNAMES.out] at h
           exact h
          have hn16 : names.length ≤ 16 := by omega
          have hmb5 := HB0.out.map.block
          have hg5 := HX5.out.heap HG2.out
          have hgl : gb < base := by rw [HBASE.out]; exact (Array.getElem?_eq_some_iff.1 hg5).1
          have hm5 := HM.out.ext HX5.out
          have hul : ub < base := by rw [HBASE.out]; exact hm5.lt
          have hubh : ub ≠ hb := by have := HUB.out; have := HHB.out; omega
          have hgr := hkp.out.heap (g := gb) ⟨hgl, ne_map hmb5 hg5⟩ hg5
          have hmr := hm5.keep hkp.out ⟨hul, hubh⟩
          have hsort := graph_sort (base := base) hgr (N := 100000) (hmr.mono (by omega)) HND.out (hB.out.mono (by omega)) (Nat.le_refl _) (by omega) HSN.out (fun z => by have := hbl.out z; omega)
          rw [hbu] at hsort
          have hxw5 : Ext w w5 := HXW.out.trans HX5.out
          have hxwr : Ext w wr := ((Keep.of_ext (S := fun g => g < w.heap.size) hxw5).trans (hkp.out.mono fun g _ hg => by
           have hg : g < w.heap.size := hg
           have h1 := hxw5.size
           have h2 := HHB.out
           exact ⟨by rw [HBASE.out]; omega, by omega⟩)).ext_lt
          have hrowr : ∀ n u, getU U n = some u → ∀ f, 1 ≤ f → f ≤ 6 → OwnS wr w.heap.size (A.ua n f) (A.uc n f) (u.row f) ∧ (u.row f).length ≤ A.uc n f := fun n u hu f h1 h6 =>
           ⟨ownsRow_keep ((HROW.out n u hu f h1 h6).1.ext HX5.out) hkp.out fun g cur hv _ hg => ⟨by rw [HBASE.out]; exact (Array.getElem?_eq_some_iff.1 hg).1, ne_map hmb5 hg⟩, (HROW.out n u hu f h1 h6).2⟩
          obtain ⟨T, hT⟩ : ∃ T, T = sortU (behindU U) U.length (namesU U) [] := ⟨_, rfl⟩
          have hnu : newU U = if T.2 = [] then .inl ⟨U, behindU U, T.1⟩ else .inr (19, T.2) := by
           unfold newU
           have hf : (namesU U).find? (lackU U) = none := List.find?_eq_none.2 fun x hx => by rw [HLK.out x (by rw [HNAMES.out]; exact hx)]; simp
           rw [if_neg (by omega), HDD.out, hf, hT]
          have hsr : SortR U (behindU U) gb ub hb wr = fun e w' => ∃ oa oc, e = .returned (.string (bs T.2)) ∧ w'.heap[gb]? = some (.cells (graphV ub hb oa T.1.length oc) 164 (0, 0)) ∧ OwnS w' wr.heap.size oa oc T.1 ∧ Keep (fun g => g < wr.heap.size ∧ g ≠ gb) wr w' := by
           unfold SortR; rw [← hT]
          rw [hsr] at hsort
          have HSORT := Lib.hid hsort; have HNU := Lib.hid hnu; have HXWR := Lib.hid hxwr; have HROWR := Lib.hid hrowr; have HMR := Lib.hid hmr; have HBU := Lib.hid hbu; have HN16 := Lib.hid hn16
          have hglr : gb < wr.heap.size := (Array.getElem?_eq_some_iff.1 hgr).1
          have HGLR := Lib.hid hglr; have HGR := Lib.hid hgr
          clear hsort hnu hxwr hrowr hmr hbu hn16 hglr hgr hsr hT hxw5 hmb5 hg5 hgl hm5 hul hubh
          by_cases hT2 : T.2 = []
          · have he : (bs T.2).toList.isEmpty = true := by rw [bs_toList, hT2]; rfl
            have HT2 := Lib.hid hT2
            clear hT2
            go_wp2_with (go_at_call 93; refine HSORT.out.mono ?_; rintro e w9 ⟨oa, oc, rfl, htop, hoo, hks⟩; have HTOP := Lib.hid htop; have HOO := Lib.hid hoo; have HKS := Lib.hid hks; clear htop hoo hks)
            rw [HR.out]
            have hsz := HKS.out.size
            have hszw := HXWR.out.size
            have hub := HUB.out
            have hhb := HHB.out
            have hgb := HGB.out
            have hglr := HGLR.out
            have hks := HKS.out
            have hbb : ∀ g, w.heap.size ≤ g → g < wr.heap.size → w.heap.size ≤ g ∧ g < w9.heap.size := fun g h1 h2 => ⟨h1, by omega⟩
            have hnt : ∀ g cs, wr.heap[g]? = some (.cells cs 9 (0, 0)) → g < wr.heap.size ∧ g ≠ gb := fun g cs hg => ⟨(Array.getElem?_eq_some_iff.1 hg).1, fun e => by
             rw [e, HGR.out] at hg
             injection (Option.some.inj hg) with _ h3
             exact absurd h3 (by decide)⟩
            have hB9 : BehM w9 base hb (3000 * names.length) b Ab := hB.out.keep hks ⟨hB.out.map.lt, ne_map hB.out.map.block HGR.out |>.symm⟩ fun g hg => by
             obtain ⟨_, _, cs, hc⟩ := hB.out.lt hg
             exact hnt g cs hc
            have hbase9 : w.heap.size ≤ base := by rw [HBASE.out]; exact (HXW.out.trans HX5.out).size
            unfold GraphR
            rw [HNU.out, if_pos HT2.out]
            refine ⟨⟨gb, rfl, ub, hb, oa, oc, ⟨A.ua, A.uc, Ab.ra, Ab.rc⟩, HTOP.out, (HMR.out.keep hks ⟨HMR.out.lt, ne_map HMR.out.block HGR.out |>.symm⟩).mono (by omega), fun n u hu => ⟨fun f h1 h6 => (OwnS.strs ((HROWR.out n u hu f h1 h6).1.keep hks hnt)).1, fun f h1 h6 => ⟨(HROWR.out n u hu f h1 h6).2, SetR.own ((HROWR.out n u hu f h1 h6).1.keep hks hnt) fun g h1 h2 => ⟨h1, h2⟩⟩⟩, ?_, fun n hn => ?_, ⟨(OwnS.strs HOO.out).1, SetR.own HOO.out fun g h1 h2 => ⟨by omega, h2⟩, (OwnS.strs HOO.out).2⟩, ⟨hbb _ (by omega) hglr, hbb _ (by omega) HMR.out.lt, hbb _ (by omega) hB.out.map.lt⟩⟩, ?_⟩
            · rw [← HBU.out]
              exact (hB9.map.mono (by have := HN16.out; omega))
            · have hn : behindU U n ≠ [] := hn
              rw [← HBU.out] at hn
              have h := hB9.row n
              unfold behRow behCap at h
              rw [if_neg hn, if_neg hn] at h
              show Strs w9 (Ab.ra n) (behindU U n) ∧ SetR _ w9 (Ab.ra n) ∧ (behindU U n).length ≤ Ab.rc n
              rw [← HBU.out]
              exact ⟨(OwnS.strs h).1, SetR.own h fun g h1 h2 => ⟨by omega, h2⟩, (OwnS.strs h).2⟩
            · exact ((Keep.of_ext (S := fun g => g < w.heap.size) HXWR.out).trans (hks.mono fun g _ hg => by have hg : g < w.heap.size := hg; exact ⟨by omega, by omega⟩)).ext_lt
          · have he : (bs T.2).toList.isEmpty = false := by rw [bs_toList]; simpa using hT2
            have HT2 := Lib.hid hT2
            clear hT2
            go_wp2_with (go_at_call 93; refine HSORT.out.mono ?_; rintro e w9 ⟨oa, oc, rfl, htop, hoo, hks⟩; have HKS := Lib.hid hks; clear htop hoo hks)
            rw [HR.out]
            refine GraphR.bad (by rw [HNU.out, if_neg HT2.out]) ?_
            have hszw := HXWR.out.size
            have hgb := HGB.out
            exact ((Keep.of_ext (S := fun g => g < w.heap.size) HXWR.out).trans (HKS.out.mono fun g _ hg => by have hg : g < w.heap.size := hg; exact ⟨by omega, by omega⟩)).ext_lt
end Go.Proofs.YtefpllpichhojaaGreatDoor
