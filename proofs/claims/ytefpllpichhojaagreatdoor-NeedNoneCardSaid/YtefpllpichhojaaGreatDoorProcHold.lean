/- proc's New, hold, free. -/
import Derived.Test.YtefpllpichhojaaGreatDoorM16
namespace Go.Proofs.YtefpllpichhojaaGreatDoor
open Go.RowKit
variable [Low]
def heldF (F : FileS) (s : By) : FileS := if (holdF F.m s).2 = 0 then incF F (holdF F.m s).1 else F
def gotM (m : RefD) (X : List Int) (s : By) : List Int := if (holdF m s).2 = 0 then X ++ [(holdF m s).1] else X
section
variable {X : Nat → Prop} {w w' : World} {vb db kb n N off top : Nat} {q : Int} {F : FileS} {m : RefD} {hd : Int → Nat}
theorem VolK.ent_id (h : VolK X w vb db kb n N off top q m hd) {p : By} {e : EntD} (he : entM m p = some e) : e = ⟨p, e.id, e.dir⟩ ∧ 1 ≤ e.id ∧ e.id ≤ (N : Int) := by
 obtain ⟨V, ⟨tb, lb, hb, mb, A, h1⟩, h2, _⟩ := h
 have h3 := h2.ent_find p
 rw [he] at h3
 by_cases h0 : findT V.T p = 0
 · rw [if_pos h0] at h3; cases h3
 rw [if_neg h0] at h3
 have h4 := Option.some.inj h3
 have h5 := h1.good.low _ (h1.good.find_mem h0)
 have h6 := h1.fit.next
 rw [h4]
 refine ⟨rfl, ?_, ?_⟩
 · exact h5.1
 · show findT V.T p ≤ _
   omega
theorem VolK.hold_id (h : VolK X w vb db kb n N off top q m hd) {p : By} (he : (holdF m p).2 = 0) : 1 ≤ (holdF m p).1 ∧ (holdF m p).1 ≤ (N : Int) := by
 unfold holdF at he ⊢
 cases hc : entM m p with
 | none => rw [hc] at he; simp at he
 | some e =>
   rw [hc] at he
   by_cases hd : e.dir = true
   · simp [hd] at he
   · simp only [hd, Bool.false_eq_true, if_false]
     exact (h.ent_id hc).2
theorem at_vHoldF (hE : Env w) (h : VolK X w vb db kb n N off top q F.m F.hd) (p : By) (hN : N + 1 ≤ 1000000000) (hk : ∀ i, F.hd i ≤ 1000000) :
 Calls Tryz.prog 104 #[.pointer (some ⟨vb, 0, none⟩), .string (bs p)] w fun e w' => e = .returned (.tuple #[.int .i64 (holdF F.m p).1, .int .i64 (holdF F.m p).2]) ∧ VolK X w' vb db kb n (N + 1) off top q (heldF F p).m (heldF F p).hd ∧ KeepY X w w' := by
 unfold heldF holdF
 cases hc : entM F.m p with
 | none =>
   refine (at_vHold_none hE h p hc (by omega)).mono ?_
   rintro e w' ⟨rfl, hx⟩
   exact ⟨rfl, (h.ext hx).mono (by omega), KeepY.of_ext hx⟩
 | some e =>
   obtain ⟨h1, _, _⟩ := h.ent_id hc
   cases hd : e.dir with
   | true =>
     rw [hd] at h1
     rw [h1] at hc
     refine (at_vHold_dir hE h p hc (by omega)).mono ?_
     rintro e' w' ⟨rfl, hx⟩
     refine ⟨by simp [hd], ?_, KeepY.of_ext hx⟩
     simp only [hd, if_true]
     exact (h.ext hx).mono (by omega)
   | false =>
     rw [hd] at h1
     rw [h1] at hc
     refine (at_vHold hE h p hc hN (hk _)).mono ?_
     rintro e' w' ⟨rfl, hv, hk⟩
     refine ⟨by simp [hd], ?_, hk⟩
     simp only [hd, Bool.false_eq_true, if_false, if_true]
     exact hv
theorem at_vLetF (h : VolK X w vb db kb n N off top q F.m F.hd) (i : Int) (h1 : -9223372036854775808 ≤ i) (h2 : i ≤ 9223372036854775807) (h0 : F.hd i ≠ 0) (hk : F.hd i ≤ 1000000) (hN : N + 1 ≤ 1000000000) :
 Calls Tryz.prog 106 #[.pointer (some ⟨vb, 0, none⟩), .int .i64 i] w fun e w' => e = .returned (.int .i64 0) ∧ VolK X w' vb db kb n (N + 1) off top q (letF F i).m (letF F i).hd ∧ KeepY X w w' :=
 at_vLet h i h1 h2 h0 hk hN
def CellH (X : Nat → Prop) (pb : Nat) (ro : Option Addr) (w : World) (g : Nat) : Prop := CellX volT X w g ∧ g ≠ pb ∧ ∀ a, ro = some a → g ≠ a.block
def KeepH (X : Nat → Prop) (pb : Nat) (ro : Option Addr) (w w' : World) : Prop := Keep (CellH X pb ro w) w w'
theorem KeepH.of_keepY {pb : Nat} {ro : Option Addr} {a b : World} (h : KeepY X a b) : KeepH X pb ro a b := Keep.mono h fun _ _ hg => hg.1
theorem CellH.keep {pb : Nat} {ro : Option Addr} {a b : World} {g : Nat} (h : CellH X pb ro a g) (k : KeepH X pb ro a b) : CellH X pb ro b g := by
 have hh := h
 obtain ⟨h1, h2⟩ := h
 refine ⟨?_, h2⟩
 rcases h1 with hl | ⟨hx, es, cl, hg⟩ | ⟨cs, t, fr, hg, ht⟩
 · exact Or.inl hl
 · exact Or.inr (Or.inl ⟨hx, es, cl, Keep.heap k hh hg⟩)
 · exact Or.inr (Or.inr ⟨cs, t, fr, Keep.heap k hh hg, ht⟩)
theorem KeepH.trans {pb : Nat} {ro rp : Option Addr} {a b c : World} (h : KeepH X pb ro a b) (k : KeepH X pb rp b c) (hr : ∀ x, rp = some x → (∃ y, ro = some y ∧ x.block = y.block) ∨ a.heap.size ≤ x.block) : KeepH X pb ro a c :=
 ⟨k.os.trans h.os, k.tape.trans h.tape, k.output.trans h.output, Nat.le_trans h.size k.size, fun i hi hn => by
  refine (k.block i (Nat.lt_of_lt_of_le hi h.size) ⟨(hn.keep h).1, hn.2.1, fun x hx e => ?_⟩).trans (h.block i hi hn)
  rcases hr x hx with ⟨y, hy, e2⟩ | e2
  · exact hn.2.2 y hy (e.trans e2)
  · omega⟩
theorem KeepH.of_blk {pb : Nat} {ro : Option Addr} {a b : World} (k : Keep (· ≠ pb) a b) : KeepH X pb ro a b := Keep.mono k fun _ _ hg => hg.2.1
theorem KeepH.of_row {pb : Nat} {ro : Option Addr} {a b : World} {v : Value} (k : Keep (fun k => some k ≠ v.ownBlock) a b) (h : ∀ g, v.ownBlock = some g → ∃ y, ro = some y ∧ g = y.block) : KeepH X pb ro a b := Keep.mono k fun g _ hg e => by
 obtain ⟨y, hy, e2⟩ := h g e.symm
 exact hg.2.2 y hy e2
theorem KeepY.andH {pb : Nat} {ro : Option Addr} {a b c : World} (h : KeepY X a b) (k : KeepH X pb ro b c) (hp : a.heap.size ≤ pb) (hr : ∀ x, ro = some x → a.heap.size ≤ x.block) : KeepY X a c :=
 ⟨k.os.trans h.os, k.tape.trans h.tape, k.output.trans h.output, Nat.le_trans h.size k.size, fun i hi hn => by
  refine (k.block i (Nat.lt_of_lt_of_le hi h.size) ⟨hn.keep h, by omega, fun x hx e => ?_⟩).trans (h.block i hi hn)
  have := hr x hx
  omega⟩
omit [Low] in
theorem OwnIs.block {base c : Nat} {a : Option Addr} {Z : List Int} (h : OwnIs w base a c Z) {x : Addr} (hx : a = some x) : base ≤ x.block ∧ x = ⟨x.block, 0, Option.none⟩ ∧ ∃ cs, w.heap[x.block]? = some (.cells cs 3 (0, 0)) := by
 subst hx
 rcases h.2 with ⟨h1, _⟩ | ⟨g, c', cur, h1, hb, hg, _⟩
 · injection h1 with h1
   cases h1
 · injection h1 with h1
   have h1 := Option.some.inj h1
   subst h1
   exact ⟨hb, rfl, _, hg⟩
omit [Low] in
theorem OwnIs.own {base c : Nat} {a : Option Addr} {Z : List Int} (h : OwnIs w base a c Z) : ∀ g, (Value.slice a Z.length c).ownBlock = some g → ∃ y, a = some y ∧ g = y.block := by
 intro g hg
 rcases h.2 with ⟨h1, _⟩ | ⟨g', c', cur, h1, _⟩
 · rw [h1] at hg; cases hg
 · rw [h1] at hg
   injection h1 with h1
   exact ⟨_, h1, (Option.some.inj hg).symm⟩
omit [Low] in
theorem OwnIs.keep {S : Nat → Prop} {base c : Nat} {a : Option Addr} {Z : List Int} (h : OwnIs w base a c Z) (k : Keep S w w') (hS : ∀ x cs, a = some x → w.heap[x.block]? = some (.cells cs 3 (0, 0)) → S x.block) : OwnIs w' base a c Z :=
 ownsRow_keep h k fun g cur h1 _ h3 => by
  obtain ⟨y, hy, e⟩ := h.own g h1
  subst e
  exact hS y cur hy h3
omit [Low] in
theorem OwnIs.at {base c : Nat} {a : Option Addr} {Z : List Int} (h : OwnIs w base a c Z) {k : Nat} (hk : k < Z.length) : ∃ g, a = some ⟨g, 0, Option.none⟩ ∧ base ≤ g ∧ w.cell? ⟨g, k, Option.none⟩ = some (.int .i64 Z[k]) := by
 rcases h.2 with ⟨h1, h2⟩ | ⟨g, c', cur, h1, hb, hg, hn, hm, hs, ht⟩
 · omega
 · injection h1 with h1
   refine ⟨_, h1, hb, ?_⟩
   refine blk_cell hg k _ ?_
   have : (intV Z)[k]? = some (.int .i64 Z[k]) := by simp [intV, hk]
   rw [← ht, List.getElem?_take] at this
   split at this
   · simpa using this
   · cases this
end
section
variable {X : Nat → Prop} {w w' : World} {tb pm vb db kb n N off top pb base : Nat} {q nx : Int} {F : FileS}
set_option maxRecDepth 100000 in
set_option maxHeartbeats 6400000 in
theorem proc_hold (hE : EnvL w) (ht : w.heap[tb]? = some (.cells (tabV vb pm nx) 135 (0, 0))) {p : ProcD} {A : ProcA} (hp : w.heap[pb]? = some (.cells (procV p A) 128 (0, 0))) (hr : OwnIs w base A.ma A.mc p.maps) (hv : VolK X w vb db kb n N off top q F.m F.hd) (s : By) (hbl : Low.low ≤ base) (hbw : base ≤ w.heap.size) (hpl : Low.low ≤ pb) (hN : N + 1 ≤ 1000000000) (hk : ∀ i, F.hd i ≤ 1000000) (h8 : p.maps.length ≤ 100) :
 Calls Tryz.prog 71 #[.pointer (some ⟨tb, 0, none⟩), .pointer (some ⟨pb, 0, none⟩), .string (bs s)] w fun e w' => ∃ A', e = .returned (.int .i64 (holdF F.m s).2) ∧ w'.heap[pb]? = some (.cells (procV { p with maps := gotM F.m p.maps s } A') 128 (0, 0)) ∧ OwnIs w' base A'.ma A'.mc (gotM F.m p.maps s) ∧ VolK X w' vb db kb n (N + 1) off top q (heldF F s).m (heldF F s).hd ∧ KeepH X pb A.ma w w' ∧ ∀ x, A'.ma = some x → (∃ y, A.ma = some y ∧ x.block = y.block) ∨ w.heap.size ≤ x.block := by
 have hcall := at_vHoldF hE.env hv s hN hk
 have hgot : ∀ i, (holdF F.m s).2 = 0 → (holdF F.m s).1 = i → gotM F.m p.maps s = p.maps ++ [i] := fun i h1 h2 => by unfold gotM; rw [if_pos h1, h2]
 have hnot : (holdF F.m s).2 ≠ 0 → gotM F.m p.maps s = p.maps := fun h1 => by unfold gotM; rw [if_neg h1]
 generalize gotM F.m p.maps s = G at hgot hnot ⊢
 generalize (holdF F.m s).1 = i at hcall hgot
 generalize (holdF F.m s).2 = z at hcall hgot hnot ⊢
 generalize heldF F s = F' at hcall ⊢
 obtain ⟨R, hR⟩ : ∃ R : Ending → World → Prop, R = fun e w' => ∃ A', e = .returned (.int .i64 z) ∧ w'.heap[pb]? = some (.cells (procV { p with maps := G } A') 128 (0, 0)) ∧ OwnIs w' base A'.ma A'.mc G ∧ VolK X w' vb db kb n (N + 1) off top q F'.m F'.hd ∧ KeepH X pb A.ma w w' ∧ ∀ x, A'.ma = some x → (∃ y, A.ma = some y ∧ x.block = y.block) ∨ w.heap.size ≤ x.block := ⟨_, rfl⟩
 rw [← hR]
 have HR := Lib.hid hR; clear hR
 have hm : ∀ w : World, (method 438 24 (.pointer (some ⟨vb, 0, none⟩)) "Hold").run Tryz.prog w = .ok (104, .pointer (some ⟨vb, 0, none⟩)) w := fun _ => by kernel_rfl
 have c0 := blk_cell ht 0 (.iface 24 (.pointer (some ⟨vb, 0, none⟩))) rfl
 have HCALL := Lib.hid hcall; have HP := Lib.hid hp; have HRW := Lib.hid hr; have HG := Lib.hid hgot; have HNG := Lib.hid hnot; have HBW := Lib.hid hbw; have H8 := Lib.hid h8; have HBL := Lib.hid hbl; have HPL := Lib.hid hpl
 clear hcall hp hr hgot hnot hE ht hv hk hbw h8 hN hbl hpl
 by_cases hz : z = 0
 · have hzb : (z == 0) = true := by rw [hz]; rfl
   have HZ := Lib.hid hz; clear hz
   obtain ⟨i0, hi, hzz, hsz, hby⟩ := info_parts info_intL
   have HI := Lib.hid hi; have HZZ := Lib.hid hzz; have HS := Lib.hid hsz; have HBY := Lib.hid hby
   clear hi hzz hsz hby
   go_enter Tryz.func71, Tryz.ntmps71
   go_wp2_with (first
    | (go_at_call 104; refine HCALL.out.mono ?_; rintro e w1 ⟨rfl, hv, hy⟩; have c2 := blk_cell (KeepX.heap hy HP.out (by decide)) 2 (.slice A.ma p.maps.length A.mc) rfl; have HV := Lib.hid hv; have HY := Lib.hid hy; clear hv hy)
    | (at_builtin; refine Hid.out ?_))
   refine Lib.hid ?_
   have hx2 := Ext.alloc w1 (.cells #[.int .i64 i] 3)
   have hb2 := heap_alloc_new w1 (.cells #[.int .i64 i] 3)
   have hO1 : OwnIs w1 base A.ma A.mc p.maps := HRW.out.keep HY.out fun x cs _ h => Or.inr (Or.inr ⟨cs, _, _, h, by decide⟩)
   have hO2 := ownsRow_keep hO1 (Keep.of_ext (S := fun _ => True) hx2) (fun _ _ _ _ _ => trivial)
   have hs1 : w.heap.size ≤ w1.heap.size := HY.out.size
   have hbw := HBW.out
   have h8 := H8.out
   refine wpList_append_own_at _ rfl _ _ 34 rfl base 3 i0 (.int .i64 0) 1 8 Tryz.underlying34 HI.out HZZ.out HS.out HBY.out rfl (by decide) (.slice A.ma p.maps.length A.mc) p.maps.length (intV p.maps) rfl hO2 ⟨w1.heap.size, 0, none⟩ 1 1 [.int .i64 i] rfl rfl (one_plain hb2) (intV_one [i]) (by unfold maxLen; omega) (by omega) (by simp; omega) ?_
   intro v' w3 hown hgrow hnil hat
   obtain ⟨a', c', rfl, _, _, _⟩ := run_of_row hown
   have hO3 : OwnIs w3 base a' c' (p.maps ++ [i]) := by
    unfold OwnIs intV
    rw [List.length_append, List.map_append]
    exact hown
   have hH1 : KeepH X pb A.ma w w1 := KeepH.of_keepY HY.out
   have hH3 : KeepH X pb A.ma w1 w3 := KeepH.trans (KeepH.of_keepY (KeepY.of_ext hx2)) (KeepH.of_row (Keep.of_grown hgrow) hO1.own) fun x hx => Or.inl ⟨x, hx, rfl⟩
   have hp3 : w3.heap[pb]? = some (.cells (procV p A) 128 (0, 0)) := Keep.heap (Keep.of_grown hgrow) (row_apart hO2 (hx2.heap (KeepX.heap HY.out HP.out (by decide))) (by decide)) (hx2.heap (KeepX.heap HY.out HP.out (by decide)))
   have hv3 := (HV.out.ext hx2).keepT (KeepT.grown (ts := [3]) (Keep.of_grown hgrow) hO2 (List.mem_singleton.2 rfl) HBL.out) (by decide)
   have cP := blk_cell hp3 2 (.slice A.ma p.maps.length A.mc) rfl
   have fP := blk_free hp3 2
   have HO3 := Lib.hid hO3; have HH := Lib.hid (hH1.trans hH3 fun x hx => Or.inl ⟨x, hx, rfl⟩); have HP3 := Lib.hid hp3; have HV3 := Lib.hid hv3; have HAT := Lib.hid hat; have HS1 := Lib.hid hs1
   clear hO3 hH1 hH3 hp3 hv3 hat hown hgrow hnil hO1 hO2 hx2 hb2 hs1 hbw h8
   go_wp2_with fail
   rw [HR.out]
   rw [HG.out i HZ.out rfl]
   have hset : Keep (· ≠ pb) w3 (w3.setCell ⟨pb, 2, none⟩ (.slice a' (p.maps.length + 1) c')) := (Keep.refl _ _).setCell (fun _ h => h) _ _
   refine ⟨⟨A.blk, a', c'⟩, rfl, ?_, HO3.out.keep hset fun x cs _ h e => ?_, HV3.out.keepT (KeepT.ne (ts := [128]) hset HP3.out (List.mem_singleton.2 rfl) HPL.out) (by decide), HH.out.trans (KeepH.of_blk hset) (fun x hx => Or.inl ⟨x, hx, rfl⟩), fun x hx => ?_⟩
   · have := setCell_row HP3.out (i := 2) (.slice a' (p.maps.length + 1) c')
     rw [this]
     unfold procV
     simp
   · have e : x.block = pb := e
     rw [e, HP3.out] at h
     cases h
   · rcases HAT.out with h | h
     · subst hx
       have h : some x.block = (Value.slice A.ma p.maps.length A.mc).ownBlock := h
       obtain ⟨y, hy, e⟩ := HRW.out.own x.block h.symm
       exact Or.inl ⟨y, hy, e⟩
     · subst hx
       have h : x.block = (w1.alloc (.cells #[.int .i64 i] 3)).heap.size := Option.some.inj h
       have := HS1.out
       simp at h
       right; omega
 · have hzb : (z == 0) = false := by simpa using hz
   have HZ := Lib.hid hz; clear hz
   go_enter Tryz.func71, Tryz.ntmps71
   go_wp2_with (go_at_call 104; refine HCALL.out.mono ?_; rintro e w1 ⟨rfl, hv, hy⟩; have HV := Lib.hid hv; have HY := Lib.hid hy; clear hv hy)
   rw [HR.out, HNG.out HZ.out]
   exact ⟨A, rfl, KeepX.heap HY.out HP.out (by decide), HRW.out.keep HY.out fun x cs _ h => Or.inr (Or.inr ⟨cs, _, _, h, by decide⟩), HV.out, KeepH.of_keepY HY.out, fun x hx => Or.inl ⟨x, hx, rfl⟩⟩
set_option maxRecDepth 100000 in
set_option maxHeartbeats 6400000 in
theorem proc_free (ht : w.heap[tb]? = some (.cells (tabV vb pm nx) 135 (0, 0))) {p : ProcD} {A : ProcA} (hp : w.heap[pb]? = some (.cells (procV p A) 128 (0, 0))) (hr : OwnIs w base A.ma A.mc p.maps) (hv : VolK X w vb db kb n N off top q F.m F.hd) (hpl : Low.low ≤ pb) (hN : N + p.maps.length ≤ 1000000000) (hid : ∀ i ∈ p.maps, 0 ≤ i ∧ i ≤ 1000000000) (hh : ∀ i, cntM p.maps i ≤ F.hd i ∧ F.hd i ≤ 1000000) (_h8 : p.maps.length ≤ 100) :
 Calls Tryz.prog 72 #[.pointer (some ⟨tb, 0, none⟩), .pointer (some ⟨pb, 0, none⟩)] w fun e w' => e = .returned (.tuple #[]) ∧ w'.heap[pb]? = some (.cells (procV { p with maps := [] } ⟨A.blk, none, 0⟩) 128 (0, 0)) ∧ VolK X w' vb db kb n (N + p.maps.length) off top q (letsF F p.maps).m (letsF F p.maps).hd ∧ KeepH X pb none w w' := by
 obtain ⟨R, hR⟩ : ∃ R : Ending → World → Prop, R = fun e w' => e = .returned (.tuple #[]) ∧ w'.heap[pb]? = some (.cells (procV { p with maps := [] } ⟨A.blk, none, 0⟩) 128 (0, 0)) ∧ VolK X w' vb db kb n (N + p.maps.length) off top q (letsF F p.maps).m (letsF F p.maps).hd ∧ KeepH X pb none w w' := ⟨_, rfl⟩
 rw [← hR]
 have HR := Lib.hid hR; clear hR
 have hm : ∀ w : World, (method 438 24 (.pointer (some ⟨vb, 0, none⟩)) "Let").run Tryz.prog w = .ok (106, .pointer (some ⟨vb, 0, none⟩)) w := fun _ => by kernel_rfl
 obtain ⟨blk, ma, mc⟩ := A
 have c2 := blk_cell hp 2 (.slice ma p.maps.length mc) rfl
 have HT := Lib.hid ht; have HP := Lib.hid hp; have HRW := Lib.hid hr; have HV0 := Lib.hid hv; have HPL := Lib.hid hpl; have HID := Lib.hid hid; have HH := Lib.hid hh
 obtain ⟨m, hmm⟩ : ∃ m, m = p.maps.length := ⟨_, rfl⟩
 rw [← hmm] at c2 hN
 have HM := Lib.hid hmm
 clear ht hp hr hv hpl hid hh hmm
 go_enter Tryz.func72, Tryz.ntmps72
 go_wp2_with fail
 go_loopw [11] (fun i wr => ∃ k : Nat, i = .int .i64 k ∧ k ≤ m ∧ Hid (VolK X wr vb db kb n (N + k) off top q (letsF F (p.maps.take k)).m (letsF F (p.maps.take k)).hd) ∧ Hid (KeepY X w wr)) (fun i _ => m - (intOf i).toNat)
 case atStart => exact ⟨0, rfl, Nat.zero_le _, HV0, Lib.hid (KeepY.refl _ _)⟩
 case round =>
  obtain ⟨k, rfl, hk, HV, HY⟩ := hrel
  by_cases hlt : k < m
  · have hkL : k < p.maps.length := by have := HM.out; omega
    have hO : OwnIs wr base ma mc p.maps := HRW.out.keep HY.out fun x cs _ h => Or.inr (Or.inr ⟨cs, _, _, h, by decide⟩)
    have c0 := blk_cell (KeepX.heap HY.out HT.out (by decide)) 0 (.iface 24 (.pointer (some ⟨vb, 0, none⟩))) rfl
    obtain ⟨g, rfl, _, c4⟩ := hO.at hkL
    have hst : p.maps.take (k + 1) = p.maps.take k ++ [p.maps[k]] := List.take_succ_eq_append_getElem hkL
    have hids := HID.out _ (List.getElem_mem hkL)
    have hcnt : (letsF F (p.maps.take k)).hd p.maps[k] ≠ 0 ∧ (letsF F (p.maps.take k)).hd p.maps[k] ≤ 1000000 := by
     rw [letsF_hd]
     have h1 := HH.out p.maps[k]
     have h2 : cntM p.maps p.maps[k] = cntM (p.maps.take k) p.maps[k] + cntM (p.maps.drop k) p.maps[k] := by
      rw [← cntM_app, List.take_append_drop]
     have h3 : 1 ≤ cntM (p.maps.drop k) p.maps[k] := by
      refine List.countP_pos_iff.2 ⟨p.maps[k], ?_, by simp⟩
      rw [List.mem_drop_iff_getElem]
      exact ⟨0, by simpa using hkL, by simp⟩
     have h4 : List.countP (fun z => decide (z = p.maps[k])) (p.maps.take k) = cntM (p.maps.take k) p.maps[k] := rfl
     omega
    have hls : letsF F (p.maps.take (k + 1)) = letF (letsF F (p.maps.take k)) p.maps[k] := by rw [hst, letsF_snoc]
    have hcall := at_vLetF HV.out p.maps[k] (by omega) (by omega) hcnt.1 hcnt.2 (by omega)
    rw [← hls] at hcall
    have HC := Lib.hid hcall
    clear hcall hst hids hcnt hls hO HV
    generalize p.maps[k] = i at c4 HC
    go_wp2_with (go_at_call 106; refine HC.out.mono ?_; rintro e w1 ⟨rfl, hv1, hy1⟩; have HV1 := Lib.hid hv1; have HY1 := Lib.hid (HY.out.trans hy1); clear hv1 hy1)
    go_roundw
    case rel => exact ⟨k + 1, by go_num, by omega, HV1, HY1⟩
    case measure => simp [intOf]; omega
  · have hke : k = m := by omega
    have hXE : p.maps.take k = p.maps := List.take_of_length_le (by have := HM.out; omega)
    have HV2 : Hid (VolK X wr vb db kb n (N + m) off top q (letsF F p.maps).m (letsF F p.maps).hd) := Lib.hid (by have := HV.out; rw [hXE, hke] at this; exact this)
    have hp3 : wr.heap[pb]? = some (.cells (procV p ⟨blk, ma, mc⟩) 128 (0, 0)) := KeepX.heap HY.out HP.out (by decide)
    have fP := blk_free hp3 2
    have cP := blk_cell hp3 2 (.slice ma p.maps.length mc) rfl
    have HP3 := Lib.hid hp3
    clear hXE hke HV hp3
    go_wp2_with fail
    go_end0
    rw [HR.out]
    have hset : Keep (· ≠ pb) wr (wr.setCell ⟨pb, 2, none⟩ (.slice none 0 0)) := (Keep.refl _ _).setCell (fun _ h => h) _ _
    refine ⟨rfl, ?_, ?_, (KeepH.of_keepY HY.out).trans (KeepH.of_blk (ro := none) hset) (fun x hx => by cases hx)⟩
    · rw [setCell_row HP3.out (i := 2) (.slice none 0 0)]
      unfold procV
      simp
    · have := HV2.out.keepT (KeepT.ne (ts := [128]) hset HP3.out (List.mem_singleton.2 rfl) HPL.out) (by decide)
      rw [HM.out] at this
      exact this
end
end Go.Proofs.YtefpllpichhojaaGreatDoor
