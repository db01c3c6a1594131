/- Several texts of mine, one behind the other: SysTurn, ProcMap, CloneI. -/
import Derived.Test.YtefpllpichhojaaGreatDoorProcTab
import Derived.Test.YtefpllpichhojaaGreatDoorProcSpawn
import Derived.Lib.Slices
import Derived.Shelf.Slices.Delete
import Derived.Test.YtefpllpichhojaaGreatDoorM5
namespace Go.Proofs.YtefpllpichhojaaGreatDoor
open Go.RowKit
variable [Low]
section
variable {X Y : Nat → Prop} {w w' : World} {tb vb db kb n N off top : Nat} {q : Int}
variable {F : FileS} {P : TabD}
def idF (m : RefD) (p : By) : Int := match entM m p with
 | none => 0
 | some e => e.id
theorem sys_find (hE : Env w) (h : SysP X w tb vb db kb n N off top q F P) (hN : N ≤ 1000000000) : ∃ rb, w.cell? ⟨vb, 0, none⟩ = some (.pointer (some ⟨rb, 0, none⟩)) ∧ ∀ p, Calls Tryz.prog 69 #[.pointer (some ⟨rb, 0, none⟩), .string (bs p)] w fun e w' => e = .returned (.tuple #[.int .i64 (idF F.m p), .bool (entM F.m p).isSome]) ∧ Ext w w' := by
 obtain ⟨pm, A, _, hv, _⟩ := h
 obtain ⟨rb, T, hc, hT, hL⟩ := hv.tree
 refine ⟨rb, hc, fun p => ?_⟩
 have h1 := at_Find p hE hT hN
 have h2 := hL.ent_find p
 have e1 : idF F.m p = findT T p := by
  unfold idF
  rw [h2]
  by_cases h0 : findT T p = 0
  · rw [if_pos h0, h0]
  · rw [if_neg h0]
 have e2 : (entM F.m p).isSome = decide (findT T p ≠ 0) := by
  rw [h2]
  by_cases h0 : findT T p = 0
  · simp [h0]
  · simp [h0]
 rw [e1, e2]
 exact h1
end
end Go.Proofs.YtefpllpichhojaaGreatDoor
namespace Go.Proofs.YtefpllpichhojaaGreatDoor
open Go.RowKit
theorem first_at {X : List Int} {x : Int} (h : x ∈ X) : ∃ k, ∃ hk : k < X.length, X[k] = x ∧ (∀ j, j < k → X.getD j 0 ≠ x) ∧ X.erase x = X.take k ++ X.drop (k + 1) := by
 induction X with
 | nil => exact absurd h List.not_mem_nil
 | cons y X ih =>
   by_cases e : y = x
   · subst e
     exact ⟨0, by simp, rfl, fun j hj => absurd hj (Nat.not_lt_zero j), by simp⟩
   · rcases List.mem_cons.1 h with h | h
     · exact absurd h.symm e
     · obtain ⟨k, hk, h1, h2, h3⟩ := ih h
       refine ⟨k + 1, by simpa using hk, h1, fun j hj => ?_, ?_⟩
       · cases j with
         | zero => simpa using e
         | succ j => simpa using h2 j (by omega)
       · rw [List.erase_cons_tail (by simpa using e), h3]
         rfl
theorem own_cut {w : World} {base E g c n : Nat} {us vs : List Value} (h : w.ownsRow base E 1 (.slice (some ⟨g, 0, none⟩) n c) n us) (hv : vs.length = n) {k : Nat} (hk : k ≤ n) :
 (w.setCells g 0 vs).ownsRow base E 1 (.slice (some ⟨g, 0, none⟩) k c) k (vs.take k) ∧ Keep (· ≠ g) w (w.setCells g 0 vs) := by
 rcases h.2 with ⟨h1, _⟩ | ⟨g', c', cur, h1, hb, hg, hn, hm, hs, ht⟩
 · cases h1
 · obtain ⟨rfl, rfl⟩ : g = g' ∧ c = c' := by
    injection h1 with e1 _ e2
    injection (Option.some.inj e1) with e3
    exact ⟨e3, e2⟩
   refine ⟨⟨by rw [List.length_take]; omega, ?_⟩, setCells_keep vs 0 w⟩
   obtain ⟨cs, hc, hcs⟩ := setCells_blk vs 0 w ⟨cur, hg, rfl⟩
   refine Or.inr ⟨g, c, cs, rfl, hb, hc, by omega, hm, by rw [hcs]; exact hs, ?_⟩
   have hth : w.there g 0 vs.length := fun j hj => by
    rw [Nat.zero_add]
    refine ⟨?_, blk_free hg j⟩
    rw [cell_of_row _ _ _ _ _ _ hg]
    have : j < cur.size := by omega
    simp [this]
   have hr := World.rangeAt_setCells_same w g 0 vs hth
   apply List.ext_getElem?
   intro j
   rw [Nat.mul_one, List.getElem?_take, List.getElem?_take]
   by_cases hj : j < k
   · rw [if_pos hj, if_pos hj]
     have hjv : j < vs.length := by omega
     have := hr j vs[j] (List.getElem?_eq_getElem hjv)
     rw [Nat.zero_add, cell_of_row _ _ _ _ _ _ hc] at this
     rw [List.getElem?_eq_getElem hjv, ← this]
     simp
   · rw [if_neg hj, if_neg hj]
variable [Low]
def mapF (F : FileS) (P : TabD) (i : Int) (s : By) : (FileS × TabD) × Int := match getP P i with
 | none => ((F, P), 8)
 | some p => if 8 ≤ p.maps.length then ((F, P), 22) else ((heldF F s, if (holdF F.m s).2 = 0 then setP P i { p with maps := gotM F.m p.maps s } else P), (holdF F.m s).2)
def unmapF (F : FileS) (P : TabD) (i f : Int) : (FileS × TabD) × Int := match getP P i with
 | none => ((F, P), 8)
 | some p => if f ∈ p.maps then ((letF F f, setP P i { p with maps := p.maps.erase f }), 0) else ((F, P), 8)
section
variable {X : Nat → Prop} {w w' : World} {tb pm vb db kb n N off top : Nat} {q : Int} {F : FileS} {P : TabD} {A : Int → ProcA}
theorem ProcB.others (h : ProcB X w tb pm vb N P A) {p : ProcD} (hp : p ∈ P.list) : CellH (AndM X pm) (A p.pid).blk (A p.pid).ma w tb ∧ CellH (AndM X pm) (A p.pid).blk (A p.pid).ma w pm ∧ ∀ r ∈ P.list, r.pid ≠ p.pid → CellH (AndM X pm) (A p.pid).blk (A p.pid).ma w (A r.pid).blk ∧ ∀ a, (A r.pid).ma = some a → CellH (AndM X pm) (A p.pid).blk (A p.pid).ma w a.block := by
 have hpb := (h.proc p hp).1
 obtain ⟨es, cl, hmb⟩ := h.mapblk
 have hint : ∀ {x : Addr}, (A p.pid).ma = some x → ∃ cs, w.heap[x.block]? = some (.cells cs 3 (0, 0)) := fun hx => by
  obtain ⟨_, _, cs, hc⟩ := (h.proc p hp).2.block hx
  exact ⟨cs, hc⟩
 refine ⟨⟨Or.inr (Or.inr ⟨_, _, _, h.top, by decide⟩), apart_types h.top hpb (by decide), fun x hx => ?_⟩, ⟨Or.inr (Or.inl ⟨Or.inr rfl, es, cl, hmb⟩), fun e => (by rw [← e, hmb] at hpb; cases hpb), fun x hx e => ?_⟩, fun r hr hne => ⟨⟨Or.inr (Or.inr ⟨_, _, _, (h.proc r hr).1, by decide⟩), fun e => hne (h.blk r hr p hp e), fun x hx => ?_⟩, fun a ha => ?_⟩⟩
 · obtain ⟨cs, hc⟩ := hint hx
   exact apart_types h.top hc (by decide)
 · obtain ⟨cs, hc⟩ := hint hx
   rw [← e, hmb] at hc; cases hc
 · obtain ⟨cs, hc⟩ := hint hx
   exact apart_types (h.proc r hr).1 hc (by decide)
 · obtain ⟨_, _, cs, hc⟩ := (h.proc r hr).2.block ha
   refine ⟨Or.inr (Or.inr ⟨_, _, _, hc, by decide⟩), apart_types hc hpb (by decide), fun x hx e => hne (h.row r hr p hp a x ha hx e)⟩
set_option maxRecDepth 100000 in
set_option maxHeartbeats 6400000 in
theorem proc_Map (hE : EnvL w) (h : SysP X w tb vb db kb n N off top q F P) (hlw : Low.low ≤ w.heap.size) (i : Int) (h1 : -9223372036854775808 ≤ i) (h2 : i ≤ 9223372036854775807) (s : By) (hN : N + 1 ≤ 1000000000) :
 Calls Tryz.prog 16 #[.pointer (some ⟨tb, 0, none⟩), .int .i64 i, .string (bs s)] w fun e w' => e = .returned (.int .i64 (mapF F P i s).2) ∧ SysP X w' tb vb db kb n (N + 1) off top q (mapF F P i s).1.1 (mapF F P i s).1.2 ∧ KeepP X w w' := by
 obtain ⟨R, hR⟩ : ∃ R : Ending → World → Prop, R = fun e w' => e = .returned (.int .i64 (mapF F P i s).2) ∧ SysP X w' tb vb db kb n (N + 1) off top q (mapF F P i s).1.1 (mapF F P i s).1.2 ∧ KeepP X w w' := ⟨_, rfl⟩
 rw [← hR]
 have HR := Lib.hid hR; clear hR
 have HS := Lib.hid h
 obtain ⟨pm, A, hb, hv, hh⟩ := h
 have c1 := blk_cell hb.top 1 (.map (some pm)) rfl
 have hlk := hb.map.lookup int_keyedA Tryz.underlying133 (Tryz.zeroValue139 w) (key_int h1 h2)
 cases hg : getP P i with
 | none =>
   rw [procF_none hg] at hlk
   have he : mapF F P i s = ((F, P), 8) := by unfold mapF; rw [hg]
   have HE := Lib.hid he
   clear he hb hv hh hg hE
   dsimp only [Option.getD] at hlk
   go_enter Tryz.func16, Tryz.ntmps16
   go_wp2_with fail
   rw [HR.out, HE.out]
   exact ⟨rfl, HS.out.mono (by omega), KeepP.refl _ _⟩
 | some p =>
   rw [procF_some hg] at hlk
   obtain ⟨hp, rfl⟩ := getP_some hg
   have c2 := blk_cell (hb.proc p hp).1 2 (.slice (A p.pid).ma p.maps.length (A p.pid).mc) rfl
   by_cases h8 : 8 ≤ p.maps.length
   · have he : mapF F P p.pid s = ((F, P), 22) := by unfold mapF; rw [hg]; exact if_pos h8
     have HE := Lib.hid he
     have hd : decide ((8 : Int) ≤ (p.maps.length : Int)) = true := by simp; omega
     clear he hb hv hh hg hE hp
     dsimp only [Option.getD] at hlk
     go_enter Tryz.func16, Tryz.ntmps16
     go_wp2_with fail
     rw [HR.out, HE.out]
     exact ⟨rfl, HS.out.mono (by omega), KeepP.refl _ _⟩
   · have he : mapF F P p.pid s = ((heldF F s, if (holdF F.m s).2 = 0 then setP P p.pid { p with maps := gotM F.m p.maps s } else P), (holdF F.m s).2) := by unfold mapF; rw [hg]; exact if_neg h8
     have hd : decide ((8 : Int) ≤ (p.maps.length : Int)) = false := by simp; omega
     have hcall := proc_hold hE hb.top (hb.proc p hp).1 (hb.proc p hp).2 hv s (Nat.le_refl _) hlw (hb.lows.2.2 p hp) hN (fun i => by have := hh.le hb.good i; omega) (by omega)
     have hoth := hb.others hp
     have hgid := fun hz => hv.hold_id (p := s) hz
     have HE := Lib.hid he; have HB := Lib.hid hb; have HH := Lib.hid hh; have HPM := Lib.hid hp; have HC := Lib.hid hcall; have HO := Lib.hid hoth; have HGI := Lib.hid hgid; have H8 := Lib.hid h8
     clear he hb hv hh hg hE hp hcall hoth hgid h8
     dsimp only [Option.getD] at hlk
     go_enter Tryz.func16, Tryz.ntmps16
     go_wp2_with (go_at_call 71; refine HC.out.mono ?_; rintro e w1 ⟨A1, rfl, hp1, hr1, hv1, hk1, hf1⟩)
     rw [HR.out, HE.out]
     have hB := HB.out
     have hpb := hB.proc p HPM.out
     have hh := HH.out
     have h8 := H8.out
     have hkp : KeepP X w w1 := KeepH.toP (X := X) hk1 (fun g hg => Or.inl hg) ⟨_, _, hpb.1⟩ (hB.apart.2 p HPM.out) (hB.lows.2.2 p HPM.out) fun x hx => by
      obtain ⟨q1, _, cs, hc⟩ := hpb.2.block hx
      exact ⟨q1, hB.out.2.1 p HPM.out x hx, cs, hc⟩
     by_cases hz : (holdF F.m s).2 = 0
     · have hgot : gotM F.m p.maps s = p.maps ++ [(holdF F.m s).1] := by unfold gotM; rw [if_pos hz]
       have hid := HGI.out hz
       have hturn := hB.turn (p' := { p with maps := gotM F.m p.maps s }) (A' := ⟨(A p.pid).blk, A1.ma, A1.mc⟩) hk1 HO.out.1 HO.out.2.1 HPM.out rfl HO.out.2.2 rfl hp1 hr1 hf1 (by show (gotM F.m p.maps s).length ≤ 8; rw [hgot, List.length_append, List.length_singleton]; omega) (fun j hj => by
        have hj : j ∈ gotM F.m p.maps s := hj
        rw [hgot] at hj
        rcases List.mem_append.1 hj with hj | hj
        · exact hB.ids p HPM.out j hj
        · rw [List.mem_singleton.1 hj]; omega)
       rw [if_pos hz]
       refine ⟨rfl, ⟨pm, _, hturn.mono (by omega), hv1, fun j => ?_⟩, hkp⟩
       have hc := cntP_set hB.good HPM.out (p' := { p with maps := gotM F.m p.maps s }) rfl j
       have h5 := hh j
       show (heldF F s).hd j = cntP (setP P p.pid { p with maps := gotM F.m p.maps s }) j
       have e1 : (heldF F s).hd j = F.hd j + cntM [(holdF F.m s).1] j := by
        unfold heldF
        rw [if_pos hz]
        unfold incF cntM
        by_cases hj : j = (holdF F.m s).1
        · simp [hj]
        · have : ¬ (holdF F.m s).1 = j := fun e => hj e.symm
          simp [hj, this]
       have e2 : cntM ({ p with maps := gotM F.m p.maps s } : ProcD).maps j = cntM p.maps j + cntM [(holdF F.m s).1] j := by
        show cntM (gotM F.m p.maps s) j = _
        rw [hgot, cntM_app]
       omega
     · have hgot : gotM F.m p.maps s = p.maps := by unfold gotM; rw [if_neg hz]
       have hheld : heldF F s = F := by unfold heldF; rw [if_neg hz]
       rw [if_neg hz, hheld]
       rw [hheld] at hv1
       rw [hgot] at hp1 hr1
       have hturn := hB.turn (p' := p) (A' := ⟨(A p.pid).blk, A1.ma, A1.mc⟩) hk1 HO.out.1 HO.out.2.1 HPM.out rfl HO.out.2.2 rfl hp1 hr1 hf1 (hB.good.maps p HPM.out) (hB.ids p HPM.out)
       have hself : setP P p.pid p = P := by
        unfold setP
        have : (P.list.map fun q => if q.pid = p.pid then p else q) = P.list := by
         conv => rhs; rw [← List.map_id P.list]
         refine List.map_congr_left fun q hq => ?_
         by_cases e : q.pid = p.pid
         · rw [if_pos e, hB.good.inj HPM.out hq e.symm]; rfl
         · rw [if_neg e]; rfl
        rw [this]
       rw [hself] at hturn
       exact ⟨rfl, ⟨pm, _, hturn.mono (by omega), hv1, hh⟩, hkp⟩
end
end Go.Proofs.YtefpllpichhojaaGreatDoor
namespace Go.Proofs.YtefpllpichhojaaGreatDoor
open Go.RowKit
theorem OwnIs.runI {w : World} {base : Nat} {a : Option Addr} {c : Nat} {X : List Int} (h : OwnIs w base a c X) : RunM w a (intV X) := by
 obtain ⟨a', c', hv, _, hr, _⟩ := run_of_row h
 cases hv
 exact hr
def CloneI (l : List Int) (w : World) (e : Ending) (w' : World) : Prop := ∃ a c, e = .returned (.slice a l.length c) ∧ OwnIs w' w.heap.size a c l ∧ Ext w w'
set_option maxRecDepth 100000 in
set_option maxHeartbeats 1600000 in
theorem clone_i (a : Option Addr) (c : Nat) (l : List Int) (w : World) (hB : RunM w a (intV l)) (hl : l.length ≤ 100000) :
 Calls Tryz.prog 115 #[.slice a l.length c] w (CloneI l w) := by
 have h : RunM w a (intV l) := hB
 have hn : (intV l).length = l.length * 1 := by simp [intV]
 have h1 : ∀ u ∈ intV l, u.oneCell' = true := intV_one l
 obtain ⟨n, hnn⟩ : ∃ n, n = l.length := ⟨_, rfl⟩
 rw [← hnn] at hn hl ⊢
 have HNN := Lib.hid hnn; clear hnn
 obtain ⟨us, hus⟩ : ∃ us, us = intV l := ⟨_, rfl⟩
 rw [← hus] at h hn h1
 have HUS := Lib.hid hus; clear hus hB
 obtain ⟨R, hR⟩ : ∃ R, R = CloneI l w := ⟨_, rfl⟩
 rw [← hR]
 have HR := Lib.hid hR; clear hR
 have q24 : ∀ (w : World) (a : Option Addr) (n c n' c' : Nat), (binOp .eql 34 (.slice a n c) (.slice none n' c')).run Tryz.prog w = .ok (.bool a.isNone) w := fun w a n c n' c' => Lib.run_eql_slice_nil w _ _ a n c n' c' Tryz.underlying34
 have HH := Lib.hid h; clear h
 have HN := Lib.hid hn; clear hn
 cases a with
 | none =>
   go_enter Tryz.func115, Tryz.ntmps115
   go_wp2
   rw [HR.out]
   have hn0 : us = [] := by
    rcases HH.out with h | ⟨_, _, ha, _⟩
    · exact h
    · cases ha
   have hz : n = 0 := by have := HN.out; rw [hn0] at this; simp at this; omega
   subst hz
   have hl0 : l = [] := by have := HUS.out; rw [hn0] at this; simpa [intV] using this.symm
   subst hl0
   exact ⟨none, 0, rfl, OwnIs.none _ _, Ext.refl _⟩
 | some ad =>
   obtain ⟨i0, hi, hz, hsz, hby⟩ := info_parts info_intL
   have HI := Lib.hid hi; clear hi
   have HZ := Lib.hid hz; clear hz
   have HS := Lib.hid hsz; clear hsz
   have HB := Lib.hid hby; clear hby
   have hpl := (HH.out.ext (Ext.alloc w (.cells #[] 3))).plain
   have HP := Lib.hid hpl; clear hpl
   go_enter Tryz.func115, Tryz.ntmps115
   go_wp2_with (at_builtin; (refine wpList_append_own _ rfl _ _ 34 rfl w.heap.size 3 i0 (.int .i64 0) 1 8 Tryz.underlying34 HI.out HZ.out HS.out HB.out rfl (by decide) (.slice (some ⟨w.heap.size, 0, none⟩) 0 0) 0 [] rfl (World.ownsRow_made w #[] 0 (Nat.le_refl _) (Nat.zero_le _) rfl) ad n c us rfl HN.out HP.out h1 (by unfold maxLen; omega) (by omega) (by simp) ?_); intro v' w1 hown hgrow hnil)
   simp only [Nat.zero_add, List.nil_append] at hown
   rw [HUS.out] at hown
   obtain ⟨a', c', rfl, hc', hrun, hfr⟩ := run_of_row hown
   have HX := Lib.hid (((Below.refl _ w).alloc (Nat.le_refl _) _).grown hgrow (by simp) (by intro k hk; simp [Value.ownBlock] at hk; omega))
   rw [HR.out]
   have hnn := HNN.out
   subst hnn
   exact ⟨a', c', rfl, hown, HX.out⟩
end Go.Proofs.YtefpllpichhojaaGreatDoor
