/- Several texts of mine, one behind the other: MgrOf, SysTurn, MgrSet, MgrMet. -/
import Derived.Test.YtefpllpichhojaaGreatDoorM3
import Derived.Test.YtefpllpichhojaaGreatDoorGraphNew
import Derived.Shelf.SlIter.Nil
import Derived.Shelf.SortM.Plain
import Derived.Shelf.SortM.SortNone
import Derived.Shelf.AbstractIn
namespace Go.Proofs.YtefpllpichhojaaGreatDoor
open Go.RowKit
variable [Low]
section
variable {X : Nat → Prop} {w w' : World} {mb tb gb lm N : Nat} {la : Option Addr} {lc : Nat} {M : MgrD} {A : Bs → StA}
theorem MgrB.keep {S : Nat → Prop} (h : MgrB X w mb tb gb lm N la lc M A) (k : Keep S w w') (h1 : S mb) (h2 : S lm) (h3 : ∀ n s, M.list n = some s → S (A n).blk ∧ ∀ a, (A n).fa = some a → S a.block) (h4 : ∀ a, la = some a → S a.block) : MgrB X w' mb tb gb lm N la lc M A :=
 ⟨k.heap h1 h.top, h.map.keep k h2, fun n s hs => ⟨k.heap (h3 n s hs).1 (h.st n s hs).1, ownsRow_keep (h.st n s hs).2.1 k (fun g cur hv _ _ => by
  obtain ⟨z, hz, e⟩ := ownBlock_some (g := g) (by rw [hv])
  rw [e]; exact (h3 n s hs).2 z hz), (h.st n s hs).2.2⟩, h.blk, ownsRow_keep h.log k (fun g cur hv _ _ => by
  obtain ⟨z, hz, e⟩ := ownBlock_some (g := g) (by rw [hv])
  rw [e]; exact h4 z hz), ⟨h.out.1, h.out.2.1, h.out.2.2.1, h.out.2.2.2.1, fun g hg => Nat.lt_of_lt_of_le (h.out.2.2.2.2 g hg) k.size⟩, h.lows, h.small⟩
theorem MgrB.ext (h : MgrB X w mb tb gb lm N la lc M A) (k : Ext w w') : MgrB X w' mb tb gb lm N la lc M A :=
 h.keep (Keep.of_ext (S := fun _ => True) k) trivial trivial (fun _ _ _ => ⟨trivial, fun _ _ => trivial⟩) fun _ _ => trivial
theorem MgrB.mono (h : MgrB X w mb tb gb lm N la lc M A) {K : Nat} (hK : N ≤ K) : MgrB X w mb tb gb lm K la lc M A :=
 ⟨h.top, h.map.mono hK, fun n s hs => by obtain ⟨h1, h2, h3, h4, h5, h6⟩ := h.st n s hs; exact ⟨h1, h2, h3, by omega, h5, by omega⟩, h.blk, h.log, h.out, h.lows, h.small⟩
theorem MgrB.logBlk (h : MgrB X w mb tb gb lm N la lc M A) {x : Addr} (hx : la = some x) : Low.low ≤ x.block ∧ ∃ cs, w.heap[x.block]? = some (.cells cs 108 (0, 0)) := by
 rcases h.log.2 with ⟨h1, _⟩ | ⟨g, c', cur, h1, hb, hg, _⟩
 · rw [(Value.slice.inj h1).1] at hx; cases hx
 · rw [(Value.slice.inj h1).1] at hx
   cases hx
   exact ⟨hb, cur, hg⟩
theorem MgrB.keepP (h : MgrB X w mb tb gb lm N la lc M A) (k : KeepP (AndM X lm) w w') : MgrB X w' mb tb gb lm N la lc M A := by
 refine h.keep k (Or.inr (Or.inr ⟨_, _, _, h.top, by decide⟩)) (Or.inr (Or.inl ⟨Or.inr rfl, Or.inl h.map.block⟩)) (fun n s hs => ⟨Or.inr (Or.inr ⟨_, _, _, (h.st n s hs).1, by decide⟩), fun a ha => ?_⟩) fun a ha => ?_
 · obtain ⟨_, cs, hc⟩ := (h.st n s hs).2.1.blk ha
   exact Or.inr (Or.inr ⟨_, _, _, hc, by decide⟩)
 · obtain ⟨_, cs, hc⟩ := h.logBlk ha
   exact Or.inr (Or.inr ⟨_, _, _, hc, by decide⟩)
omit [Low] in
theorem stF_none {n : Bs} (h : M.list n = none) : stF M A n = none := by unfold stF; rw [h]; rfl
omit [Low] in
theorem stF_some {n : Bs} {s : StD} (h : M.list n = some s) : stF M A n = some (.pointer (some ⟨(A n).blk, 0, none⟩)) := by unfold stF; rw [h]; rfl
def StateR (M : MgrD) (A : Bs → StA) (n : Bs) (w : World) (e : Ending) (w' : World) : Prop :=
 ∃ p B, e = .returned (.pointer (some ⟨p, 0, none⟩)) ∧ w'.heap[p]? = some (.cells (stV (stM M n) B) 156 (0, 0)) ∧ ((∃ s, M.list n = some s ∧ p = (A n).blk ∧ B = A n) ∨ (M.list n = none ∧ w.heap.size ≤ p ∧ B = ⟨p, none, 0⟩)) ∧ Ext w w'
set_option maxRecDepth 100000 in
set_option maxHeartbeats 1600000 in
theorem mgr_of (h : MgrB X w mb tb gb lm N la lc M A) (n : Bs) (hn : n.length ≤ 100000) :
 Calls Tryz.prog 85 #[.pointer (some ⟨mb, 0, none⟩), .string (bs n)] w (StateR M A n w) := by
 obtain ⟨R, hR⟩ : ∃ R, R = StateR M A n w := ⟨_, rfl⟩
 rw [← hR]
 have HR := Lib.hid hR; clear hR
 have c2 := blk_cell h.top 2 (.map (some lm)) rfl
 have hlk := h.map.lookup str_keyed Tryz.underlying103 (Tryz.zeroValue153 w) (key_by hn)
 cases hg : M.list n with
 | none =>
   rw [stF_none hg] at hlk
   dsimp only [Option.getD] at hlk
   have HG := Lib.hid hg; clear hg h
   have hb := heap_alloc_new w (.cells (stV offD ⟨w.heap.size, none, 0⟩) 156)
   go_enter Tryz.func85, Tryz.ntmps85
   go_wp2_with fail
   rw [HR.out]
   exact ⟨w.heap.size, ⟨w.heap.size, none, 0⟩, rfl, by rw [stM_none HG.out]; exact hb, Or.inr ⟨HG.out, Nat.le_refl _, rfl⟩, Ext.alloc _ _⟩
 | some s =>
   rw [stF_some hg] at hlk
   dsimp only [Option.getD] at hlk
   have HG := Lib.hid hg; have HS := Lib.hid (h.st n s hg).1
   clear hg h
   go_enter Tryz.func85, Tryz.ntmps85
   go_wp2_with fail
   rw [HR.out]
   exact ⟨(A n).blk, A n, rfl, by rw [stM_some HG.out]; exact HS.out, Or.inl ⟨s, HG.out, rfl, rfl⟩, Ext.refl _⟩
theorem mgr_State (h : MgrB X w mb tb gb lm N la lc M A) (n : Bs) (hn : n.length ≤ 100000) :
 Calls Tryz.prog 54 #[.pointer (some ⟨mb, 0, none⟩), .string (bs n)] w fun e w' => e = .returned (.int .i64 ((stM M n).st : Nat)) ∧ Ext w w' := by
 obtain ⟨R, hR⟩ : ∃ R : Ending → World → Prop, R = fun e w' => e = .returned (.int .i64 ((stM M n).st : Nat)) ∧ Ext w w' := ⟨_, rfl⟩
 rw [← hR]
 have HR := Lib.hid hR; clear hR
 have HO := Lib.hid (mgr_of h n hn); clear h
 go_enter Tryz.func54, Tryz.ntmps54
 go_wp2_with (go_at_call 85; refine HO.out.mono ?_; rintro e w1 ⟨p, B, rfl, hb, _, hx⟩; have c0 := blk_cell hb 0 (.int .i64 ((stM M n).st : Nat)) rfl; have HX := Lib.hid hx; clear hb hx)
 rw [HR.out]
 exact ⟨rfl, HX.out⟩
theorem mgr_Pid (h : MgrB X w mb tb gb lm N la lc M A) (n : Bs) (hn : n.length ≤ 100000) :
 Calls Tryz.prog 52 #[.pointer (some ⟨mb, 0, none⟩), .string (bs n)] w fun e w' => e = .returned (.int .i64 (stM M n).pid) ∧ Ext w w' := by
 obtain ⟨R, hR⟩ : ∃ R : Ending → World → Prop, R = fun e w' => e = .returned (.int .i64 (stM M n).pid) ∧ Ext w w' := ⟨_, rfl⟩
 rw [← hR]
 have HR := Lib.hid hR; clear hR
 have HO := Lib.hid (mgr_of h n hn); clear h
 go_enter Tryz.func52, Tryz.ntmps52
 go_wp2_with (go_at_call 85; refine HO.out.mono ?_; rintro e w1 ⟨p, B, rfl, hb, _, hx⟩; have c1 := blk_cell hb 1 (.int .i64 (stM M n).pid) rfl; have HX := Lib.hid hx; clear hb hx)
 rw [HR.out]
 exact ⟨rfl, HX.out⟩
theorem mgr_Has (h : MgrB X w mb tb gb lm N la lc M A) (n : Bs) (hn : n.length ≤ 100000) (hf : (stM M n).files.length ≤ 100000) :
 Calls Tryz.prog 59 #[.pointer (some ⟨mb, 0, none⟩), .string (bs n)] w (NamesG (stM M n).files w) := by
 obtain ⟨R, hR⟩ : ∃ R, R = NamesG (stM M n).files w := ⟨_, rfl⟩
 rw [← hR]
 have HR := Lib.hid hR; clear hR
 have HO := Lib.hid (mgr_of h n hn)
 have hst : ∀ W p B, Ext w W → ((∃ s, M.list n = some s ∧ p = (A n).blk ∧ B = A n) ∨ (M.list n = none ∧ w.heap.size ≤ p ∧ B = ⟨p, none, 0⟩)) → Strs W B.fa (stM M n).files := fun W p B kk hB => by
  rcases hB with ⟨s, hs, rfl, rfl⟩ | ⟨hs, _, rfl⟩
  · rw [stM_some hs]
    exact (OwnS.strs ((h.st n s hs).2.1.ext kk)).1
  · rw [stM_none hs]
    exact Strs.nil _ _
 obtain ⟨fs, hfs⟩ : ∃ fs, fs = (stM M n).files := ⟨_, rfl⟩
 rw [← hfs] at HR hst hf
 have HFS := Lib.hid hfs; have HST := Lib.hid hst
 clear h hfs hst
 go_enter Tryz.func59, Tryz.ntmps59
 go_wp2_with (first
  | (go_at_call 85; refine HO.out.mono ?_; rintro e w1 ⟨p, B, rfl, hb, hB, hx⟩; have c2 : w1.cell? ⟨p, 2, none⟩ = some (.slice B.fa fs.length B.fc) := (by rw [HFS.out]; exact blk_cell hb 2 _ rfl); have HX := Lib.hid hx; have HC := Lib.hid (clone_ts B.fa B.fc fs w1 (strs_runS.1 (HST.out w1 p B hx hB)) hf); clear hb hx hB)
  | (go_at_call 88; refine HC.out.mono ?_; rintro e w2 ⟨a, c, rfl, hO, hc, hx2⟩; have HO2 := Lib.hid hO; have HX2 := Lib.hid hx2; have HCC := Lib.hid hc; clear hO hx2 hc))
 rw [HR.out]
 exact ⟨a, c, rfl, HO2.out.base2 HX.out.size, HCC.out, HX.out.trans HX2.out⟩
omit [Low] in
theorem info_event : (Tryz.prog.info? 108).map (fun i => (i.zero, i.size, i.bytes)) = some (some (.agg #[.int .i64 0, .string ⟨#[]⟩]), 2, 24) := by kernel_rfl
set_option maxRecDepth 100000 in
set_option maxHeartbeats 3200000 in
theorem mgr_happen (h : MgrB X w mb tb gb lm N la lc M A) (k : Nat) (n : Bs) (hl : M.log.length ≤ 1000000) (hlw : Low.low ≤ w.heap.size) :
 Calls Tryz.prog 87 #[.pointer (some ⟨mb, 0, none⟩), .int .i64 (k : Int), .string (bs n)] w fun e w' => e = .returned (.tuple #[]) ∧ ∃ la' lc', MgrB X w' mb tb gb lm N la' lc' (logM M k n) A ∧ Keep (fun g => g ≠ mb ∧ ∀ x, la = some x → g ≠ x.block) w w' := by
 obtain ⟨R, hR⟩ : ∃ R : Ending → World → Prop, R = fun e w' => e = .returned (.tuple #[]) ∧ ∃ la' lc', MgrB X w' mb tb gb lm N la' lc' (logM M k n) A ∧ Keep (fun g => g ≠ mb ∧ ∀ x, la = some x → g ≠ x.block) w w' := ⟨_, rfl⟩
 rw [← hR]
 have HR := Lib.hid hR; clear hR
 obtain ⟨ln, hln⟩ : ∃ ln, ln = M.log.length := ⟨_, rfl⟩
 have htop := h.top
 have hlog := h.log
 rw [← hln] at htop hlog hl
 have c3 := blk_cell htop 3 (.slice la ln lc) rfl
 have hx1 := Ext.alloc w (.cells #[.int .i64 (k : Int), .string (bs n)] 108)
 have hb1 := heap_alloc_new w (.cells #[.int .i64 (k : Int), .string (bs n)] 108)
 have hmne : ∀ x, la = some x → mb ≠ x.block := fun x hx e => by
  obtain ⟨_, cs, hc⟩ := h.logBlk hx
  rw [← e, h.top] at hc
  injection (Option.some.inj hc) with _ h3
  exact absurd h3 (by decide)
 have HH := Lib.hid h; have HLN := Lib.hid hln; have HTOP := Lib.hid htop; have HLOG := Lib.hid hlog; have HX1 := Lib.hid hx1; have HB1 := Lib.hid hb1; have HMN := Lib.hid hmne; have HLW := Lib.hid hlw
 clear h hln htop hlog hx1 hb1 hmne hlw
 go_enter Tryz.func87, Tryz.ntmps87
 go_wp2_with (at_builtin; refine wpList_append_at rfl _ _ 104 108 (.agg #[.int .i64 0, .string ⟨#[]⟩]) 2 24 rfl Tryz.underlying104 info_event rfl (by decide) Low.low la ln lc (M.log.flatMap evV) rfl (ownsRow_ext HLOG.out HX1.out) ⟨w.heap.size, 0, none⟩ 1 1 (evV (k, n)) rfl rfl (run_blk HB1.out) (by intro u hu; simp only [evV, List.mem_cons, List.not_mem_nil, or_false] at hu; rcases hu with rfl | rfl <;> rfl) (by omega) (by decide) (Nat.le_trans HLW.out HX1.out.size) (ln + 1) rfl ?_; intro la2 lc2 w2 hown hk2 hat; have hmb2 := hk2.heap (fun e => by (obtain ⟨z, hz, e3⟩ := ownBlock_some e.symm; exact HMN.out z hz e3)) (HX1.out.heap HTOP.out); have c32 := blk_cell hmb2 3 (.slice la ln lc) rfl; have f32 := blk_free hmb2 3; have HOWN := Lib.hid hown; have HK2 := Lib.hid hk2; have HAT := Lib.hid hat; have HMB2 := Lib.hid hmb2; clear hown hk2 hat hmb2)
 go_end0
 rw [HR.out]
 have h := HH.out
 have hks : Keep (· ≠ mb) w2 (w2.setCell ⟨mb, 3, none⟩ (.slice la2 (ln + 1) lc2)) := (Keep.refl _ _).setCell (fun _ h => h) _ _
 have htf := setCell_row (i := 3) HMB2.out (.slice la2 (ln + 1) lc2)
 generalize w2.setCell ⟨mb, 3, none⟩ (.slice la2 (ln + 1) lc2) = wf at hks htf ⊢
 have hnt : ∀ g cs t fr, w2.heap[g]? = some (.cells cs t fr) → t ≠ 106 → g ≠ mb := fun g cs t fr hg ht e => by
  rw [e, HMB2.out] at hg
  injection (Option.some.inj hg) with _ h3
  exact ht h3.symm
 have hev : ∀ g cs t fr, w.heap[g]? = some (.cells cs t fr) → t ≠ 108 → ∀ x, la = some x → g ≠ x.block := fun g cs t fr hg ht x hx e => by
  obtain ⟨_, cs', hc⟩ := h.logBlk hx
  rw [e, hc] at hg
  injection (Option.some.inj hg) with _ h3
  exact ht h3.symm
 have hka : Keep (fun g => ∀ x, la = some x → g ≠ x.block) w w2 := (Keep.of_ext HX1.out).trans (HK2.out.mono fun g _ hg e => by
  obtain ⟨z, hz, e3⟩ := ownBlock_some e.symm
  exact hg z hz e3)
 have hkb : Keep (fun g => g ≠ mb ∧ ∀ x, la = some x → g ≠ x.block) w wf := (hka.mono fun g _ hg => hg.2).trans (hks.mono fun g _ hg => hg.1)
 refine ⟨rfl, la2, lc2, ⟨?_, h.map.keep hkb ⟨fun e => ?_, fun x hx e => ?_⟩, fun z s hs => ?_, h.blk, ?_, ⟨h.out.1, h.out.2.1, h.out.2.2.1, fun y hy => ?_, fun g hg => Nat.lt_of_lt_of_le (h.out.2.2.2.2 g hg) hkb.size⟩, h.lows, h.small⟩, hkb⟩
 · have e : (logM M k n).log.length = ln + 1 := by unfold logM; rw [List.length_append, HLN.out]; rfl
   rw [e]
   exact htf
 · obtain ⟨es, cl, hm⟩ := h.map.block
   rw [e, h.top] at hm; cases hm
 · obtain ⟨es, cl, hm⟩ := h.map.block
   obtain ⟨_, cs, hc⟩ := h.logBlk hx
   rw [e, hc] at hm; cases hm
 · obtain ⟨h1, h2, h3⟩ := h.st z s hs
   refine ⟨hkb.heap ⟨fun e => ?_, hev _ _ _ _ h1 (by decide)⟩ h1, OwnS.keep h2 hkb fun g cs hg => ⟨fun e => ?_, hev _ _ _ _ hg (by decide)⟩, h3⟩
   · rw [e, h.top] at h1
     injection (Option.some.inj h1) with _ h3
     exact absurd h3 (by decide)
   · rw [e, h.top] at hg
     injection (Option.some.inj hg) with _ h3
     exact absurd h3 (by decide)
 · have e : (logM M k n).log.length = ln + 1 := by unfold logM; rw [List.length_append, HLN.out]; rfl
   rw [e]
   have e2 : (logM M k n).log.flatMap evV = M.log.flatMap evV ++ evV (k, n) := by unfold logM; simp
   rw [e2]
   exact ownsRow_keep HOWN.out hks fun g cur _ _ hg => hnt g cur _ _ hg (by decide)
 · rcases HAT.out y hy with ⟨z, hz, e⟩ | e
   · rw [e]; exact h.out.2.2.2.1 z hz
   · intro hx
     have := h.out.2.2.2.2 _ hx
     have := HX1.out.size
     omega
end
end Go.Proofs.YtefpllpichhojaaGreatDoor
namespace Go.Proofs.YtefpllpichhojaaGreatDoor
open Go.RowKit
variable [Low]
section
variable {X Y : Nat → Prop} {w w' : World} {tb vb db kb n N off top : Nat} {q : Int}
theorem VolM.grow {ts : List TypeId} {V : VolD} (h : VolM X w vb db kb n N V) (k : KeepT ts w w') (ht : ∀ t ∈ ts, t ∉ 199 :: 5 :: volT) (hY : ∀ g, Y g → X g ∨ (w.heap.size ≤ g ∧ g < w'.heap.size)) : VolM Y w' vb db kb n N V := by
 obtain ⟨tb, lb, hb, mb, A, h⟩ := h
 have h2 := h.keepT k ht
 obtain ⟨es, cl, hg1⟩ := h.held.block
 have hl1 := (Array.getElem?_eq_some_iff.1 hg1).1
 obtain ⟨es2, cl2, hg2⟩ := h.tree.map.block
 have hl2 := (Array.getElem?_eq_some_iff.1 hg2).1
 refine ⟨tb, lb, hb, mb, A, h2.top, h2.tree, h2.log, h2.held, h2.ne, h2.good, h2.fit, h2.glog, ⟨fun hy => ?_, fun hy => ?_, fun g hy => ?_⟩, h2.lows, fun i hi b hb hy => ?_⟩
 · rcases hY _ hy with hx | hx
   · exact h.out.1 hx
   · omega
 · rcases hY _ hy with hx | hx
   · exact h.out.2.1 hx
   · omega
 · rcases hY _ hy with hx | hx
   · exact h2.out.2.2 _ hx
   · exact hx.2
 · rcases hY _ hy with hx | hx
   · exact h.kids i hi b hb hx
   · obtain ⟨es3, cl3, hg3⟩ := (h.tree.node i hi).2.2.2.block hb
     have := (Array.getElem?_eq_some_iff.1 hg3).1
     omega
theorem VolK.grow {ts : List TypeId} {m : RefD} {hd : Int → Nat} (h : VolK X w vb db kb n N off top q m hd) (k : KeepT ts w w') (ht : ∀ t ∈ ts, t ∉ 199 :: 5 :: volT) (hY : ∀ g, Y g → X g ∨ (w.heap.size ≤ g ∧ g < w'.heap.size)) : VolK Y w' vb db kb n N off top q m hd := by
 obtain ⟨V, h1, h2⟩ := h
 exact ⟨V, h1.grow k ht hY, h2⟩
variable {F : FileS} {P : TabD}
theorem SysP.turn {S : Nat → Prop} {ts : List TypeId} (h : SysP X w tb vb db kb n N off top q F P) (k : Keep S w w') (kt : KeepT ts w w') (hts : ∀ t ∈ ts, t ∉ 199 :: 5 :: volT) (hS : ∀ g, g < w.heap.size → ¬ S g → (X g ∨ ∃ cs t fr, w.heap[g]? = some (.cells cs t fr) ∧ t ∉ procT) ∧ ∀ es cl, w.heap[g]? ≠ some (.map es cl)) (hY : ∀ g, Y g → X g ∨ (w.heap.size ≤ g ∧ g < w'.heap.size)) : SysP Y w' tb vb db kb n N off top q F P := by
 obtain ⟨pm, A, hb, hv, hh⟩ := h
 obtain ⟨es, cl, hmb⟩ := hb.mapblk
 have hml := (Array.getElem?_eq_some_iff.1 hmb).1
 have htl := (Array.getElem?_eq_some_iff.1 hb.top).1
 have hSc : ∀ g cs t, w.heap[g]? = some (.cells cs t (0, 0)) → t ∈ procT → ¬ X g → S g := fun g cs t hg ht hx => Classical.byContradiction fun hn => by
  rcases (hS g (Array.getElem?_eq_some_iff.1 hg).1 hn).1 with h | ⟨cs', t', fr', hg', ht'⟩
  · exact hx h
  · rw [hg] at hg'
    injection (Option.some.inj hg') with _ h3
    exact ht' (h3 ▸ ht)
 have h2 := hb.keep k (hSc _ _ _ hb.top (by decide) hb.apart.1) (Classical.byContradiction fun hn => (hS pm hml hn).2 _ _ hmb) fun p hp => ⟨hSc _ _ _ (hb.proc p hp).1 (by decide) (hb.apart.2 p hp), fun a ha => by
  obtain ⟨_, _, cs, hc⟩ := (hb.proc p hp).2.block ha
  exact hSc _ _ _ hc (by decide) (hb.out.2.1 p hp a ha)⟩
 have hno : ∀ g, g < w.heap.size → ¬ X g → ¬ Y g := fun g hg hx hy => by
  rcases hY g hy with h | h
  · exact hx h
  · omega
 refine ⟨pm, A, ⟨h2.top, h2.map, h2.proc, h2.blk, h2.row, h2.good, ⟨hno _ hml hb.out.1, fun p hp a ha => ?_, fun g hg => ?_⟩, h2.lows, h2.ids, h2.next, ⟨hno _ htl hb.apart.1, fun p hp => hno _ (Array.getElem?_eq_some_iff.1 (hb.proc p hp).1).1 (hb.apart.2 p hp)⟩⟩, hv.grow kt hts fun g hg => ?_, hh⟩
 · obtain ⟨_, _, cs, hc⟩ := (hb.proc p hp).2.block ha
   exact hno _ (Array.getElem?_eq_some_iff.1 hc).1 (hb.out.2.1 p hp a ha)
 · rcases hY g hg with h | h
   · exact Nat.lt_of_lt_of_le (hb.out.2.2 g h) k.size
   · exact h.2
 · rcases hg with hg | hg
   · rcases hY g hg with h | h
     · exact Or.inl (Or.inl h)
     · exact Or.inr h
   · exact Or.inl (Or.inr hg)
theorem SysP.turnM (h : SysP X w tb vb db kb n N off top q F P) {m : Nat} (hx : X m) {es : Array MapEntry} {cl : Nat} (hm : w.heap[m]? = some (.map es cl)) (k : Keep (· ≠ m) w w') : SysP X w' tb vb db kb n N off top q F P := by
 obtain ⟨pm, A, hb, hv, hh⟩ := h
 have hc : ∀ g cs t fr, w.heap[g]? = some (.cells cs t fr) → g ≠ m := fun g cs t fr hg e => by rw [e, hm] at hg; cases hg
 refine ⟨pm, A, hb.keep k (hc _ _ _ _ hb.top) (fun e => hb.out.1 (e ▸ hx)) fun p hp => ⟨hc _ _ _ _ (hb.proc p hp).1, fun a ha => ?_⟩, hv.keepM (Or.inl hx) hm k, hh⟩
 obtain ⟨_, _, cs, hcc⟩ := (hb.proc p hp).2.block ha
 exact hc _ _ _ _ hcc
def idF (m : RefD) (p : By) : Int := match entM m p with
 | none => 0
 | some e => e.id
theorem sys_find (hE : Env w) (h : SysP X w tb vb db kb n N off top q F P) (hN : N ≤ 1000000000) : ∃ rb, w.cell? ⟨vb, 0, none⟩ = some (.pointer (some ⟨rb, 0, none⟩)) ∧ ∀ p, Calls Tryz.prog 69 #[.pointer (some ⟨rb, 0, none⟩), .string (bs p)] w fun e w' => e = .returned (.tuple #[.int .i64 (idF F.m p), .bool (entM F.m p).isSome]) ∧ Ext w w' := by
 obtain ⟨pm, A, _, hv, _⟩ := h
 obtain ⟨rb, T, hc, hT, hL⟩ := hv.tree
 refine ⟨rb, hc, fun p => ?_⟩
 have h1 := at_Find p hE hT hN
 have h2 := hL.ent_find p
 have e1 : idF F.m p = findT T p := by
  unfold idF
  rw [h2]
  by_cases h0 : findT T p = 0
  · rw [if_pos h0, h0]
  · rw [if_neg h0]
 have e2 : (entM F.m p).isSome = decide (findT T p ≠ 0) := by
  rw [h2]
  by_cases h0 : findT T p = 0
  · simp [h0]
  · simp [h0]
 rw [e1, e2]
 exact h1
end
end Go.Proofs.YtefpllpichhojaaGreatDoor
namespace Go.Proofs.YtefpllpichhojaaGreatDoor
open Go.RowKit
variable [Low]
def mgrTs : List TypeId := [106, 156, 108]
omit [Low] in
theorem mgrTs_proc : ∀ t ∈ mgrTs, t ∉ procT := by decide
omit [Low] in
theorem mgrTs_mgr : ∀ t ∈ mgrTs, t ∈ mgrT := by decide
section
variable {X : Nat → Prop} {w w' : World} {mb tb gb lm N vb db kb n off top : Nat} {q : Int} {la : Option Addr} {lc : Nat} {M : MgrD} {A : Bs → StA} {F : FileS} {P : TabD}
theorem notTy_no {ts : List TypeId} {w : World} {g : Nat} {cs : Array Value} {t : TypeId} {fr : Nat × Nat} (h : NotTy ts w g) (hl : Low.low ≤ g) (hg : w.heap[g]? = some (.cells cs t fr)) (ht : t ∈ ts) : False := by
 rcases h with h | h
 · omega
 · exact h _ _ _ hg ht
theorem notTy_not {ts : List TypeId} {w : World} {g : Nat} (h : ¬ NotTy ts w g) : ∃ cs t fr, w.heap[g]? = some (.cells cs t fr) ∧ t ∈ ts := Classical.byContradiction fun hn => h (Or.inr fun cs t fr hg ht => hn ⟨cs, t, fr, hg, ht⟩)
theorem KeepM.of_out {S : Nat → Prop} (k : Keep S w w') (h : ∀ g, ¬ S g → g < w.heap.size → Low.low ≤ g ∧ ¬ X g ∧ ((∃ es cl, w.heap[g]? = some (.map es cl)) ∨ ∃ cs t fr, w.heap[g]? = some (.cells cs t fr) ∧ t ∈ mgrT)) : KeepM X w w' :=
 ⟨k.os, k.tape, k.output, k.size, fun g hgl hg => k.block g hgl (Classical.byContradiction fun hn => by
  obtain ⟨h1, h2, h3⟩ := h g hn hgl
  rcases hg with hl | ⟨hx, _⟩ | ⟨cs, t, fr, hg, ht⟩
  · omega
  · exact h2 hx
  · rcases h3 with ⟨es, cl, hm⟩ | ⟨cs', t', fr', hg', ht'⟩
    · rw [hm] at hg; cases hg
    · rw [hg'] at hg
      injection (Option.some.inj hg) with _ h5
      exact ht (h5 ▸ ht'))⟩
theorem KeepT.of_out {ts : List TypeId} {S : Nat → Prop} (k : Keep S w w') (h : ∀ g, ¬ S g → g < w.heap.size → Low.low ≤ g ∧ ∃ cs t fr, w.heap[g]? = some (.cells cs t fr) ∧ t ∈ ts) : KeepT ts w w' :=
 ⟨k.os, k.tape, k.output, k.size, fun g hgl hg => k.block g hgl (Classical.byContradiction fun hn => by
  obtain ⟨h1, cs, t, fr, h3, h4⟩ := h g hn hgl
  exact notTy_no hg h1 h3 h4)⟩
theorem SysP.own (h : SysP X w tb vb db kb n N off top q F P) (k : KeepT mgrTs w w') : SysP X w' tb vb db kb n N off top q F P :=
 h.turn k k (by decide) (fun g hgl hn => by
  obtain ⟨cs, t, fr, hg, ht⟩ := notTy_not hn
  exact ⟨Or.inr ⟨cs, t, fr, hg, mgrTs_proc t ht⟩, fun es cl hm => by rw [hm] at hg; cases hg⟩) fun g hg => Or.inl hg
theorem MgrB.lmne (h : MgrB X w mb tb gb lm N la lc M A) {g : Nat} {cs : Array Value} {t : TypeId} {fr : Nat × Nat} (hg : w.heap[g]? = some (.cells cs t fr)) : g ≠ lm := fun e => by
 obtain ⟨es, cl, hm⟩ := h.map.block
 rw [e, hm] at hg; cases hg
theorem MgrB.keepN (h : MgrB X w mb tb gb lm N la lc M A) (k : Keep (fun g => g ≠ mb ∧ ∀ x, la = some x → g ≠ x.block) w w') : KeepM X w w' ∧ KeepT mgrTs w w' := by
 have ho : ∀ g, ¬ (g ≠ mb ∧ ∀ x, la = some x → g ≠ x.block) → Low.low ≤ g ∧ ¬ X g ∧ ∃ cs t fr, w.heap[g]? = some (.cells cs t fr) ∧ t ∈ mgrTs := fun g hn => by
  by_cases e : g = mb
  · rw [e]
    exact ⟨h.lows.1, h.out.2.1, _, _, _, h.top, by decide⟩
  · obtain ⟨x, hx⟩ := Classical.not_forall.1 fun hh => hn ⟨e, hh⟩
    obtain ⟨hx, e2⟩ := Classical.not_imp.1 hx
    have e2 : g = x.block := Classical.not_not.1 e2
    obtain ⟨h1, cs, hc⟩ := h.logBlk hx
    rw [e2]
    exact ⟨h1, h.out.2.2.2.1 x hx, cs, _, _, hc, by decide⟩
 refine ⟨KeepM.of_out k fun g hn _ => ?_, KeepT.of_out k fun g hn _ => ?_⟩
 · obtain ⟨h1, h2, cs, t, fr, h3, h4⟩ := ho g hn
   exact ⟨h1, h2, Or.inr ⟨cs, t, fr, h3, mgrTs_mgr t h4⟩⟩
 · obtain ⟨h1, _, h3⟩ := ho g hn
   exact ⟨h1, h3⟩
theorem MgrB.put {w2 w3 : World} (h : MgrB X w mb tb gb lm N la lc M A) (k2 : Ext w w2) (n : Bs) (s : StD) (B : StA) (hb : w2.heap[B.blk]? = some (.cells (stV s B) 156 (0, 0))) (hf : OwnS w2 Low.low B.fa B.fc s.files) (hnew : w.heap.size ≤ B.blk)
 (hm : MapF keyS w3 9 lm (N + 1) (fun z => if z = n then some (.pointer (some ⟨B.blk, 0, none⟩)) else stF M A z)) (k3 : Keep (· ≠ lm) w2 w3) (ht : 0 ≤ s.tries ∧ s.tries ≤ (N : Int) + 1 ∧ 0 ≤ s.pid ∧ s.pid ≤ (N : Int) + 1) (hn : n.length ≤ 100000) (hlw : Low.low ≤ w.heap.size) :
 MgrB X w3 mb tb gb lm (N + 1) la lc (setM M n s) (fun z => if z = n then B else A z) := by
 have h2 := h.ext k2
 have hlm : ∀ g cs t fr, w2.heap[g]? = some (.cells cs t fr) → g ≠ lm := fun g cs t fr hg => h2.lmne hg
 have hl : ∀ z, (setM M n s).list z = if z = n then some s else M.list z := fun z => rfl
 have hold : ∀ z t, M.list z = some t → (A z).blk < w.heap.size := fun z t hz => (Array.getElem?_eq_some_iff.1 (h.st z t hz).1).1
 refine ⟨k3.heap (hlm _ _ _ _ h2.top) h2.top, hm.same ?_, fun z t hz => ?_, fun z z2 t t2 hz hz2 e => ?_, ownsRow_keep h2.log k3 (fun g cur _ _ hg => hlm _ _ _ _ hg), ⟨h.out.1, h.out.2.1, fun z t hz => ?_, h.out.2.2.2.1, fun g hg => Nat.lt_of_lt_of_le (Nat.lt_of_lt_of_le (h.out.2.2.2.2 g hg) k2.size) k3.size⟩, ⟨h.lows.1, h.lows.2.1, fun z t hz => ?_⟩, fun z t hz => ?_⟩
 · funext z
   unfold stF
   rw [hl]
   by_cases e : z = n <;> simp [e]
 · rw [hl] at hz
   by_cases e : z = n
   · rw [if_pos e] at hz
     cases hz
     simp only [if_pos e]
     refine ⟨k3.heap (hlm _ _ _ _ hb) hb, OwnS.keep hf k3 fun g cs hg => hlm _ _ _ _ hg, ht.1, ?_, ht.2.2.1, ?_⟩
     · have := ht.2.1; omega
     · have := ht.2.2.2; omega
   · rw [if_neg e] at hz
     simp only [if_neg e]
     obtain ⟨h3, h4, h5, h6, h7, h8⟩ := h2.st z t hz
     exact ⟨k3.heap (hlm _ _ _ _ h3) h3, OwnS.keep h4 k3 fun g cs hg => hlm _ _ _ _ hg, h5, by omega, h7, by omega⟩
 · rw [hl] at hz hz2
   by_cases e1 : z = n
   · by_cases e2 : z2 = n
     · rw [e1, e2]
     · rw [if_neg e2] at hz2
       simp only [if_pos e1, if_neg e2] at e
       have := hold z2 t2 hz2
       omega
   · rw [if_neg e1] at hz
     by_cases e2 : z2 = n
     · simp only [if_neg e1, if_pos e2] at e
       have := hold z t hz
       omega
     · rw [if_neg e2] at hz2
       simp only [if_neg e1, if_neg e2] at e
       exact h.blk z z2 t t2 hz hz2 e
 · rw [hl] at hz
   by_cases e : z = n
   · simp only [if_pos e]
     intro hx
     have := h.out.2.2.2.2 _ hx
     omega
   · rw [if_neg e] at hz
     simp only [if_neg e]
     exact h.out.2.2.1 z t hz
 · rw [hl] at hz
   by_cases e : z = n
   · simp only [if_pos e]; omega
   · rw [if_neg e] at hz
     simp only [if_neg e]
     exact h.lows.2.2 z t hz
 · rw [hl] at hz
   by_cases e : z = n
   · rw [e]; exact hn
   · rw [if_neg e] at hz
     exact h.small z t hz
end
end Go.Proofs.YtefpllpichhojaaGreatDoor
namespace Go.Proofs.YtefpllpichhojaaGreatDoor
open Go.RowKit Go.Maps Go.Sort Go.Shelf
variable [Low]
section
variable {X : Nat → Prop} {w w' : World} {mb tb gb lm N vb db kb n off top : Nat} {q : Int} {la : Option Addr} {lc : Nat} {M : MgrD} {A : Bs → StA} {F : FileS} {P : TabD} {G : GraphD}
omit [Low] in
theorem graph_GetM {S : Nat → Prop} (h : GraphM S w gb N G) (hs : ∀ n u, getU G.units n = some u → SmallU u) (n : Bs) (hn : n.length ≤ 100000) :
 Calls Tryz.prog 84 #[.pointer (some ⟨gb, 0, none⟩), .string (bs n)] w (GetU G.units n w) := by
 obtain ⟨ub, hb, oa, oc, A, h⟩ := h
 exact graph_Get h.top h.units (fun n u hu => ⟨(h.row n u hu).1, fun f h1 h6 => by have := ((hs n u hu).rows f h1 h6).1; omega⟩) n hn
omit [Low] in
theorem small_get {U : List UnitD} (hs : ∀ n u, getU U n = some u → SmallU u) (n : Bs) : SmallU ((getU U n).getD uzD) := by
 cases h : getU U n with
 | none =>
   have h0 : ∀ f, uzD.row f = [] := fun f => by unfold UnitD.row uzD; split <;> rfl
   exact ⟨Nat.zero_le _, fun f _ _ => by show (uzD.row f).length ≤ 1000 ∧ ∀ s ∈ uzD.row f, s.length ≤ 100000; rw [h0]; exact ⟨Nat.zero_le _, fun s hs => by cases hs⟩⟩
 | some u => exact hs n u h
theorem met_test (x : Bs) (hx : x.length ≤ 100000) (h : MgrB X w mb tb gb lm N la lc M A) {m0 : Nat} (h0 : w.cell? ⟨m0, 0, none⟩ = some (.pointer (some ⟨mb, 0, none⟩))) :
 Calls Tryz.prog 134 (#[.string (bs x)] ++ #[.pointer (some ⟨m0, 0, none⟩)]) w fun e w' => e = .returned (.bool ((((stM M x).st : Nat) : Int) != 2)) ∧ Ext w w' := by
 obtain ⟨R, hR⟩ : ∃ R : Ending → World → Prop, R = fun e w' => e = .returned (.bool ((((stM M x).st : Nat) : Int) != 2)) ∧ Ext w w' := ⟨_, rfl⟩
 rw [← hR]
 have HR := Lib.hid hR; clear hR
 have HS := Lib.hid (mgr_State h x hx)
 clear h
 go_enter Tryz.func134, Tryz.ntmps134
 go_wp2_with (go_at_call 54; refine HS.out.mono ?_; rintro e w1 ⟨rfl, hx1⟩; have HX1 := Lib.hid hx1; clear hx1)
 rw [HR.out]
 exact ⟨rfl, HX1.out⟩
set_option maxRecDepth 100000 in
set_option maxHeartbeats 3200000 in
theorem mgr_met (h : MgrB X w mb tb gb lm N la lc M A) (hg : GraphM X w gb 100000 G) (hs : ∀ n u, getU G.units n = some u → SmallU u) (n : Bs) (hn : n.length ≤ 100000) :
 Calls Tryz.prog 86 #[.pointer (some ⟨mb, 0, none⟩), .string (bs n)] w fun e w' => e = .returned (.bool (metM G.units M n)) ∧ Ext w w' := by
 obtain ⟨R, hR⟩ : ∃ R : Ending → World → Prop, R = fun e w' => e = .returned (.bool (metM G.units M n)) ∧ Ext w w' := ⟨_, rfl⟩
 rw [← hR]
 have HR := Lib.hid hR; clear hR
 have hx1 := Ext.alloc w (.cells #[.pointer (some ⟨mb, 0, none⟩)] 56)
 have hb1 := heap_alloc_new w (.cells #[.pointer (some ⟨mb, 0, none⟩)] 56)
 have c1 := blk_cell (hx1.heap h.top) 1 (.pointer (some ⟨gb, 0, none⟩)) rfl
 have HG := Lib.hid (graph_GetM (hg.ext hx1) hs n hn)
 have hsm := small_get hs n
 have hmet : metM G.units M n = ((getU G.units n).getD uzD).reqs.all fun x => decide ((stM M x).st = 2) := by
  unfold metM
  cases getU G.units n <;> rfl
 rw [hmet] at HR
 unfold GetU at HG
 generalize (getU G.units n).getD uzD = V at HG hsm hmet HR
 generalize hasU G.units n = ok at HG
 have hneg : (V.reqs.any fun x => (((stM M x).st : Nat) : Int) != 2) = !(V.reqs.all fun x => decide ((stM M x).st = 2)) := by
  rw [← all_not_any]
  congr 1
  funext x
  by_cases e : (stM M x).st = 2
  · rw [e]; rfl
  · have e2 : ((((stM M x).st : Nat) : Int) != 2) = true := by simp; omega
    rw [e2, decide_eq_false e]; rfl
 have HH := Lib.hid h; have HX1 := Lib.hid hx1; have HB1 := Lib.hid hb1; have HSM := Lib.hid hsm; have HNEG := Lib.hid hneg
 clear h hx1 hb1 hsm hneg hmet hg hs
 go_enter Tryz.func86, Tryz.ntmps86
 go_wp2_with (go_at_call 84; refine Hid.out ?_)
 refine Lib.hid ?_
 refine HG.out.mono ?_
 rintro e w2 ⟨A', C', rfl, hO, hx2⟩
 unfold unitV
 have hx3 := Ext.alloc w2 (.cells (unitC V A' C') 84)
 have hb3 := heap_alloc_new w2 (.cells (unitC V A' C') 84)
 unfold unitC at hx3 hb3
 have d4 := blk_cell hb3 4 (.slice (A' 4) V.reqs.length (C' 4)) rfl
 have hxx := (HX1.out.trans hx2).trans hx3
 have hcf := contains_funcS (fun x => (((stM M x).st : Nat) : Int) != 2) 134 #[.pointer (some ⟨w.heap.size, 0, none⟩)] (enters_of Tryz.func134 (by kernel_rfl) rfl) (A' 4) V.reqs (C' 4) _ (fun W x hx k => met_test x ((HSM.out.rows 4 (by omega) (by omega)).2 x hx) (HH.out.ext (hxx.trans k)) (blk_cell ((hx2.trans (hx3.trans k)).heap HB1.out) 0 _ rfl)) ((OwnS.strs ((hO 4 (by omega) (by omega)).1.ext hx3)).1) (by have h := (HSM.out.rows 4 (by omega) (by omega)).1; have h : V.reqs.length ≤ 1000 := h; omega)
 rw [HNEG.out] at hcf
 generalize (V.reqs.all fun x => decide ((stM M x).st = 2)) = r at hcf HR
 have HCF := Lib.hid hcf; have HXX := Lib.hid hxx
 clear hcf hxx hx3 hb3 hx2 hO c1 HNEG
 go_wp2_with (go_at_call 133; refine HCF.out.mono ?_; rintro e w4 ⟨rfl, hx4⟩; have HX4 := Lib.hid hx4; clear hx4)
 rw [HR.out]
 refine ⟨?_, HXX.out.trans HX4.out⟩
 first | rfl | (cases r <;> rfl)
omit [Low] in
theorem onesM_sorted {D : DataW Value} {b n : Nat} (h1 : w.ownsMap Tryz.prog 9 selfR b n D) (h3 : ∀ x, Maps.has D (keyS x) = (stF M A x).isSome) {ss : List Bs} (hp : ss.Perm (strKeys D)) : OnesM M (ss.mergeSort leB) := by
 obtain ⟨g1, g2, g3⟩ := sorted_names h1 (f := stF M A) h3 hp
 refine ⟨g1, g2, fun x => ?_⟩
 rw [g3 x]
 unfold stF
 cases M.list x <;> simp
def inL (M : MgrD) (L : List Int) (x : Bs) : Bool := decide (((stM M x).st : Int) ∈ L)
def InR (M : MgrD) (L : List Int) (w : World) (e : Ending) (w' : World) : Prop := ∃ ss, OnesM M ss ∧ NamesG (ss.filter (inL M L)) w e w'
end
end Go.Proofs.YtefpllpichhojaaGreatDoor
