/- farrierlaw17.open. -/
import Derived.Test.YtefpllpichhojaaGreatDoorM6
import Derived.Test.YtefpllpichhojaaGreatDoorM2
import Derived.Lib.SmallJoins
namespace Go.Proofs.YtefpllpichhojaaGreatDoor
open Go.RowKit
variable [Low]
section
variable {X : Nat → Prop}
omit [Low] in
theorem names17_get {k : Nat} (hk : k < names17.length) : ∃ c : UInt8, names17.getD k [] = [c] := by
 have h : k = 0 ∨ k = 1 ∨ k = 2 ∨ k = 3 ∨ k = 4 := by unfold names17 at hk; simp at hk; omega
 rcases h with rfl | rfl | rfl | rfl | rfl <;> exact ⟨_, rfl⟩
omit [Low] in
theorem info_op : (Tryz.prog.info? 52).map (fun i => (i.zero, i.size, i.bytes)) = some (some (.agg #[.int .i64 0, .string ⟨#[]⟩, .string ⟨#[]⟩, .slice none 0 0]), 4, 64) := by kernel_rfl
def nameC : Array Value := #[.string ⟨#[97]⟩, .string ⟨#[98]⟩, .string ⟨#[99]⟩, .string ⟨#[100]⟩, .string ⟨#[101]⟩]
omit [Low] in
set_option maxRecDepth 100000 in
theorem names_17 (w : World) : Calls Tryz.prog 32 #[] w fun e w' => e = .returned (.slice (some ⟨w.heap.size, 0, none⟩) 5 5) ∧ w'.heap[w.heap.size]? = some (.cells nameC 9 (0, 0)) ∧ Ext w w' := by
 obtain ⟨R, hR⟩ : ∃ R : Ending → World → Prop, R = fun e w' => e = .returned (.slice (some ⟨w.heap.size, 0, none⟩) 5 5) ∧ w'.heap[w.heap.size]? = some (.cells nameC 9 (0, 0)) ∧ Ext w w' := ⟨_, rfl⟩
 rw [← hR]
 have HR := Lib.hid hR; clear hR
 go_enter Tryz.func32, Tryz.ntmps32
 go_wp2_with fail
 rw [HR.out]
 exact ⟨rfl, heap_alloc_new w (.cells nameC 9), Ext.alloc _ _⟩
omit [Low] in
theorem own_ne {w : World} {base E m n g : Nat} {v : Value} {us : List Value} (h : w.ownsRow base E m v n us) {cs : Array Value} {t : TypeId} {fr : Nat × Nat} (hg : w.heap[g]? = some (.cells cs t fr)) (ht : t ≠ E) : some g ≠ v.ownBlock := fun e => by
 rcases h.2 with ⟨h1, _⟩ | ⟨g', c, cur, h1, _, h2, _⟩
 · rw [h1] at e; cases e
 · rw [h1] at e
   have e : g = g' := Option.some.inj e
   rw [e, h2] at hg
   injection (Option.some.inj hg) with _ h3
   exact ht h3.symm
omit [Low] in
theorem strs_blk {w : World} {b : Nat} {L : List Bs} {t : TypeId} (h : w.heap[b]? = some (.cells ((L.map bs).map Value.string).toArray t (0, 0))) : Strs w (some ⟨b, 0, none⟩) L := by
 refine Or.inr ⟨b, 0, rfl, (Array.getElem?_eq_some_iff.1 h).1, fun i hi => ?_⟩
 rw [Nat.zero_add]
 refine blk_cell h i _ ?_
 simp [hi]
def unX (n : Bs) (f : List Bs) (b : Nat) : UnA := (uD n f, (fun j => if j = 1 then some ⟨b, 0, none⟩ else none), fun j => if j = 1 then f.length else 0)
omit [Low] in
theorem unX_ok {w : World} {n : Bs} {f : List Bs} {b : Nat} (h : Strs w (some ⟨b, 0, none⟩) f) : UnitR w (unX n f b).1 (unX n f b).2.1 := by
 intro j h1 h6
 by_cases hj : j = 1
 · subst hj
   exact h
 · have e : (unX n f b).2.1 j = none := if_neg hj
   have e2 : (unX n f b).1.row j = [] := by
    have : j = 2 ∨ j = 3 ∨ j = 4 ∨ j = 5 ∨ j = 6 := by omega
    rcases this with rfl | rfl | rfl | rfl | rfl <;> rfl
   rw [e, e2]
   exact Or.inl rfl
omit [Low] in
theorem small_uD {n : Bs} {f : List Bs} (h1 : n.length ≤ 100) (h2 : f.length ≤ 8) (h3 : ∀ s ∈ f, s.length ≤ 100) : SmallU (uD n f) := by
 refine ⟨Nat.le_trans h1 (by decide), fun j h4 h5 => ?_⟩
 by_cases hj : j = 1
 · subst hj
   exact ⟨Nat.le_trans h2 (by decide), fun s hs => Nat.le_trans (h3 s hs) (by decide)⟩
 · have e2 : (uD n f).row j = [] := by
    have : j = 2 ∨ j = 3 ∨ j = 4 ∨ j = 5 ∨ j = 6 := by omega
    rcases this with rfl | rfl | rfl | rfl | rfl <;> rfl
   rw [e2]
   exact ⟨Nat.zero_le _, fun s hs => absurd hs List.not_mem_nil⟩
omit [Low] in
set_option maxRecDepth 100000 in
theorem graph_17 (W : World) : Calls Tryz.prog 37 #[.slice (some ⟨W.heap.size + 1 + 1 + 1 + 1, 0, none⟩) 4 4] (((((W.alloc (.cells #[.string ⟨#[47, 97]⟩] 9)).alloc (.cells #[.string ⟨#[47, 98]⟩, .string ⟨#[47, 99]⟩] 9)).alloc (.cells #[.string ⟨#[47, 97]⟩, .string ⟨#[47, 99]⟩, .string ⟨#[47, 100]⟩] 9)).alloc (.cells #[.string ⟨#[47, 100]⟩] 9)).alloc (.cells #[.string ⟨#[117]⟩, .slice (some ⟨W.heap.size, 0, none⟩) 1 1, .slice none 0 0, .slice none 0 0, .slice none 0 0, .slice none 0 0, .slice none 0 0, .int .i64 0, .string ⟨#[118]⟩, .slice (some ⟨W.heap.size + 1, 0, none⟩) 2 2, .slice none 0 0, .slice none 0 0, .slice none 0 0, .slice none 0 0, .slice none 0 0, .int .i64 0, .string ⟨#[119]⟩, .slice (some ⟨W.heap.size + 1 + 1, 0, none⟩) 3 3, .slice none 0 0, .slice none 0 0, .slice none 0 0, .slice none 0 0, .slice none 0 0, .int .i64 0, .string ⟨#[120]⟩, .slice (some ⟨W.heap.size + 1 + 1 + 1, 0, none⟩) 1 1, .slice none 0 0, .slice none 0 0, .slice none 0 0, .slice none 0 0, .slice none 0 0, .int .i64 0] 84)) fun e w' => ∃ gb, e = .returned (.tuple #[.pointer (some ⟨gb, 0, none⟩), .int .i64 0, .string ⟨#[]⟩]) ∧ GraphM (fun k => W.heap.size ≤ k ∧ k < w'.heap.size) w' gb 100000 graph17 ∧ Ext W w' := by
 have h0 := (heap_alloc_new W (.cells #[.string ⟨#[47, 97]⟩] 9))
 have h1 := (heap_alloc_new (W.alloc (.cells #[.string ⟨#[47, 97]⟩] 9)) (.cells #[.string ⟨#[47, 98]⟩, .string ⟨#[47, 99]⟩] 9))
 have h2 := (heap_alloc_new ((W.alloc (.cells #[.string ⟨#[47, 97]⟩] 9)).alloc (.cells #[.string ⟨#[47, 98]⟩, .string ⟨#[47, 99]⟩] 9)) (.cells #[.string ⟨#[47, 97]⟩, .string ⟨#[47, 99]⟩, .string ⟨#[47, 100]⟩] 9))
 have h3 := (heap_alloc_new (((W.alloc (.cells #[.string ⟨#[47, 97]⟩] 9)).alloc (.cells #[.string ⟨#[47, 98]⟩, .string ⟨#[47, 99]⟩] 9)).alloc (.cells #[.string ⟨#[47, 97]⟩, .string ⟨#[47, 99]⟩, .string ⟨#[47, 100]⟩] 9)) (.cells #[.string ⟨#[47, 100]⟩] 9))
 have h4 := (heap_alloc_new ((((W.alloc (.cells #[.string ⟨#[47, 97]⟩] 9)).alloc (.cells #[.string ⟨#[47, 98]⟩, .string ⟨#[47, 99]⟩] 9)).alloc (.cells #[.string ⟨#[47, 97]⟩, .string ⟨#[47, 99]⟩, .string ⟨#[47, 100]⟩] 9)).alloc (.cells #[.string ⟨#[47, 100]⟩] 9)) (.cells #[.string ⟨#[117]⟩, .slice (some ⟨W.heap.size, 0, none⟩) 1 1, .slice none 0 0, .slice none 0 0, .slice none 0 0, .slice none 0 0, .slice none 0 0, .int .i64 0, .string ⟨#[118]⟩, .slice (some ⟨W.heap.size + 1, 0, none⟩) 2 2, .slice none 0 0, .slice none 0 0, .slice none 0 0, .slice none 0 0, .slice none 0 0, .int .i64 0, .string ⟨#[119]⟩, .slice (some ⟨W.heap.size + 1 + 1, 0, none⟩) 3 3, .slice none 0 0, .slice none 0 0, .slice none 0 0, .slice none 0 0, .slice none 0 0, .int .i64 0, .string ⟨#[120]⟩, .slice (some ⟨W.heap.size + 1 + 1 + 1, 0, none⟩) 1 1, .slice none 0 0, .slice none 0 0, .slice none 0 0, .slice none 0 0, .slice none 0 0, .int .i64 0] 84))
 simp only [World.size_alloc] at h1 h2 h3 h4
 have x1 := Ext.alloc (W.alloc (.cells #[.string ⟨#[47, 97]⟩] 9)) (.cells #[.string ⟨#[47, 98]⟩, .string ⟨#[47, 99]⟩] 9)
 have x2 := Ext.alloc ((W.alloc (.cells #[.string ⟨#[47, 97]⟩] 9)).alloc (.cells #[.string ⟨#[47, 98]⟩, .string ⟨#[47, 99]⟩] 9)) (.cells #[.string ⟨#[47, 97]⟩, .string ⟨#[47, 99]⟩, .string ⟨#[47, 100]⟩] 9)
 have x3 := Ext.alloc (((W.alloc (.cells #[.string ⟨#[47, 97]⟩] 9)).alloc (.cells #[.string ⟨#[47, 98]⟩, .string ⟨#[47, 99]⟩] 9)).alloc (.cells #[.string ⟨#[47, 97]⟩, .string ⟨#[47, 99]⟩, .string ⟨#[47, 100]⟩] 9)) (.cells #[.string ⟨#[47, 100]⟩] 9)
 have x4 := Ext.alloc ((((W.alloc (.cells #[.string ⟨#[47, 97]⟩] 9)).alloc (.cells #[.string ⟨#[47, 98]⟩, .string ⟨#[47, 99]⟩] 9)).alloc (.cells #[.string ⟨#[47, 97]⟩, .string ⟨#[47, 99]⟩, .string ⟨#[47, 100]⟩] 9)).alloc (.cells #[.string ⟨#[47, 100]⟩] 9)) (.cells #[.string ⟨#[117]⟩, .slice (some ⟨W.heap.size, 0, none⟩) 1 1, .slice none 0 0, .slice none 0 0, .slice none 0 0, .slice none 0 0, .slice none 0 0, .int .i64 0, .string ⟨#[118]⟩, .slice (some ⟨W.heap.size + 1, 0, none⟩) 2 2, .slice none 0 0, .slice none 0 0, .slice none 0 0, .slice none 0 0, .slice none 0 0, .int .i64 0, .string ⟨#[119]⟩, .slice (some ⟨W.heap.size + 1 + 1, 0, none⟩) 3 3, .slice none 0 0, .slice none 0 0, .slice none 0 0, .slice none 0 0, .slice none 0 0, .int .i64 0, .string ⟨#[120]⟩, .slice (some ⟨W.heap.size + 1 + 1 + 1, 0, none⟩) 1 1, .slice none 0 0, .slice none 0 0, .slice none 0 0, .slice none 0 0, .slice none 0 0, .int .i64 0] 84)
 have x0 := Ext.alloc W (.cells #[.string ⟨#[47, 97]⟩] 9)
 have hu : UnitsL (((((W.alloc (.cells #[.string ⟨#[47, 97]⟩] 9)).alloc (.cells #[.string ⟨#[47, 98]⟩, .string ⟨#[47, 99]⟩] 9)).alloc (.cells #[.string ⟨#[47, 97]⟩, .string ⟨#[47, 99]⟩, .string ⟨#[47, 100]⟩] 9)).alloc (.cells #[.string ⟨#[47, 100]⟩] 9)).alloc (.cells #[.string ⟨#[117]⟩, .slice (some ⟨W.heap.size, 0, none⟩) 1 1, .slice none 0 0, .slice none 0 0, .slice none 0 0, .slice none 0 0, .slice none 0 0, .int .i64 0, .string ⟨#[118]⟩, .slice (some ⟨W.heap.size + 1, 0, none⟩) 2 2, .slice none 0 0, .slice none 0 0, .slice none 0 0, .slice none 0 0, .slice none 0 0, .int .i64 0, .string ⟨#[119]⟩, .slice (some ⟨W.heap.size + 1 + 1, 0, none⟩) 3 3, .slice none 0 0, .slice none 0 0, .slice none 0 0, .slice none 0 0, .slice none 0 0, .int .i64 0, .string ⟨#[120]⟩, .slice (some ⟨W.heap.size + 1 + 1 + 1, 0, none⟩) 1 1, .slice none 0 0, .slice none 0 0, .slice none 0 0, .slice none 0 0, .slice none 0 0, .int .i64 0] 84)) (some ⟨W.heap.size + 1 + 1 + 1 + 1, 0, none⟩) [unX [117] [[47, 97]] (W.heap.size), unX [118] [[47, 98], [47, 99]] (W.heap.size + 1), unX [119] [[47, 97], [47, 99], [47, 100]] (W.heap.size + 1 + 1), unX [120] [[47, 100]] (W.heap.size + 1 + 1 + 1)] := by
  refine ⟨run_blk h4, fun x hx => ?_⟩
  simp only [List.mem_cons, List.not_mem_nil, or_false] at hx
  rcases hx with rfl | rfl | rfl | rfl
  · exact unX_ok (strs_blk (((x1.trans (x2.trans (x3.trans x4)))).heap h0))
  · exact unX_ok (strs_blk ((x2.trans (x3.trans x4)).heap h1))
  · exact unX_ok (strs_blk ((x3.trans x4).heap h2))
  · exact unX_ok (strs_blk (x4.heap h3))
 refine (graph_New (c := 4) hu (fun x hx => ?_)).mono ?_
 · simp only [List.mem_cons, List.not_mem_nil, or_false] at hx
   rcases hx with rfl | rfl | rfl | rfl <;> exact small_uD (by decide) (by decide) (by decide)
 · rintro e w' h
   have hL : List.map Prod.fst [unX [117] [[47, 97]] (W.heap.size), unX [118] [[47, 98], [47, 99]] (W.heap.size + 1), unX [119] [[47, 97], [47, 99], [47, 100]] (W.heap.size + 1 + 1), unX [120] [[47, 100]] (W.heap.size + 1 + 1 + 1)] = units17 := rfl
   rw [hL] at h
   unfold GraphR at h
   rw [new17] at h
   obtain ⟨⟨gb, he, hg⟩, hx⟩ := h
   have hxx := (x0.trans (x1.trans (x2.trans (x3.trans x4))))
   exact ⟨gb, he, hg.mono (fun b hb => ⟨Nat.le_trans hxx.size hb.1, hb.2⟩), hxx.trans hx⟩
set_option maxRecDepth 100000 in
set_option maxHeartbeats 12800000 in
theorem open17 (w : World) (hE : EnvL w) (hlw : Low.low ≤ w.heap.size) (hX : ∀ g, X g → g < w.heap.size) : Calls Tryz.prog 28 #[] w fun e w' => ∃ vb mb gb tb db kb lm la lc A, ∃ Y : Nat → Prop, e = .returned (.tuple #[.pointer (some ⟨vb, 0, none⟩), .pointer (some ⟨mb, 0, none⟩)]) ∧ (∀ g, X g → Y g) ∧ SysB Y w' mb tb vb gb db kb 800 200010 2 1 3000 lm la lc A ⟨file17, noneP, noneM⟩ ∧ GraphM Y w' gb 100000 graph17 ∧ KeepM X w w' := by
 obtain ⟨R, hR⟩ : ∃ R : Ending → World → Prop, R = fun e w' => ∃ vb mb gb tb db kb lm la lc A, ∃ Y : Nat → Prop, e = .returned (.tuple #[.pointer (some ⟨vb, 0, none⟩), .pointer (some ⟨mb, 0, none⟩)]) ∧ (∀ g, X g → Y g) ∧ SysB Y w' mb tb vb gb db kb 800 200010 2 1 3000 lm la lc A ⟨file17, noneP, noneM⟩ ∧ GraphM Y w' gb 100000 graph17 ∧ KeepM X w w' := ⟨_, rfl⟩
 rw [← hR]
 have HR := Lib.hid hR; clear hR
 have HE := Lib.hid hE; have HXS := Lib.hid hX; have HLW := Lib.hid hlw; clear hE hX hlw
 go_enter Tryz.func28, Tryz.ntmps28
 go_upto_region 1 with fail
 go_upto_region 2 with (first
  | (go_at_call 63; refine (disk_New 800 (by decide) (by decide) w HLW.out).mono ?_; rintro E w1 ⟨db, kb, rfl, hd, hx⟩; have HD := Lib.hid hd; have HX := Lib.hid hx; clear hd hx)
  | (go_at_call 64; refine (at_vNew (X := X) (fun g hg => Nat.lt_of_lt_of_le (HXS.out g hg) HX.out.size) HD.out (by decide) 3000).mono ?_; rintro E w2 ⟨vb, rfl, hv, hk⟩; have HV := Lib.hid hv; have HY := Lib.hid ((KeepY.of_ext (X := X) HX.out).trans hk); clear hv hk))
 clear HX HD
 obtain ⟨vtb, T0, c0, _, _⟩ := HV.out.tree
 go_upto_region 5 with fail
 clear c0
 go_upto_region 6 with (go_at_call 32; refine (names_17 _).mono ?_; rintro E w4 ⟨rfl, hn, hx4⟩; have HN := Lib.hid hn; have HX4 := Lib.hid hx4; clear hn hx4)
 have hx2 := (Ext.alloc w2 (.cells #[] 52)).trans HX4.out
 have hob := HX4.out.heap (heap_alloc_new w2 (.cells #[] 52))
 have hown : w4.ownsRow w2.heap.size 52 4 (.slice (some ⟨w2.heap.size, 0, none⟩) 0 0) 0 [] := ⟨rfl, Or.inr ⟨_, 0, #[], rfl, Nat.le_refl _, hob, Nat.le_refl _, Nat.zero_le _, rfl, rfl⟩⟩
 obtain ⟨nb, hnb⟩ : ∃ nb, nb = (w2.alloc (.cells #[] 52)).heap.size := ⟨_, rfl⟩
 have hn := HN.out
 simp only [World.size_alloc] at hn hnb
 rw [← hnb] at hn ⊢
 replace HN := Lib.hid hn
 have HX2 := Lib.hid hx2; have HOWN := Lib.hid hown
 clear hx2 hown hob HX4 hnb hn
 go_loopw [4, 32] (fun o i wr => ∃ (k : Nat) (oa : Option Addr) (oc : Nat), i = .int .i64 k ∧ k ≤ 5 ∧ o = .slice oa k oc ∧ Hid (wr.ownsRow w2.heap.size 52 4 (.slice oa k oc) k (((names17.take k).map opC).flatMap opV)) ∧ Hid (Ext w2 wr) ∧ Hid (wr.heap[nb]? = some (.cells nameC 9 (0, 0)))) (fun _ i _ => 5 - (intOf i).toNat)
 case atStart => exact ⟨0, some ⟨w2.heap.size, 0, none⟩, 0, rfl, Nat.zero_le _, rfl, HOWN, HX2, HN⟩
 case round =>
  obtain ⟨k, oa, oc, rfl, hk, rfl, hO, hx, hnb⟩ := hrel
  by_cases hlt : k < 5
  · obtain ⟨c, hc⟩ := names17_get (k := k) hlt
    have q0 : wr.cell? ⟨nb, k, none⟩ = some (.string ⟨#[c]⟩) := by
     refine blk_cell hnb.out k _ ?_
     have h : k = 0 ∨ k = 1 ∨ k = 2 ∨ k = 3 ∨ k = 4 := by omega
     rcases h with rfl | rfl | rfl | rfl | rfl <;> (injection hc with hc _; subst hc; rfl)
    have htk : names17.take (k + 1) = names17.take k ++ [[c]] := by rw [take_snocB (L := names17) hlt, hc]
    have hx1 := Ext.alloc wr (.cells #[.int .i64 2, .string ⟨#[47, c]⟩, .string ⟨#[]⟩, .slice none 0 0] 52)
    have hb1 := heap_alloc_new wr (.cells #[.int .i64 2, .string ⟨#[47, c]⟩, .string ⟨#[]⟩, .slice none 0 0] 52)
    have HTK := Lib.hid htk; have HX1 := Lib.hid hx1; have HB1 := Lib.hid hb1
    clear htk hc hx1 hb1
    go_wp2_with (at_builtin; refine wpList_append_any rfl _ _ 144 52 (.agg #[.int .i64 0, .string ⟨#[]⟩, .string ⟨#[]⟩, .slice none 0 0]) 4 64 rfl Tryz.underlying144 info_op rfl (by decide) w2.heap.size oa k oc (((names17.take k).map opC).flatMap opV) rfl (ownsRow_ext hO.out HX1.out) (some ⟨wr.heap.size, 0, none⟩) 1 1 (opV (opC [c])) rfl rfl (run_blk HB1.out) (by intro u hu; simp only [opV, opC, List.mem_cons, List.not_mem_nil, or_false] at hu; rcases hu with rfl | rfl | rfl | rfl <;> rfl) (by omega) (by decide) (Nat.le_trans hx.out.size HX1.out.size) (k + 1) rfl ?_; intro oa2 oc2 w5 hO2 hk2 hb2; have HO2 := Lib.hid hO2; have HK2 := Lib.hid hk2; have HB2 := Lib.hid hb2; clear hO2 hk2 hb2)
    go_roundw
    case rel =>
     have e : ((names17.take (k + 1)).map opC).flatMap opV = ((names17.take k).map opC).flatMap opV ++ opV (opC [c]) := by rw [HTK.out, List.map_append, List.flatMap_append]; simp
     refine ⟨k + 1, oa2, oc2, by go_num, by omega, rfl, Lib.hid (by rw [e]; exact HO2.out), Lib.hid (Ext.of_below' (hx.out.trans HX1.out) HB2.out), Lib.hid ?_⟩
     exact HK2.out.heap (own_ne (ownsRow_ext hO.out HX1.out) (HX1.out.heap hnb.out) (by decide)) (HX1.out.heap hnb.out)
    case measure => simp [intOf]; omega
  · have hkk : k = 5 := by omega
    subst hkk
    have HO := hO; have HX := hx
    obtain ⟨a', c', e1, _, hrun, _⟩ := run_of_row hO.out
    obtain ⟨rfl, _, rfl⟩ := Value.slice.inj e1
    have hops : OpsL wr oa (names17.map opC) := ops_run hrun (fun z hz => by
     obtain ⟨s, _, rfl⟩ := List.mem_map.1 hz
     exact Or.inl rfl)
    have HOPS := Lib.hid hops
    replace HV := Lib.hid (HV.out.ext hx.out)
    replace HY := Lib.hid (HY.out.trans (KeepY.of_ext hx.out))
    clear hO hx hnb HX2 HOWN HN HO HX hops hrun e1 hlt
    have HXS1 := Lib.hid (fun g hg => Nat.lt_of_lt_of_le (HXS.out g hg) HY.out.size)
    have HLW1 := Lib.hid (Nat.le_trans HLW.out HY.out.size)
    go_upto_region 11 with (first
     | (go_at_call 12; refine (proc_New (F := ⟨newM 3000, fun _ => 0⟩) HV.out (fun _ => rfl) HXS1.out HLW1.out (by decide)).mono ?_; rintro E w5 ⟨tb, rfl, hs, hx⟩; have HS := Lib.hid hs; have HX5 := Lib.hid hx; clear hs hx)
     | (go_at_call 83; refine (mgr_New HS.out (Nat.le_trans HLW1.out HX5.out.size)).mono ?_; rintro E w6 ⟨mb, gb0, lm, rfl, hs, hx⟩; have HB := Lib.hid hs; have HX6 := Lib.hid (HX5.out.trans hx); clear hs hx))
    clear HS HX5 HV
    go_upto_region 12 with (go_at_call 37; refine Hid.out ?_)
    refine Lib.hid ?_
    refine (graph_17 w6).mono ?_
    rintro E w7 ⟨gb, rfl, hg, hx⟩
    have hyx : ∀ g, X g → g < w6.heap.size := fun g hg => Nat.lt_of_lt_of_le (HXS1.out g hg) HX6.out.size
    obtain ⟨Y, hYd⟩ : ∃ Y : Nat → Prop, Y = fun g => X g ∨ (w6.heap.size ≤ g ∧ g < w7.heap.size) := ⟨_, rfl⟩
    have hB2 := HB.out.more (Y := Y) hx (fun g hg => by rw [hYd] at hg; exact hg)
    have hG2 : GraphM Y w7 gb 100000 graph17 := hg.mono (fun b hb => by rw [hYd]; exact Or.inr hb)
    have HXY := Lib.hid (show ∀ g, X g → Y g from fun g hg => by rw [hYd]; exact Or.inl hg)
    have HB2 := Lib.hid hB2; have HG := Lib.hid hG2; have HX7 := Lib.hid (HX6.out.trans hx)
    have hdo := sys_DoB ((HE.out.keepY HY.out).ext HX7.out) HB2.out (c := oc) (HOPS.out.ext HX7.out) (ops := (names17.map opC).map Prod.fst) rfl (k := 5) rfl do17 (m2 := tree17) sweep17 (fit_all (by decide)) (by decide) (off' := 2) (by decide) (by decide) (by decide) (N' := 200010) (by decide) (by decide)
    have HDO := Lib.hid hdo
    clear hg hx hyx hYd hB2 hG2 hdo HB
    go_upto_region 14 with (go_at_call 24; refine HDO.out.mono ?_; rintro E w8 ⟨rfl, hs, hk⟩; have HB3 := Lib.hid hs; have HK8 := Lib.hid hk; have HG8 := Lib.hid (GraphM.keepM HG.out hk (fun _ h => h)); have c0 := blk_cell hs.1.top 0 (.pointer (some ⟨tb, 0, none⟩)) rfl; clear hs hk)
    go_wp2_with (go_at_call 39; refine (mgr_Set HB3.out gb).mono ?_; rintro E w9 ⟨rfl, hs, hk⟩; have HB4 := Lib.hid hs; have HK9 := Lib.hid hk; have HG9 := Lib.hid (GraphM.keepM HG8.out hk (fun _ h => h)); clear hs hk)
    rw [HR.out]
    exact ⟨vb, mb, gb, tb, db, kb, lm, none, 0, _, Y, rfl, HXY.out, HB4.out, HG9.out, ((KeepM.of_keepP (KeepP.of_keepY HY.out fun _ h => h) fun _ h => h).trans (KeepM.of_ext HX7.out)).trans (((HK8.out.trans HK9.out)).mono HXY.out)⟩
end
end Go.Proofs.YtefpllpichhojaaGreatDoor
