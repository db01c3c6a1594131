/- Several texts of mine, one behind the other: TreeVisit, TreeUsed. -/
import Derived.Test.YtefpllpichhojaaGreatDoorM14
import Derived.Test.YtefpllpichhojaaGreatDoorM4
namespace Go.Proofs.YtefpllpichhojaaGreatDoor
def seenT (I : List Int) (left : Int → Bool) : List Int := I.filter fun i => !left i
theorem seen_step {I : List Int} (hn : I.Nodup) {left : Int → Bool} {x : Int} (hx : x ∈ I) (hl : left x = true) :
 (seenT I fun z => left z && !decide (z = x)).Perm (x :: seenT I left) := by
 have h1 : (seenT I fun z => left z && !decide (z = x)).Nodup := hn.filter _
 have h2 : (x :: seenT I left).Nodup := by
  rw [List.nodup_cons]
  refine ⟨fun h => ?_, hn.filter _⟩
  have := (List.mem_filter.1 h).2
  rw [hl] at this; cases this
 refine (List.perm_ext_iff_of_nodup h1 h2).2 fun z => ?_
 unfold seenT
 rw [List.mem_cons, List.mem_filter, List.mem_filter]
 by_cases hz : z = x
 · subst hz; simp [hx]
 · simp [hz]
theorem seen_mem {I : List Int} {left : Int → Bool} {x : Int} (hx : x ∈ I) (z : Int) : z ∈ seenT I (fun z => left z && !decide (z = x)) ↔ z = x ∨ z ∈ seenT I left := by
 unfold seenT
 rw [List.mem_filter, List.mem_filter]
 by_cases hz : z = x
 · subst hz; simp [hx]
 · simp [hz]
theorem seen_none {I : List Int} {left : Int → Bool} (h : ∀ x ∈ I, left x = true) : seenT I left = [] := by
 unfold seenT
 rw [List.filter_eq_nil_iff]
 intro x hx; simp [h x hx]
theorem seen_all {I : List Int} {left : Int → Bool} (h : ∀ x, left x = false) : seenT I left = I := by
 unfold seenT
 rw [List.filter_eq_self]
 intro x _; simp [h x]
theorem seen_sum {I : List Int} (hn : I.Nodup) {left : Int → Bool} {x : Int} (hx : x ∈ I) (hl : left x = true) (f : Int → Nat) :
 ((seenT I fun z => left z && !decide (z = x)).map f).sum = f x + ((seenT I left).map f).sum := by
 rw [((seen_step hn hx hl).map f).sum_nat, List.map_cons, List.sum_cons]
theorem seen_len {I : List Int} {left : Int → Bool} : (seenT I left).length ≤ I.length := List.length_filter_le _ _
theorem sum_le (L : List Int) (f : Int → Nat) (B : Nat) (h : ∀ i ∈ L, f i ≤ B) : (L.map f).sum ≤ L.length * B := by
 induction L with
 | nil => simp
 | cons a L ih =>
   have h1 := h a (by simp)
   have h2 := ih (fun i hi => h i (by simp [hi]))
   rw [List.map_cons, List.sum_cons, List.length_cons, Nat.add_mul]
   omega
theorem seen_filter {I : List Int} (hn : I.Nodup) {left : Int → Bool} {x : Int} (hx : x ∈ I) (hl : left x = true) (p : Int → Bool) {L : List Int} (hL : L.Perm ((seenT I left).filter p)) :
 (if p x then L ++ [x] else L).Perm ((seenT I fun z => left z && !decide (z = x)).filter p) := by
 have h := (seen_step hn hx hl).filter p
 refine List.Perm.trans ?_ h.symm
 rw [List.filter_cons]
 split
 · exact (List.perm_append_comm (l₁ := L) (l₂ := [x])).trans (hL.cons x)
 · exact hL
end Go.Proofs.YtefpllpichhojaaGreatDoor
namespace Go.Proofs.YtefpllpichhojaaGreatDoor
open Go.RowKit
theorem MapG.iterL {α : Type} {c : α → Lit} {w : World} {k : TypeId} {b r n cnt : Nat} {f : α → Option Value} {left : α → Bool} (h : MapG c w k b r n f left cnt) : ∃ m s q c0, w.heap[r]? = some (.mapIter m s q c0) := by
 obtain ⟨D, lf, ⟨es, clock, since, seen, c0, _, _, _, _, h5, _⟩, _⟩ := h
 exact ⟨_, _, _, _, h5⟩
def intOfL : Lit → Int
 | .int _ i => i
 | _ => 0
theorem MapF.size_ints {w : World} {b n : Nat} {f : Int → Option Value} (h : MapF keyI w 3 b n f) {I : List Int} (hn : I.Nodup) (hs : ∀ x, x ∈ I ↔ (f x).isSome = true) (ty : TypeId) {t e : TypeId} (ht : Tryz.prog.underlying t = some (.map 3 e)) :
 (Builtin.len_ #[t] ty #[.map (some b)]).run Tryz.prog w = .ok (.int .i64 I.length) w := by
 obtain ⟨D, h1, _, h3⟩ := h
 rw [h1.len ht ty]
 obtain ⟨es, hD, hpw, _⟩ := h1.entries int_keyedA
 obtain ⟨es', hD', hko⟩ := h1.keysOf
 obtain rfl : es = es' := by rw [hD] at hD'; simpa using hD'
 subst hD
 have hk : ∀ p ∈ es, ∃ x, p.1 = keyI x := fun p hp => by
  obtain ⟨v, hv⟩ := hko p hp
  obtain ⟨x, _, hx⟩ := inv_int _ _ hv
  exact ⟨x, hx⟩
 have hnd : (es.map fun p => intOfL p.1).Nodup := by
  refine List.pairwise_map.2 (List.Pairwise.imp_of_mem (fun {p q} hp' hq' hne e => hne ?_) hpw)
  obtain ⟨a, ha⟩ := hk p hp'
  obtain ⟨b, hb⟩ := hk q hq'
  rw [ha, hb] at e ⊢
  exact congrArg _ e
 have hp : (es.map fun p => intOfL p.1).Perm I := (List.perm_ext_iff_of_nodup hnd hn).2 fun x => by
  rw [hs, ← (h3 x).2, Maps.has_eq, List.any_eq_true, List.mem_map]
  constructor
  · rintro ⟨p, hp', rfl⟩
    obtain ⟨a, ha⟩ := hk p hp'
    exact ⟨p, hp', by rw [ha]; simp [Lit.sameKey, intOfL, keyI]⟩
  · rintro ⟨p, hp', hs⟩
    obtain ⟨a, ha⟩ := hk p hp'
    rw [ha] at hs
    exact ⟨p, hp', by rw [ha]; simpa [Lit.sameKey, intOfL, keyI] using hs⟩
 have h4 := hp.length_eq
 rw [List.length_map] at h4
 rw [Maps.size_eq, ← h4]
section
variable {base tb mb K : Nat} {T : TreeD} {A : Int → NodeA}
theorem nodeF_ids (T : TreeD) (A : Int → NodeA) (x : Int) : x ∈ T.ids ↔ (nodeF T A x).isSome = true := by
 unfold nodeF
 split
 · rename_i h; exact ⟨fun _ => rfl, fun _ => h⟩
 · rename_i h; exact ⟨fun k => absurd k h, fun k => by cases k⟩
theorem nodeF_some {x : Int} {v : Value} (h : nodeF T A x = some v) : x ∈ T.ids ∧ v = .pointer (some ⟨(A x).blk, 0, none⟩) := by
 unfold nodeF at h
 split at h
 · rename_i hx; exact ⟨hx, (Option.some.inj h).symm⟩
 · cases h
theorem TreeM.len (w : World) (hT : TreeM w base tb mb K T A) (hn : T.ids.Nodup) : (Builtin.len_ #[201] 3 #[.map (some mb)]).run Tryz.prog w = .ok (.int .i64 T.ids.length) w :=
 hT.map.size_ints hn (nodeF_ids T A) _ Tryz.underlying201
set_option maxRecDepth 100000 in
set_option maxHeartbeats 6400000 in
theorem tree_Used (w : World) (hT : TreeM w base tb mb K T A) (hg : GoodT T) {L : Nat} (hf : FitT T L) (hL : L ≤ 1000000000000) :
 Calls Tryz.prog 118 #[.pointer (some ⟨tb, 0, none⟩)] w fun e w' => e = .returned (.int .i64 (usedT T)) ∧ Ext w w' := by
 obtain ⟨R, hR⟩ : ∃ R : Ending → World → Prop, R = fun e w' => e = .returned (.int .i64 (usedT T)) ∧ Ext w w' := ⟨_, rfl⟩
 rw [← hR]
 have HR := Lib.hid hR; clear hR
 have c1 := blk_cell hT.top 0 (Value.map (some mb)) rfl
 have HT := Lib.hid hT; clear hT
 have HG := Lib.hid hg; clear hg
 have HF := Lib.hid hf; clear hf
 go_enter Tryz.func118, Tryz.ntmps118
 go_wp2_with (first
  | (at_range; refine wpList_range_F rfl _ 201 rfl 200 int_keyedA Tryz.underlying201 mb K (nodeF T A) rfl HT.out.map ?_; intro w0 c0 hg0 hx0 hs0)
  | go_in)
 go_frame
 obtain ⟨r, hr⟩ : ∃ r, r = w.heap.size := ⟨_, rfl⟩
 rw [← hr] at hg0 ⊢
 have HRW : Hid (w.heap.size ≤ r) := Lib.hid (by rw [hr]; exact Nat.le_refl _)
 have HX0 := Lib.hid hx0
 have HG0 := Lib.hid hg0
 clear hr hx0 hg0 hs0 c1
 go_loopw [3] (fun v wr => ∃ (left : Int → Bool) (cnt : Nat) (s : Nat), v = .int .i64 s ∧ s ≤ L * 3500 ∧ Hid (MapG keyI wr 3 mb r K (nodeF T A) left cnt) ∧ Hid (s = ((seenT T.ids left).map fun i => (T.node i).data.length).sum) ∧ Hid (Ext w wr)) (fun _ wr => wr.rangeLeft mb r)
 case atStart =>
  refine ⟨_, c0, 0, rfl, Nat.zero_le _, HG0, Lib.hid ?_, HX0⟩
  rw [seen_none (fun x hx => (nodeF_ids T A x).1 hx)]
  rfl
 case round =>
  clear HG0 HX0
  obtain ⟨left, cnt, s, rfl, hsl, hg, hsum, hX⟩ := hrel
  have HGC := Lib.hid hg.out.count
  go_wp2_with (first
   | (at_next; refine wpList_next_F rfl _ rfl int_keyedA (fun x => .int .i64 x) keyI_inj inv_int mb r K (nodeF T A) left cnt rfl hg.out ?_ ?_)
   | go_in)
  rotate_left
  · intro x v w1' cnt1 hkey hlp hfp hg1 hlt1 hk1 hs1 hen
    obtain ⟨hxm, rfl⟩ := nodeF_some hfp
    have hx1' : Ext w w1' := ((Keep.of_ext (S := fun j => j < w.heap.size) hX.out).andThen hk1 (fun j hj _ => by have := HRW.out; show j ≠ r; omega)).ext_lt
    have c2 := blk_cell ((HT.out.ext hx1').node x hxm).1 2 (Value.slice (A x).da (T.node x).data.length (A x).dc) rfl
    have hd := HF.out.data x hxm
    have hsum' := seen_sum HG.out.nodup hxm hlp fun i => (T.node i).data.length
    rw [← hsum.out] at hsum'
    have hle : ((seenT T.ids fun z => left z && !decide (z = x)).map fun i => (T.node i).data.length).sum ≤ L * 3500 := by
     refine Nat.le_trans (sum_le _ _ 3500 (fun i hi => HF.out.data i (List.mem_filter.1 hi).1)) (Nat.mul_le_mul_right _ ?_)
     exact Nat.le_trans seen_len HF.out.count
    rw [hsum'] at hle
    have HS1 := Lib.hid hsum'
    have HG1 := Lib.hid hg1
    have HX1' := Lib.hid hx1'
    have HLT1 := Lib.hid hlt1
    clear hg1 hx1' hk1 hs1 hkey hlp hfp hlt1 hsum'
    generalize (T.node x).data.length = m at c2 hd hle HS1
    have hm : 0 ≤ (s : Int) + m ∧ (s : Int) + m ≤ 9000000000000000000 := by omega
    go_wp2_with fail
    go_roundw
    case rel => exact ⟨_, cnt1, s + m, by go_num, by omega, HG1, Lib.hid (by rw [HS1.out]; omega), HX1'⟩
    case measure =>
     rw [HG1.out.count, HGC.out]
     exact HLT1.out
  · intro hall
    have hfin := hsum.out
    rw [seen_all hall] at hfin
    have HFN : Hid (s = usedT T) := Lib.hid hfin
    clear hfin hall
    go_wp2_with fail
    rw [HR.out]
    exact ⟨by rw [← HFN.out]; rfl, hX.out⟩
end
end Go.Proofs.YtefpllpichhojaaGreatDoor
