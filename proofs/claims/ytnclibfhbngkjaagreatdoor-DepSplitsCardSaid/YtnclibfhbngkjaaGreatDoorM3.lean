/- Several texts of mine, one behind the other: MapKeys, BaseNames, BaseCopy, Rec, RecNum, Bytes, RecRaw, Pack, PackAll, Parts, RowApp, BaseClone, OrdersK. -/
import Derived.Test.YtnclibfhbngkjaaGreatDoorMapRange
import Derived.Test.YtnclibfhbngkjaaGreatDoorBaseMem
import Derived.Sort.KeysCollected
import Derived.Test.YtnclibfhbngkjaaGreatDoorM2
import Derived.Shelf.SlIter.Nil
import Derived.Shelf.SortM.Plain
import Derived.Shelf.SortM.SortNone
import Derived.Shelf.AbstractIn
import Derived.Outline
import Derived.BigQuiet
import Derived.Deep.QuietTactic
import Derived.Lib.EndianBits
import Derived.WalkSpells
import Derived.WalkLawsBesides
import Derived.Lib.ConvBytes
import Derived.Deep.AppendLies
import Derived.Shelf.SlicesE.Clone
import Derived.OrdersHeld
import Derived.Deep.RegionHeld3
namespace Go.Proofs.YtnclibfhbngkjaaGreatDoor
open Go.RowKit
theorem encStr_bs (x : List UInt8) : encStr x = .string (bs x) := rfl
/-- What the map's own keys are, in order. -/
theorem sorted_names {D : DataW Value} {w : World} {b n : Nat} {f : By → Option Value} (h1 : w.ownsMap Tryz.prog 9 selfR b n D) (h3 : ∀ x, Maps.has D (keyS x) = (f x).isSome) {ss : List By} (hp : ss.Perm (strKeys D)) :
    (ss.mergeSort leB).Pairwise (fun x y => x ≤ y) ∧ (ss.mergeSort leB).Nodup ∧ ∀ x, x ∈ ss.mergeSort leB ↔ (f x).isSome = true := by
  obtain ⟨es, hD, hpw, _⟩ := h1.entries str_keyed
  obtain ⟨es', hD', hko⟩ := h1.keysOf
  obtain rfl : es = es' := by rw [hD] at hD'; simpa using hD'
  subst hD
  have hk : ∀ p ∈ es, ∃ x, p.1 = .string x := fun p hp => by obtain ⟨v, hv⟩ := hko p hp; obtain ⟨x, _, hx, _⟩ := Maps.keyOf_str Tryz.underlying9 hv; exact ⟨x, hx⟩
  have tr : ∀ a b c : List UInt8, leB a b = true → leB b c = true → leB a c = true := fun a b c h1 h2 => by simp only [leB, decide_eq_true_eq] at *; exact List.le_trans h1 h2
  have tot : ∀ a b : List UInt8, (leB a b || leB b a) = true := fun a b => by simp only [leB, Bool.or_eq_true, decide_eq_true_eq]; exact List.le_total a b
  have hs := List.pairwise_mergeSort tr tot ss
  have hm : (ss.mergeSort leB).Perm (strKeys (.map es)) := (List.mergeSort_perm ss _).trans hp
  have hnd : (strKeys (.map es)).Nodup := by
    show (es.map fun p => strOf p.1).Nodup
    refine List.pairwise_map.2 (List.Pairwise.imp_of_mem (fun {p q} hp' hq' hne e => hne ?_) hpw)
    obtain ⟨a, ha⟩ := hk p hp'
    obtain ⟨b, hb⟩ := hk q hq'
    rw [ha, hb] at e ⊢
    exact congrArg _ e
  refine ⟨List.Pairwise.imp (fun {a b} h => by simpa [leB] using h) hs, hm.nodup_iff.2 hnd, fun x => ?_⟩
  rw [hm.mem_iff, ← h3 x]
  show x ∈ es.map (fun p => strOf p.1) ↔ Maps.has (.map es) (.string x) = true
  rw [Maps.has_eq, List.any_eq_true, List.mem_map]
  constructor
  · rintro ⟨p, hp', rfl⟩
    obtain ⟨a, ha⟩ := hk p hp'
    exact ⟨p, hp', by rw [ha]; simp [Lit.sameKey, strOf]⟩
  · rintro ⟨p, hp', hs⟩
    obtain ⟨a, ha⟩ := hk p hp'
    rw [ha] at hs
    exact ⟨p, hp', by rw [ha]; simpa [Lit.sameKey, strOf] using hs⟩
end Go.Proofs.YtnclibfhbngkjaaGreatDoor
namespace Go.Proofs.YtnclibfhbngkjaaGreatDoor
open Go.RowKit Go.Maps Go.Sort Go.Shelf
theorem sorts_names (m : Nat) : AnyZ.SortsIn Tryz.prog Tryz.sorted_string_ren Fence.wide m :=
  ⟨fun blk off cap ss W hH hblk hsz => callsIn_wide.2 (AnyM.slices_Sort_string Tryz.sort_string blk off cap ss W hH hblk hsz),
   fun p cap W => callsIn_wide.2 (AnyM.slices_Sort_string_none Tryz.sort_string p cap W)⟩
set_option maxRecDepth 100000 in
set_option maxHeartbeats 3200000 in
theorem names_some {H : Type} (b nn : Nat) (D0 : DataW H) (R : Value → Option (DataW H × List MemPlace)) (w : World) (hown : w.ownsMap Tryz.prog 9 R b nn D0) (hmax : Maps.size D0 ≤ 100000) :
    Calls Tryz.prog 20 #[.agg #[.map (some b)]] w fun e w' => ∃ (v : Value) (ss : List (List UInt8)), e = .returned v ∧ ss.Perm (strKeys D0) ∧
      w'.ownsRow w.heap.size 9 1 v ss.length ((ss.mergeSort (fun x y => decide (x ≤ y))).map encStr) ∧ Below w.heap.size w w' := by
  refine (callsIn_wide (n := 6)).1 ?_
  have hbl := hown.lt
  have hseq : SeqGives Fence.wide 2 Tryz.prog 81 #[.pointer (some ⟨w.heap.size + 1, 0, none⟩)] encStr (fun ss => ss.Perm (strKeys D0)) (Maps.size D0) ((w.alloc (.cells #[.map (some b)] 42)).alloc (.cells #[.map (some b)] 40)) :=
    AnyZ.keys_gives (ρ := Tryz.keys_base_Entry_ren) { Tryz.keys_base_Entry with } Fence.wide _ trivial rfl (by omega) (w.heap.size + 1) b nn D0 _ (by simp) (by simp) (by
      obtain ⟨es, clock, hb, Ft, hs, hD⟩ := hown
      exact ⟨es, clock, (Below.heap_alloc _ _ b (by simp; omega)).trans ((Below.heap_alloc _ _ b hbl).trans hb), Ft, hs, hD⟩)
  have cK : ∀ mb W, CallsIn Fence.wide 5 Tryz.prog 61 #[.map mb] W fun e w' => e = .returned (.func (.func 81) #[] #[.pointer (some ⟨W.heap.size, 0, none⟩)]) ∧ w' = W.alloc (.cells #[.map mb] 40) := fun mb W => AnyZ.keys_in Tryz.keys_base_Entry Fence.wide 5 trivial rfl mb W
  have cS := AnyZ.sorted_in Tryz.sorted_string Fence.wide 5 trivial trivial trivial trivial rfl (by omega) (sorts_names _) (enters_of Tryz.func65 (by kernel_rfl) rfl) 81 #[.pointer (some ⟨w.heap.size + 1, 0, none⟩)] trivial (enters_of Tryz.func81 (by kernel_rfl) rfl) _ _ (by unfold maxLen; omega) (by omega) _ hseq
  change CallsIn _ _ Tryz.prog 60 _ _ _ at cS
  have hfK : Fence.wide.fn 61 := trivial
  have hfS : Fence.wide.fn 60 := trivial
  refine callsIn_of_wp Tryz.func20 rfl trivial ?_ rfl
  simp only [Tryz.ntmps20, List.size_toArray, List.length_cons, List.length_nil, Nat.reduceAdd, Nat.reduceSub, Array.replicate_succ, Array.replicate_zero, List.push_toArray, List.append_toArray, List.nil_append, List.cons_append]
  gi_wp2_with (first
    | (gi_at_call 61; refine (cK _ _).mono ?_; rintro e w' ⟨rfl, rfl⟩)
    | (gi_at_call 60; refine cS.mono ?_; rintro e w' ⟨v, ss, rfl, hS, hrow, hnil, hb⟩))
  go_ret
  exact ⟨v, ss, rfl, hS, ownsRow_base_a hrow (by simp; omega), ((((Below.refl _ w).alloc (Nat.le_refl _) _).alloc (by simp) _).trans (hb.mono (by simp; omega)))⟩
set_option maxRecDepth 100000 in
set_option maxHeartbeats 3200000 in
theorem names_none (w : World) : Calls Tryz.prog 20 #[.agg #[.map none]] w fun e w' => e = .returned (.slice none 0 0) ∧ Below w.heap.size w w' := by
  refine (callsIn_wide (n := 6)).1 ?_
  have hseq : SeqGives Fence.wide 2 Tryz.prog 81 #[.pointer (some ⟨w.heap.size + 1, 0, none⟩)] encStr (fun ss : List (List UInt8) => ss = []) 0 ((w.alloc (.cells #[.map none] 42)).alloc (.cells #[.map none] 40)) :=
    AnyZ.keys_gives_nil (ρ := Tryz.keys_base_Entry_ren) { Tryz.keys_base_Entry with } Fence.wide _ trivial rfl (w.heap.size + 1) _ (by simp) (by simp)
  have cK : ∀ mb W, CallsIn Fence.wide 5 Tryz.prog 61 #[.map mb] W fun e w' => e = .returned (.func (.func 81) #[] #[.pointer (some ⟨W.heap.size, 0, none⟩)]) ∧ w' = W.alloc (.cells #[.map mb] 40) := fun mb W => AnyZ.keys_in Tryz.keys_base_Entry Fence.wide 5 trivial rfl mb W
  have cS := AnyZ.sorted_in Tryz.sorted_string Fence.wide 5 trivial trivial trivial trivial rfl (by omega) (sorts_names _) (enters_of Tryz.func65 (by kernel_rfl) rfl) 81 #[.pointer (some ⟨w.heap.size + 1, 0, none⟩)] trivial (enters_of Tryz.func81 (by kernel_rfl) rfl) _ 0 (Nat.zero_le _) (by omega) _ hseq
  change CallsIn _ _ Tryz.prog 60 _ _ _ at cS
  have hfK : Fence.wide.fn 61 := trivial
  have hfS : Fence.wide.fn 60 := trivial
  refine callsIn_of_wp Tryz.func20 rfl trivial ?_ rfl
  simp only [Tryz.ntmps20, List.size_toArray, List.length_cons, List.length_nil, Nat.reduceAdd, Nat.reduceSub, Array.replicate_succ, Array.replicate_zero, List.push_toArray, List.append_toArray, List.nil_append, List.cons_append]
  gi_wp2_with (first
    | (gi_at_call 61; refine (cK _ _).mono ?_; rintro e w' ⟨rfl, rfl⟩)
    | (gi_at_call 60; refine cS.mono ?_; rintro e w' ⟨v, ss, rfl, rfl, hrow, hnil, hb⟩; obtain rfl : v = .slice none 0 0 := hnil.2 rfl))
  go_ret
  exact ⟨rfl, ((((Below.refl _ w).alloc (Nat.le_refl _) _).alloc (by simp) _).trans (hb.mono (by simp; omega)))⟩
/-- What Names answers. -/
def NamesR (N : Nat) (f : BaseF) (w : World) (e : Ending) (w' : World) : Prop := ∃ a c ss, e = .returned (.slice a ss.length c) ∧ NamesF f ss ∧ OwnS w' w.heap.size a c ss ∧ ss.length ≤ N ∧ Ext w w'
theorem base_names (v : Value) (N : Nat) (f : BaseF) (w : World) (hb : BaseM w v N f) (hN : N ≤ 100000) : Calls Tryz.prog 20 #[v] w (NamesR N f w) := by
  rcases hb with ⟨rfl, rfl⟩ | ⟨b, A, rfl, h⟩
  · exact (names_none w).mono fun e w' ⟨he, hb⟩ => ⟨none, 0, [], he, ⟨by simp, by simp, by simp [noneF]⟩, OwnS.nil _ _, Nat.zero_le _, hb⟩
  · obtain ⟨D, h1, h2, h3⟩ := h.1
    have hs := h1.size_le
    refine (names_some b N D selfR w h1 (by omega)).mono ?_
    rintro e w' ⟨v, ss, rfl, hp, hr, hb⟩
    obtain ⟨g1, g2, g3⟩ := sorted_names h1 (f := entF f A) (fun x => (h3 x).2) hp
    have hl : (ss.mergeSort leB).length = ss.length := (List.mergeSort_perm ss leB).length_eq
    have hsz : ss.length ≤ N := by
      rw [hp.length_eq]
      obtain ⟨es, hD⟩ := h2
      rw [hD] at hs ⊢
      simpa [strKeys, Maps.size_eq] using hs
    have hv : ∃ a c, v = .slice a ss.length c := by
      rcases hr.2 with ⟨q1, q2⟩ | ⟨g, c, cur, q1, _⟩
      · exact ⟨none, 0, by rw [q1, q2]⟩
      · exact ⟨_, c, q1⟩
    obtain ⟨a, c, rfl⟩ := hv
    refine ⟨a, c, ss.mergeSort leB, by rw [hl], ⟨g1, g2, fun x => ?_⟩, ?_, by rw [hl]; exact hsz, hb⟩
    · rw [g3 x]
      unfold entF
      cases f x <;> simp
    · unfold OwnS
      rw [hl]
      exact hr
end Go.Proofs.YtnclibfhbngkjaaGreatDoor
namespace Go.Proofs.YtnclibfhbngkjaaGreatDoor
open Go.RowKit
theorem entF_some {f : BaseF} {A : By → PkgA} {x : By} {v : Value} (h : entF f A x = some v) : ∃ e, f x = some e ∧ v = pkgV e (A x) := by
  unfold entF at h
  cases hf : f x with
  | none => rw [hf] at h; cases h
  | some e => rw [hf] at h; exact ⟨e, rfl, (Option.some.inj h).symm⟩
set_option maxRecDepth 100000 in
set_option maxHeartbeats 3200000 in
theorem base_copy (bd b N : Nat) (f : BaseF) (A : By → PkgA) (w : World) (hd : MapF keyS w 9 bd 0 (fun _ => none)) (hs : EntsM w b N f A) (hne : b ≠ bd) (hN : N ≤ 100000) :
    Calls Tryz.prog 58 #[.map (some bd), .map (some b)] w fun e w' => e = .returned (.tuple #[]) ∧ MapF keyS w' 9 bd N (entF f A) ∧ Keep (· ≠ bd) w w' := by
  obtain ⟨R, hR⟩ : ∃ R : Ending → World → Prop, R = fun e w' => e = .returned (.tuple #[]) ∧ MapF keyS w' 9 bd N (entF f A) ∧ Keep (· ≠ bd) w w' := ⟨_, rfl⟩
  rw [← hR]
  have HR := Lib.hid hR; clear hR
  have HD := Lib.hid hd; clear hd
  have HS := Lib.hid hs; clear hs
  have hbl := HS.out.lt
  have hdl := HD.out.lt
  have HNE := Lib.hid hne; clear hne
  go_enter Tryz.func58, Tryz.ntmps58
  go_wp2_with (first
    | (at_range; refine wpList_range_F rfl _ 40 rfl 37 str_keyed Tryz.underlying40 b N (entF f A) rfl HS.out.1 ?_; intro w0 c0 hg0 hx0 hs0)
    | go_in)
  go_frame
  obtain ⟨r, hr⟩ : ∃ r, r = w.heap.size := ⟨_, rfl⟩
  rw [← hr] at hg0 hbl hdl ⊢
  have HRS := Lib.hid hr; clear hr hs0
  go_loopw [8] (fun _ wr => ∃ (left : By → Bool) (cnt k : Nat), Hid (MapG keyS wr 9 b r N (entF f A) left cnt) ∧ k + cnt ≤ N ∧ Hid (MapF keyS wr 9 bd k (fun x => if left x then none else entF f A x)) ∧ Hid (Keep (· ≠ bd) w wr)) (fun _ wr => wr.rangeLeft b r)
  case atStart =>
    refine ⟨_, c0, 0, Lib.hid hg0, by have := hg0.cnt_le; omega, Lib.hid ((HD.out.ext hx0).same ?_), Lib.hid (Keep.of_ext hx0)⟩
    funext x
    cases entF f A x <;> simp
  case round =>
    obtain ⟨left, cnt, k, hg, hk, hm, hkp⟩ := hrel
    have HGC := Lib.hid hg.out.count
    go_wp2_with (first
      | (at_next; refine wpList_next_F rfl _ rfl str_keyed (fun x => .string (bs x)) keyS_inj inv_str b r N (entF f A) left cnt rfl hg.out ?_ ?_)
      | go_in)
    · intro hl
      have HL := Lib.hid hl; clear hl
      go_wp2_with fail
      go_end0
      rw [HR.out]
      refine ⟨rfl, (hm.out.same ?_).mono (by omega), hkp.out⟩
      funext x
      rw [HL.out x]
      simp
    · intro x v w1 cnt1 hkey hlx hfx hg1 hlt hk1 hs1 hen
      obtain ⟨e, he, hv⟩ := entF_some hfx
      generalize A x = Ax at hv
      obtain ⟨an, ac, af, au, cn, cc, cf, cu⟩ := Ax
      unfold pkgV at hv
      simp only at hv
      subst hv
      have HFX := Lib.hid hfx; clear hfx he
      have HG1 := Lib.hid hg1; clear hg1
      have HM1 := Lib.hid (hm.out.keep hk1 (by have := HRS.out; omega))
      have HK1 := Lib.hid hk1; clear hk1 hg hm
      have HLX := Lib.hid hlx; clear hlx hs1
      go_wp2_with (first
        | (at_mapUpdate; refine wpList_store_F rfl _ _ _ 40 rfl 37 str_keyed Tryz.underlying40 bd k _ rfl (HM1.out.ext (Ext.alloc _ _)) (by unfold maxLen; omega) keyS_inj _ (.agg #[.string (bs e.name), .string (bs e.ver), .slice an e.needs.length cn, .slice ac e.conf.length cc, .slice af e.files.length cf, .slice au e.units.length cu]) x rfl rfl hkey ?_; intro w2 hm2 hk2; go_frame)
        | go_in)
      have hx1 : Ext w1 (w1.alloc (.cells #[.string (bs e.name), .string (bs e.ver), .slice an e.needs.length cn, .slice ac e.conf.length cc, .slice af e.files.length cf, .slice au e.units.length cu] 37)) := Ext.alloc _ _
      have HX1 := Lib.hid hx1; clear hx1
      have hr1 := HRS.out
      have hg2 := (HG1.out.ext HX1.out).keep hk2 HNE.out (by omega)
      go_roundw
      case rel =>
        refine ⟨_, cnt1, k + 1, Lib.hid hg2, by omega, Lib.hid (hm2.same ?_), Lib.hid (((hkp.out.andThen HK1.out (fun j hj _ => by omega)).andThen (Keep.of_ext (S := fun j => j ≠ bd) HX1.out) (fun _ _ h => h)).trans hk2)⟩
        funext z
        by_cases hz : z = x
        · subst hz
          rw [if_pos rfl, HFX.out]
          simp
        · rw [if_neg hz]
          simp [hz]
      case measure =>
        rw [hg2.count, HGC.out]
        exact hlt
set_option maxHeartbeats 1600000 in
theorem base_copy_nil (bd : Nat) (w : World) (hd : MapF keyS w 9 bd 0 (fun _ => none)) :
    Calls Tryz.prog 58 #[.map (some bd), .map none] w fun e w' => e = .returned (.tuple #[]) ∧ MapF keyS w' 9 bd 0 (fun _ => none) ∧ Keep (· ≠ bd) w w' := by
  have HD := Lib.hid hd; clear hd
  have hrg := run_range_nilMap (P := Tryz.prog) w 40 _ _ Tryz.underlying40
  have hnx : ∀ ty, (Instr.next (.pointer (some ⟨w.heap.size, 0, none⟩)) false ty).run Tryz.prog (w.alloc (.mapIter none 0 #[] 0)) = _ := fun ty => run_next_nilMap _ ty 0 0 #[]
  go_enter Tryz.func58, Tryz.ntmps58
  go_wp2
  refine wp_loop_rounds 1 ?_
  rw [rounds_succ]
  go_wp2
  go_end0
  exact ⟨rfl, HD.out.ext (Ext.alloc _ _), Keep.of_ext (Ext.alloc _ _)⟩
end Go.Proofs.YtnclibfhbngkjaaGreatDoor
namespace Go.Proofs.YtnclibfhbngkjaaGreatDoor
open Go.RowKit
/-- A reader stands in this block, its bytes in blocks of a kind. -/
def Rd (S : Nat → Prop) (w : World) (R : Nat) (s : RSt) : Prop :=
  ∃ a c, w.heap[R]? = some (.cells #[.slice a s.1.length c, .bool s.2] 132 (0, 0)) ∧ s.1.length ≤ c ∧ BytesS S w a s.1
theorem Rd.lt {S : Nat → Prop} {w : World} {R : Nat} {s : RSt} (h : Rd S w R s) : R < w.heap.size := by
  obtain ⟨a, c, hg, _⟩ := h
  exact (Array.getElem?_eq_some_iff.1 hg).1
theorem cell_not {S : Nat → Prop} {w : World} {R : Nat} {s : RSt} (h : Rd S w R s) {g o : Nat} {v : Value} (hv : w.cell? ⟨g, o, none⟩ = some v) (h1 : ∀ a n c, v ≠ .slice a n c) (h2 : ∀ b, v ≠ .bool b) : g ≠ R := by
  rintro rfl
  obtain ⟨a, c, hg, _⟩ := h
  unfold World.cell? at hv
  simp only [hg] at hv
  match o, hv with
  | 0, hv => simp at hv; exact h1 _ _ _ hv.symm
  | 1, hv => simp at hv; exact h2 _ hv.symm
  | o + 2, hv => simp at hv
theorem Bytes.but {S : Nat → Prop} {w w' : World} {R : Nat} {s : RSt} {a : Option Addr} {l : List UInt8} (hR : Rd S w R s) (h : Bytes w a l) (k : But R w w') : Bytes w' a l := by
  rcases h with h | ⟨g, off, ha, hg, hc⟩
  · exact Or.inl h
  · refine Or.inr ⟨g, off, ha, Nat.lt_of_lt_of_le hg k.size, fun i hi => k.cell ?_ (hc i hi)⟩
    exact cell_not hR (hc i hi) (by intros; simp) (by intros; simp)
theorem BytesS.but {S T : Nat → Prop} {w w' : World} {R : Nat} {s : RSt} {a : Option Addr} {l : List UInt8} (hR : Rd S w R s) (h : BytesS T w a l) (k : But R w w') : BytesS T w' a l := by
  rcases h with h | ⟨g, off, ha, hg, hS, hc⟩
  · exact Or.inl h
  · refine Or.inr ⟨g, off, ha, Nat.lt_of_lt_of_le hg k.size, hS, fun i hi => ?_⟩
    have hi' : i < l.length := by simpa [byteV] using hi
    have h1 := hc i hi
    rw [byteV_at hi'] at h1 ⊢
    exact k.cell (cell_not hR h1 (by intros; simp) (by intros; simp)) h1
theorem Rd.but {S T : Nat → Prop} {w w' : World} {R Q : Nat} {s t : RSt} (hR : Rd S w R s) (h : Rd T w Q t) (k : But R w w') (hne : Q ≠ R) : Rd T w' Q t := by
  have hlt := h.lt
  obtain ⟨a, c, hg, hc, hb⟩ := h
  exact ⟨a, c, (k.block Q hlt hne).trans hg, hc, hb.but hR k⟩
theorem Rd.ext {S : Nat → Prop} {w w' : World} {Q : Nat} {t : RSt} (h : Rd S w Q t) (k : Ext w w') : Rd S w' Q t := by
  obtain ⟨a, c, hg, hc, hb⟩ := h
  exact ⟨a, c, k.heap hg, hc, Row.keep hb (Keep.of_ext k)⟩
theorem Rd.keep {S T : Nat → Prop} {w w' : World} {Q : Nat} {t : RSt} (h : Rd S w Q t) (k : Keep T w w') (hQ : T Q) (hS : ∀ g, g < w.heap.size → S g → T g) : Rd S w' Q t := by
  obtain ⟨a, c, hg, hc, hb⟩ := h
  refine ⟨a, c, k.heap hQ hg, hc, ?_⟩
  rcases hb with hb | ⟨g, off, ha, hlt, hSg, hcell⟩
  · exact Or.inl hb
  · refine Or.inr ⟨g, off, ha, Nat.lt_of_lt_of_le hlt k.size, hSg, fun i hi => ?_⟩
    have := hcell i hi
    rw [List.getElem?_eq_getElem hi] at this ⊢
    exact k.cell (hS g hlt hSg) this
theorem Rd.mono {S T : Nat → Prop} {w : World} {Q : Nat} {t : RSt} (h : Rd S w Q t) (hT : ∀ g, g < w.heap.size → S g → T g) : Rd T w Q t := by
  obtain ⟨a, c, hg, hc, hb⟩ := h
  exact ⟨a, c, hg, hc, Row.mono hb hT⟩
theorem rd_num_bad {S : Nat → Prop} {w : World} {R : Nat} {s : RSt} (h : Rd S w R s) : But R w ((w.setCell ⟨R, 1, none⟩ (.bool true)).setCell ⟨R, 0, none⟩ (.slice none 0 0)) ∧ Rd S ((w.setCell ⟨R, 1, none⟩ (.bool true)).setCell ⟨R, 0, none⟩ (.slice none 0 0)) R ([], true) := by
  obtain ⟨a, c, hg, hc, hb⟩ := h
  refine ⟨((But.refl R w).setCell 1 _).setCell 0 _, none, 0, ?_, Nat.le_refl _, Or.inl rfl⟩
  rw [setCell_row (setCell_row hg _)]
  rfl
theorem rd_cut {S : Nat → Prop} {w : World} {R g off c k : Nat} {s : RSt} {a' : Option Addr} {c' : Nat} (hg : w.heap[R]? = some (.cells #[.slice (some ⟨g, off, none⟩) s.1.length c, .bool s.2] 132 (0, 0))) (hc : s.1.length ≤ c) (hb : BytesS S w (some ⟨g, off, none⟩) s.1) (hk : k ≤ s.1.length)
    (ha : s.1.length = k ∨ a' = some ⟨g, off + k, none⟩) (hc' : s.1.length - k ≤ c') :
    But R w (w.setCell ⟨R, 0, none⟩ (.slice a' (s.1.length - k) c')) ∧ Rd S (w.setCell ⟨R, 0, none⟩ (.slice a' (s.1.length - k) c')) R (s.1.drop k, s.2) := by
  have hB : But R w (w.setCell ⟨R, 0, none⟩ (.slice a' (s.1.length - k) c')) := (But.refl R w).setCell 0 _
  have hR : Rd S w R s := ⟨_, _, hg, hc, hb⟩
  refine ⟨hB, a', c', ?_, by simpa using hc', ?_⟩
  · rw [setCell_row hg]; simp
  · rcases ha with h | rfl
    · left; simp [byteV, h]
    · have hb2 := hb.but hR hB
      rcases hb2 with h | ⟨g', off', ha, hlt, hSg, hcell⟩
      · left
        have : s.1 = [] := by simpa [byteV] using h
        simp [byteV, this]
      · have ha := Option.some.inj ha
        obtain ⟨rfl, rfl⟩ : g = g' ∧ off = off' := by constructor <;> (cases ha; rfl)
        right
        refine ⟨g, off + k, rfl, hlt, hSg, fun i hi => ?_⟩
        have hi' : k + i < s.1.length := by simp [byteV] at hi; omega
        have := hcell (k + i) (by simpa [byteV] using hi')
        rw [← Nat.add_assoc] at this
        rw [this]
        simp [byteV, List.getElem?_drop]
theorem rd_facts {w : World} {R : Nat} {v0 v1 : Value} {t : TypeId} (hg : w.heap[R]? = some (.cells #[v0, v1] t (0, 0))) :
    w.cell? ⟨R, 0, none⟩ = some v0 ∧ w.cell? ⟨R, 1, none⟩ = some v1 ∧ w.frozen? ⟨R, 0, none⟩ = false ∧ w.frozen? ⟨R, 1, none⟩ = false := by
  refine ⟨?_, ?_, ?_, ?_⟩
  · unfold World.cell?; simp only [hg]; simp
  · unfold World.cell?; simp only [hg]; simp
  · unfold World.frozen?; simp only [hg]; simp
  · unfold World.frozen?; simp only [hg]; simp
end Go.Proofs.YtnclibfhbngkjaaGreatDoor
namespace Go.Proofs.YtnclibfhbngkjaaGreatDoor
open Go.RowKit
theorem rNum_short {most : Nat} {s : RSt} (h : s.1.length < 4) : rNum most s = (0, ([], true)) := by unfold rNum; rw [if_pos h]
theorem rNum_big {most : Nat} {s : RSt} (h : 4 ≤ s.1.length) (k : most < le32 s.1) : rNum most s = (0, ([], true)) := by unfold rNum; rw [if_neg (by omega), if_pos k]
theorem rNum_ok {most : Nat} {s : RSt} (h : 4 ≤ s.1.length) (k : le32 s.1 ≤ most) : rNum most s = (le32 s.1, (s.1.drop 4, s.2)) := by unfold rNum; rw [if_neg (by omega), if_neg (by omega)]
theorem byteAt_lt (l : List UInt8) (i : Nat) : byteAt l i < 256 := (l.getD i 0).toNat_lt
/-- What a reader's call gives. -/
def RdR (S : Nat → Prop) (R : Nat) (w : World) (v : Value) (t : RSt) (e : Ending) (w' : World) : Prop := e = .returned v ∧ Rd S w' R t ∧ But R w w'
theorem RdR.of {S : Nat → Prop} {R : Nat} {w w' : World} {v : Value} {t : RSt} (h : But R w w' ∧ Rd S w' R t) : RdR S R w v t (.returned v) w' := ⟨rfl, h.2, h.1⟩
theorem rd_fin_ok {S : Nat → Prop} {w : World} {R g off c k nq : Nat} {s : RSt} {a' : Option Addr} {c' : Nat} {v : Value} (hg : w.heap[R]? = some (.cells #[.slice (some ⟨g, off, none⟩) s.1.length c, .bool s.2] 132 (0, 0))) (hc : s.1.length ≤ c) (hb : BytesS S w (some ⟨g, off, none⟩) s.1) (hk : k ≤ s.1.length)
    (ha : s.1.length = k ∨ a' = some ⟨g, off + k, none⟩) (hc' : s.1.length - k ≤ c') :
    RdR S R w v (s.1.drop k, s.2) (.returned v) ((w.drewN nq).setCell ⟨R, 0, none⟩ (.slice a' (s.1.length - k) c')) := by
  have h := rd_cut (w := w.drewN nq) hg hc (Row.keep hb (Keep.of_ext ((Ext.refl w).drewN nq))) hk ha hc'
  exact ⟨rfl, h.2, ((But.refl R w).drewN nq).trans h.1⟩
theorem rd_fin_bad {S : Nat → Prop} {w : World} {R g off c k nq : Nat} {s : RSt} {a' : Option Addr} {c' : Nat} {v : Value} (hg : w.heap[R]? = some (.cells #[.slice (some ⟨g, off, none⟩) s.1.length c, .bool s.2] 132 (0, 0))) (hc : s.1.length ≤ c) (hb : BytesS S w (some ⟨g, off, none⟩) s.1) (hk : k ≤ s.1.length)
    (ha : s.1.length = k ∨ a' = some ⟨g, off + k, none⟩) (hc' : s.1.length - k ≤ c') :
    RdR S R w v ([], true) (.returned v) ((((w.drewN nq).setCell ⟨R, 0, none⟩ (.slice a' (s.1.length - k) c')).setCell ⟨R, 1, none⟩ (.bool true)).setCell ⟨R, 0, none⟩ (.slice none 0 0)) := by
  have h := rd_fin_ok (nq := nq) (v := v) hg hc hb hk ha hc'
  have h2 := rd_num_bad h.2.1
  exact ⟨rfl, h2.2, h.2.2.trans h2.1⟩
set_option maxHeartbeats 1600000 in
theorem rd_num (S : Nat → Prop) (R most : Nat) (s : RSt) (w : World) (h : Rd S w R s) (hs : s.1.length ≤ 1099511627776) (hm : most ≤ 4294967295) :
    Calls Tryz.prog 50 #[.pointer (some ⟨R, 0, none⟩), .int .i64 (most : Int)] w (RdR S R w (.int .i64 ((rNum most s).1 : Nat)) (rNum most s).2) := by
  have H0 := Lib.hid h
  obtain ⟨a, c, hg, hc, hb⟩ := h
  obtain ⟨n, hn⟩ : ∃ n, n = s.1.length := ⟨_, rfl⟩
  have hg' := hg
  rw [← hn] at hg' hc hs
  obtain ⟨hR0, hR1, hF0, hF1⟩ := rd_facts hg'
  clear hg'
  have HG := Lib.hid hg; clear hg
  by_cases h4 : n < 4
  · have HN := Lib.hid (rNum_short (most := most) (s := s) (by omega))
    have HB := Lib.hid hb; clear hb
    have HNN := Lib.hid hn; clear hn
    go_enter Tryz.func50, Tryz.ntmps50
    go_wp2_with fail
    go_ret
    rw [HN.out]; exact RdR.of (rd_num_bad H0.out)
  · obtain ⟨g, off, rfl, hlt, hcell⟩ := hb.bytes.at (by intro e; rw [hn, e] at h4; simp at h4)
    have hc0 := hcell 0 (by omega)
    have hc1 := hcell 1 (by omega)
    have hc2 := hcell 2 (by omega)
    have hc3 := hcell 3 (by omega)
    rw [Nat.add_zero] at hc0
    have HB := Lib.hid hb; clear hb hcell
    have HNN := Lib.hid hn; clear hn
    have HL := Lib.hid (show le32 s.1 = byteAt s.1 0 + 256 * byteAt s.1 1 + 65536 * byteAt s.1 2 + 16777216 * byteAt s.1 3 from rfl)
    have hl0 := byteAt_lt s.1 0
    have hl1 := byteAt_lt s.1 1
    have hl2 := byteAt_lt s.1 2
    have hl3 := byteAt_lt s.1 3
    generalize hb0 : byteAt s.1 0 = b0 at *
    generalize hb1 : byteAt s.1 1 = b1 at *
    generalize hb2 : byteAt s.1 2 = b2 at *
    generalize hb3 : byteAt s.1 3 = b3 at *
    have H4 : 4 ≤ n := by omega
    have i0 : (0 : Int) < (n : Int) := by omega
    have i1 : (1 : Int) < (n : Int) := by omega
    have i2 : (2 : Int) < (n : Int) := by omega
    have i3 : (3 : Int) < (n : Int) := by omega
    clear hb0 hb1 hb2 hb3
    go_enter Tryz.func50, Tryz.ntmps50
    go_wp2_with fail
    go_quiet (fail)
    simp (disch := omega) only [u32_or8, u32_or16, u32_or24]
    by_cases hbig : most < le32 s.1
    · have HN := Lib.hid (rNum_big (s := s) (by have := HNN.out; omega) hbig)
      have hb2 : (most : Int) < (b0 : Int) + (b1 : Int) * 256 + (b2 : Int) * 65536 + (b3 : Int) * 16777216 := by have := HL.out; omega
      clear hbig
      by_cases hc4 : c = 4
      · go_wp2_with fail
        all_goals first | (exfalso; omega) | skip
        go_ret
        have e := HNN.out
        subst e
        rw [HN.out]; exact rd_fin_bad HG.out hc HB.out H4 (Or.inl (by omega)) (by omega)
      · go_wp2_with fail
        all_goals first | (exfalso; omega) | skip
        go_ret
        have e := HNN.out
        subst e
        rw [HN.out]; exact rd_fin_bad HG.out hc HB.out H4 (Or.inr rfl) (by omega)
    · have HN := Lib.hid (rNum_ok (most := most) (s := s) (by have := HNN.out; omega) (by omega))
      have hb2 : (b0 : Int) + (b1 : Int) * 256 + (b2 : Int) * 65536 + (b3 : Int) * 16777216 ≤ (most : Int) := by have := HL.out; omega
      have HV := Lib.hid (show ((le32 s.1 : Nat) : Int) = (b0 : Int) + (b1 : Int) * 256 + (b2 : Int) * 65536 + (b3 : Int) * 16777216 by have := HL.out; omega)
      clear hbig
      by_cases hc4 : c = 4
      · go_wp2_with fail
        all_goals first | (exfalso; omega) | skip
        go_ret
        have e := HNN.out
        subst e
        rw [HN.out, HV.out]; exact rd_fin_ok HG.out hc HB.out H4 (Or.inl (by omega)) (by omega)
      · go_wp2_with fail
        all_goals first | (exfalso; omega) | skip
        go_ret
        have e := HNN.out
        subst e
        rw [HN.out, HV.out]; exact rd_fin_ok HG.out hc HB.out H4 (Or.inr rfl) (by omega)
end Go.Proofs.YtnclibfhbngkjaaGreatDoor
namespace Go.Proofs.YtnclibfhbngkjaaGreatDoor
open Go.RowKit
theorem run_append_tx {P : Program} {t tx ty e e' : TypeId} (ht : P.underlying t = some (.slice e)) (htx : P.underlying tx = some (.slice e')) (v x : Value) (w : World) :
    (Builtin.append_ #[t, tx] ty #[v, x]).run P w = (Builtin.append_ #[t, t] ty #[v, x]).run P w := by
  cases v with
  | slice base n c =>
    unfold Builtin.append_
    cases hi : P.info? e with
    | none => simp [run_underlying ht, run_underlying htx, sizeOf, typeInfo, hi]
    | some i => simp [run_underlying ht, run_underlying htx, sizeOf, typeInfo, hi]
  | _ => simp [Builtin.append_, run_underlying ht]
/-- Bytes that the call has gathered so far. -/
def OwnB (w : World) (base : Nat) (a : Option Addr) (cap : Nat) (D : List UInt8) : Prop := w.ownsRow base 5 1 (.slice a D.length cap) D.length (D.map fun b => .int .u8 (b.toNat : Int))
theorem OwnB.bytes {w : World} {base : Nat} {a : Option Addr} {cap : Nat} {D : List UInt8} (h : OwnB w base a cap D) : Bytes w a D ∧ D.length ≤ cap := by
  rcases h.2 with ⟨h1, h2⟩ | ⟨g, c, cur, h1, _, hg, hn, _⟩
  · have : D = [] := List.eq_nil_of_length_eq_zero h2
    subst this; exact ⟨Or.inl rfl, Nat.zero_le _⟩
  · simp only [Value.slice.injEq] at h1
    obtain ⟨rfl, _, rfl⟩ := h1
    refine ⟨Or.inr ⟨g, 0, rfl, (Array.getElem?_eq_some_iff.1 hg).1, fun i hi => ?_⟩, hn⟩
    rw [Nat.zero_add, World.ownsRow.cellAt h i (by omega)]
    simp [hi, byteAt]
theorem ownsRow_row {w : World} {base e n : Nat} {a : Option Addr} {cap : Nat} {xs : List Value} (h : w.ownsRow base e 1 (.slice a n cap) n xs) : Row (fun _ => True) w a xs := by
  rcases h.2 with ⟨_, h2⟩ | ⟨g, c, cur, h1, _, hg, hn, _⟩
  · have := h.1
    exact Or.inl (List.eq_nil_of_length_eq_zero (by omega))
  · simp only [Value.slice.injEq] at h1
    obtain ⟨rfl, _, rfl⟩ := h1
    refine Or.inr ⟨g, 0, rfl, (Array.getElem?_eq_some_iff.1 hg).1, trivial, fun i hi => ?_⟩
    have hi' : i < n * 1 := by have := h.1; omega
    rw [Nat.zero_add, World.ownsRow.cellAt h i hi', List.getElem?_eq_getElem hi]
/-- Bytes that a call has just made lie in no older block. -/
theorem OwnB.fresh {w : World} {base : Nat} {a : Option Addr} {cap : Nat} {l : List UInt8} (h : OwnB w base a cap l) {S : Nat → Prop} (hS : ∀ k, base ≤ k → S k) : BytesS S w a l := by
  have hr := ownsRow_row h
  rcases hr with hr | ⟨g, off, ha, hg, _, hc⟩
  · exact Or.inl hr
  · refine Or.inr ⟨g, off, ha, hg, hS g ?_, hc⟩
    rcases h.2 with ⟨h1, h2⟩ | ⟨g', c, cur, h1, hb, _⟩
    · rw [ha] at h1; cases h1
    · rw [ha] at h1
      simp only [Value.slice.injEq, Option.some.injEq, Addr.mk.injEq] at h1
      rw [h1.1.1]; exact hb
theorem OwnB.base {w : World} {base b2 : Nat} {a : Option Addr} {cap : Nat} {D : List UInt8} (h : OwnB w base a cap D) (hb : b2 ≤ base) : OwnB w b2 a cap D :=
  ⟨h.1, h.2.imp id (fun ⟨g, c, cur, h1, h2, h3⟩ => ⟨g, c, cur, h1, Nat.le_trans hb h2, h3⟩)⟩
theorem OwnB.but_lt {w w' : World} {base R : Nat} {a : Option Addr} {cap : Nat} {D : List UInt8} (h : OwnB w base a cap D) (k : But R w w') (hR : R < base) : OwnB w' base a cap D :=
  ⟨h.1, h.2.imp id (fun ⟨g, c, cur, h1, h2, h3, h4⟩ => ⟨g, c, cur, h1, h2, (k.block g (Array.getElem?_eq_some_iff.1 h3).1 (by omega)).trans h3, h4⟩)⟩
theorem OwnB.nil (w : World) (base : Nat) : OwnB w base none 0 [] := World.ownsRow_nil _ _ _ _
theorem OwnB.ext {w w' : World} {base : Nat} {a : Option Addr} {cap : Nat} {D : List UInt8} (h : OwnB w base a cap D) (k : Ext w w') : OwnB w' base a cap D := by
  refine ⟨h.1, ?_⟩
  rcases h.2 with h1 | ⟨g, c, cur, h1, hb, hg, r⟩
  · exact Or.inl h1
  · exact Or.inr ⟨g, c, cur, h1, hb, k.heap hg, r⟩
theorem info_byte : (Tryz.prog.info? 5).map (fun i => (i.zero, i.size, i.bytes)) = some (some (.int .u8 0), 1, 1) := by kernel_rfl
theorem run_append_of_nil {P : Program} (w : World) (base : Nat) (t ty e : TypeId) (i : TypeInfo) (size : Nat) (ht : P.underlying t = some (.slice e)) (hi : P.info? e = some i)
    (v : Value) (n : Nat) (xs : List Value) (hown : w.ownsRow base e size v n xs) (c : Nat) : (Builtin.append_ #[t, t] ty #[v, .slice none 0 c]).run P w = .ok v w := by
  rcases hown.2 with ⟨rfl, rfl⟩ | ⟨g, cap, cur, rfl, _, _, hnc, _⟩
  · simp [Builtin.append_, run_underlying ht, sizeOf, typeInfo, hi, Builtin.lenOf, Builtin.firstCells]
  · simp [Builtin.append_, run_underlying ht, sizeOf, typeInfo, hi, Builtin.lenOf, Builtin.firstCells, hnc, storeCells]
/-- 'append(out, b...)'. -/
theorem append_bytes0 {w : World} {ops : Array Oper} {rest : List Oper} {o : Oper} {a : Act} {Q : Exit → Act → World → Prop} (hgd : o.guard = none) (s x : Operand) (tx : TypeId)
    (ho : o.op = .call { callee := .builtin .append, args := #[s, x], argTypes := #[74, tx] }) (htx : Tryz.prog.underlying tx = some (.slice 5))
    (base : Nat) (ad : Option Addr) (cap : Nat) (D p : List UInt8) (hs : a.eval s = .slice ad D.length cap) (hown : OwnB w base ad cap D)
    (b : Option Addr) (c : Nat) (hx : a.eval x = .slice b p.length c) (hb : Bytes w b p)
    (h63 : D.length + p.length ≤ 1099511627776) (hbase : base ≤ w.heap.size)
    (h : ∀ ad' cap' w', OwnB w' base ad' cap' (D ++ p) → Below base w w' →
      wpList Tryz.prog ops Q rest (a.put o.dst (.slice ad' (D.length + p.length) cap')) w') :
    wpList Tryz.prog ops Q (o :: rest) a w := by
  obtain ⟨i, hi0, hz, hsz, hby⟩ := info_parts info_byte
  cases b with
  | none =>
    have hp : p = [] := by
      rcases hb with hb | ⟨g, off, ha, _⟩
      · exact hb
      · cases ha
    subst hp
    refine wpList_plain hgd fun K hK => ?_
    have hr := run_append_of_nil (P := Tryz.prog) w base 74 o.type 5 i 1 Tryz.underlying74 hi0 _ D.length _ hown c
    have hr2 := (run_append_tx (ty := o.type) Tryz.underlying74 htx (.slice ad D.length cap) (.slice none 0 c) w).trans hr
    unfold Oper.wp execOp
    simp only [ho, resolve, invoke, builtin, Sem.run_bind, Sem.run_pure, Result.andThen_ok, List.map_toArray, List.map_cons, List.map_nil, hs, hx, List.length_nil, hr2]
    refine hK _ _ ?_
    have := h ad cap w (by rw [List.append_nil]; exact hown) (Below.refl _ _)
    simpa using this
  | some bd =>
    refine wpList_plain hgd fun K hK => ?_
    have hcells : ∀ j u, (p.map fun b => Value.int .u8 (b.toNat : Int))[j]? = some u → w.cell? (bd.add j) = some u := by
      intro j u hj
      rcases hb with hb | ⟨g, off, ha, _, hc⟩
      · subst hb; simp at hj
      · have ha := Option.some.inj ha
        subst ha
        have hj' : j < p.length := by
          have := (List.getElem?_eq_some_iff.1 hj).1
          simpa using this
        have e : (⟨g, off, none⟩ : Addr).add j = ⟨g, off + j, none⟩ := by
          unfold Addr.add; split
          · rename_i h0; subst h0; rfl
          · rfl
        rw [e, hc j hj']
        simp [hj'] at hj
        rw [← hj]; simp [byteAt, hj']
    obtain ⟨v', w', hr, h2, h3, h4⟩ := run_append_own (P := Tryz.prog) w base 74 o.type 5 i (.int .u8 0) 1 1 Tryz.underlying74 hi0 hz hsz hby rfl (by decide) _ D.length _ hown bd p.length c _ (by simp) hcells
      (by intro u hu; simp at hu; obtain ⟨b, _, rfl⟩ := hu; rfl) (by unfold maxLen; omega) (by omega) hbase
    have hr2 := (run_append_tx (ty := o.type) Tryz.underlying74 htx (.slice ad D.length cap) (.slice (some bd) p.length c) w).trans hr
    have hbel : Below base w w' := (Below.refl _ _).grown h3 hbase (fun k hk => (World.ownsRow.lt hown k hk).1)
    unfold Oper.wp execOp
    simp only [ho, resolve, invoke, builtin, Sem.run_bind, Sem.run_pure, Result.andThen_ok, List.map_toArray, List.map_cons, List.map_nil, hs, hx, hr2]
    refine hK _ _ ?_
    rcases h2.2 with ⟨h5, h6⟩ | ⟨g, cap', cur, rfl, hg1, hg2, hg3, hg4⟩
    · subst h5
      have hD : D = [] := List.eq_nil_of_length_eq_zero (by omega)
      have hp : p = [] := List.eq_nil_of_length_eq_zero (by omega)
      subst hD hp
      exact h none 0 w' (OwnB.nil _ _) hbel
    · refine h (some ⟨g, 0, none⟩) cap' w' ?_ hbel
      unfold OwnB
      rw [List.length_append, List.map_append]
      exact h2
/-- The same, with the lengths by names. -/
theorem append_bytes {w : World} {ops : Array Oper} {rest : List Oper} {o : Oper} {a : Act} {Q : Exit → Act → World → Prop} (hgd : o.guard = none) (s x : Operand) (tx : TypeId)
    (ho : o.op = .call { callee := .builtin .append, args := #[s, x], argTypes := #[74, tx] }) (htx : Tryz.prog.underlying tx = some (.slice 5))
    (base : Nat) (ad : Option Addr) (cap : Nat) (D p : List UInt8) (k m : Nat) (hk : D.length = k) (hm : p.length = m) (hs : a.eval s = .slice ad k cap) (hown : OwnB w base ad cap D)
    (b : Option Addr) (c : Nat) (hx : a.eval x = .slice b m c) (hb : Bytes w b p)
    (h63 : k + m ≤ 1099511627776) (hbase : base ≤ w.heap.size)
    (h : ∀ ad' cap' w', OwnB w' base ad' cap' (D ++ p) → Below base w w' →
      wpList Tryz.prog ops Q rest (a.put o.dst (.slice ad' (k + m) cap')) w') :
    wpList Tryz.prog ops Q (o :: rest) a w := by
  subst hk hm
  exact append_bytes0 hgd s x tx ho htx base ad cap D p hs hown b c hx hb h63 hbase h
end Go.Proofs.YtnclibfhbngkjaaGreatDoor
namespace Go.Proofs.YtnclibfhbngkjaaGreatDoor
open Go.RowKit
theorem addr_add (g off n : Nat) : (⟨g, off, none⟩ : Addr).add n = ⟨g, off + n, none⟩ := by
  unfold Addr.add; split
  · rename_i h0; subst h0; rfl
  · rfl
theorem conv_text {w : World} {a : Option Addr} {p : List UInt8} {c : Nat} (hb : Bytes w a p) :
    (convert 74 9 (.slice a p.length c)).run Tryz.prog w = .ok (.string (bs p)) w := by
  cases a with
  | none =>
    have hp : p = [] := by
      rcases hb with hb | ⟨g, off, ha, _⟩
      · exact hb
      · cases ha
    subst hp
    exact run_convert_bytes_nil w 74 5 Tryz.underlying74 Tryz.underlying5 0 c _ Tryz.underlying9
  | some ad =>
    refine run_convert_bytes_back w _ _ 5 ad c p Tryz.underlying74 Tryz.underlying5 Tryz.underlying9 ?_
    intro j hj
    rcases hb with hb | ⟨g, off, ha, _, hc⟩
    · subst hb; simp at hj
    · have ha := Option.some.inj ha
      subst ha
      have e : (⟨g, off, none⟩ : Addr).add j = ⟨g, off + j, none⟩ := by
        unfold Addr.add; split
        · rename_i h0; subst h0; rfl
        · rfl
      rw [e, hc j hj]
      simp [byteAt, hj]
theorem Bytes.take {w : World} {a : Option Addr} {l : List UInt8} (h : Bytes w a l) (n : Nat) : Bytes w a (l.take n) := by
  rcases h with h | ⟨g, off, ha, hg, hc⟩
  · subst h; exact Or.inl (by simp)
  · refine Or.inr ⟨g, off, ha, hg, fun i hi => ?_⟩
    have hi' : i < n ∧ i < l.length := by simp at hi; omega
    rw [hc i hi'.2]
    simp [byteAt, hi'.1]
theorem rec_read (a : Option Addr) (c : Nat) (l : List UInt8) (w : World) (hb : Bytes w a l) (hl : l.length ≤ 1099511627776) :
    Calls Tryz.prog 46 #[.slice a l.length c] w fun e w' => ∃ R, e = .returned (.pointer (some ⟨R, 0, none⟩)) ∧ w.heap.size ≤ R ∧ Rd (fun k => w.heap.size ≤ k ∧ k < R) w' R (l, false) ∧ Ext w w' := by
  have HB := Lib.hid hb; clear hb
  go_enter Tryz.func46, Tryz.ntmps46
  go_wp2_with (at_builtin; refine append_bytes rfl (.const (.slice none 0 0)) (.tmp 3) 74 rfl Tryz.underlying74 w.heap.size none 0 [] l 0 l.length rfl rfl rfl (OwnB.nil _ _) a c rfl HB.out (by simpa using hl) (Nat.le_refl _) ?_; intro ad cap w1 hown hx; have hbx := And.intro (hown.fresh (S := fun k => w.heap.size ≤ k) (fun k hk => hk)) hown.bytes; have HBX := Lib.hid hbx; clear hbx hown; have HX := Lib.hid hx; clear hx)
  go_ret
  have hx := HX.out
  refine ⟨w1.heap.size, rfl, hx.size, ⟨ad, cap, ?_, HBX.out.2.2, Row.keep (Row.mono HBX.out.1 (fun k hk hb => ⟨hb, hk⟩)) (Keep.of_ext (Ext.alloc _ _))⟩, Ext.trans hx (Ext.alloc _ _)⟩
  show (w1.heap.push _)[w1.heap.size]? = _
  simp
theorem rRaw_eq {most : Nat} {s : RSt} {n : Nat} {t : RSt} (h : rNum most s = (n, t)) : rRaw most s = if t.1.length < n then ([], ([], true)) else (t.1.take n, (t.1.drop n, t.2)) := by
  unfold rRaw; rw [h]
/-- What a reader of bytes gives. -/
def RdB (S : Nat → Prop) (R : Nat) (w : World) (p : List UInt8) (t : RSt) (e : Ending) (w' : World) : Prop := ∃ a c, e = .returned (.slice a p.length c) ∧ p.length ≤ c ∧ OwnB w' w.heap.size a c p ∧ Rd S w' R t ∧ But R w w'
set_option maxHeartbeats 1600000 in
theorem rd_raw (S : Nat → Prop) (R most : Nat) (s : RSt) (w : World) (h : Rd S w R s) (hs : s.1.length ≤ 1099511627776) (hm : most ≤ 16777216) :
    Calls Tryz.prog 76 #[.pointer (some ⟨R, 0, none⟩), .int .i64 (most : Int)] w (RdB S R w (rRaw most s).1 (rRaw most s).2) := by
  have H0 := Lib.hid h
  have hle := rNum_le most s
  have hln := rNum_len most s
  have hnum := rd_num S R most s w h hs (by omega)
  obtain ⟨n, t, ht⟩ : ∃ n t, rNum most s = (n, t) := ⟨_, _, rfl⟩
  have hraw := rRaw_eq ht
  rw [ht] at hnum hle hln
  have HNUM := Lib.hid hnum; clear hnum
  have HRAW := Lib.hid hraw; clear hraw
  clear ht h
  simp only at hle hln
  go_enter Tryz.func76, Tryz.ntmps76
  go_wp2_with fail
  refine HNUM.out.mono ?_
  rintro e w1 ⟨rfl, hR, hB⟩
  have HR := Lib.hid hR
  have HB := Lib.hid hB; clear hB
  obtain ⟨a, c, hg, hc, hb⟩ := hR
  have hRlt : R < w1.heap.size := (Array.getElem?_eq_some_iff.1 hg).1
  obtain ⟨m, hm⟩ : ∃ m, m = t.1.length := ⟨_, rfl⟩
  have hg' := hg
  rw [← hm] at hg' hc
  obtain ⟨hR0, hR1, hF0, hF1⟩ := rd_facts hg'
  have HGM := Lib.hid hg'; clear hg'
  have HG := Lib.hid hg; clear hg
  have HBY := Lib.hid hb; clear hb
  have HM := Lib.hid hm; clear hm
  by_cases hlt : m < n
  · have hl2 : (m : Int) < (n : Int) := by omega
    go_wp2_with fail
    go_ret
    have e1 : rRaw most s = ([], ([], true)) := by rw [HRAW.out, if_pos (by rw [← HM.out]; exact hlt)]
    rw [e1]
    have h2 := rd_num_bad HR.out
    exact ⟨none, 0, rfl, Nat.le_refl _, OwnB.nil _ _, h2.2, HB.out.trans h2.1⟩
  · have hl2 : (n : Int) ≤ (m : Int) := by omega
    have e1 : rRaw most s = (t.1.take n, (t.1.drop n, t.2)) := by rw [HRAW.out, if_neg (by rw [← HM.out]; exact hlt)]
    have HE := Lib.hid e1; clear e1
    have fin : ∀ (w2 : World) (a2 : Option Addr) (c2 : Nat) (a3 : Option Addr) (c3 : Nat), Below w1.heap.size w1 w2 → OwnB w2 w1.heap.size a2 c2 (t.1.take n) → n ≤ c2 → (m = n ∨ ∃ g off, a = some ⟨g, off, none⟩ ∧ a3 = some ⟨g, off + n, none⟩) → m - n ≤ c3 →
        RdB S R w (rRaw most s).1 (rRaw most s).2 (.returned (.slice a2 n c2)) (w2.setCell ⟨R, 0, none⟩ (.slice a3 (m - n) c3)) := by
      intro w2 a2 c2 a3 c3 hx hb2 hc2 h3 hc3
      rw [HE.out]
      have hlen : (t.1.take n).length = n := by rw [List.length_take, ← HM.out]; omega
      have hR2 : Rd S w2 R t := HR.out.ext hx
      have hB2 : But R w1 (w2.setCell ⟨R, 0, none⟩ (.slice a3 (m - n) c3)) := (But.of_ext hx).setCell 0 _
      have hBB : But R w2 (w2.setCell ⟨R, 0, none⟩ (.slice a3 (m - n) c3)) := (But.refl _ _).setCell 0 _
      have hRd : Rd S (w2.setCell ⟨R, 0, none⟩ (.slice a3 (m - n) c3)) R (t.1.drop n, t.2) := by
        rcases h3 with h3 | ⟨g, off, rfl, rfl⟩
        · refine ⟨a3, c3, ?_, ?_, Or.inl ?_⟩
          · rw [setCell_row (Ext.heap hx HGM.out)]
            simp [← HM.out]
          · simp [← HM.out]; omega
          · have : t.1.drop n = [] := by rw [List.drop_eq_nil_iff, ← HM.out]; omega
            simp only [this]; rfl
        · have hmm := HM.out
          subst hmm
          exact (rd_cut (Ext.heap hx HG.out) hc (Row.keep HBY.out (Keep.of_ext hx)) (by omega) (Or.inr rfl) hc3).2
      exact ⟨a2, c2, by rw [hlen], by rw [hlen]; exact hc2, (hb2.but_lt hBB hRlt).base HB.out.size, hRd, HB.out.trans hB2⟩
    have FIN := Lib.hid fin; clear fin
    have hlen : (t.1.take n).length = n := by rw [List.length_take, ← HM.out]; omega
    have HLEN := Lib.hid hlen; clear hlen
    by_cases hcn : c = n
    · have hmn : m = n := by omega
      subst hcn
      go_wp2_with (at_builtin; refine append_bytes rfl (.const (.slice none 0 0)) (.tmp 28) 74 rfl Tryz.underlying74 w1.heap.size none 0 [] (t.1.take c) 0 _ rfl HLEN.out rfl (OwnB.nil _ _) _ _ rfl (HBY.out.bytes.take _) (by omega) (Nat.le_refl _) ?_; intro ad cap w2 hown hx; have hbx := And.intro hown hown.bytes.2; have HBX := Lib.hid hbx; clear hbx hown; have hg2 := Ext.heap hx HGM.out; obtain ⟨k0, k1, k2, k3⟩ := rd_facts hg2; have HX := Lib.hid hx; clear hx hg2)
      go_ret
      have hbx := HBX.out
      rw [List.nil_append, HLEN.out] at hbx
      have h := FIN.out w2 ad cap a 0 HX.out hbx.1 hbx.2 (Or.inl hmn) (by omega)
      rw [show m - c = 0 by omega] at h
      exact h
    · go_wp2_with (at_builtin; refine append_bytes rfl (.const (.slice none 0 0)) (.tmp 28) 74 rfl Tryz.underlying74 w1.heap.size none 0 [] (t.1.take n) 0 _ rfl HLEN.out rfl (OwnB.nil _ _) _ _ rfl (HBY.out.bytes.take _) (by omega) (Nat.le_refl _) ?_; intro ad cap w2 hown hx; have hbx := And.intro hown hown.bytes.2; have HBX := Lib.hid hbx; clear hbx hown; have hg2 := Ext.heap hx HGM.out; obtain ⟨k0, k1, k2, k3⟩ := rd_facts hg2; have HX := Lib.hid hx; clear hx hg2)
      have hbx := HBX.out
      rw [List.nil_append, HLEN.out] at hbx
      go_ret
      refine FIN.out _ _ _ _ _ HX.out hbx.1 hbx.2 ?_ (by omega)
      rcases HBY.out.bytes with hz | ⟨g, off, rfl, _, _⟩
      · left
        have hmm := HM.out
        rw [hz] at hmm
        simp at hmm
        omega
      · exact Or.inr ⟨g, off, rfl, by rw [Option.map_some, addr_add]⟩
/-- (*rec.Reader).Text. -/
theorem rd_text (S : Nat → Prop) (R most : Nat) (s : RSt) (w : World) (h : Rd S w R s) (hs : s.1.length ≤ 1099511627776) (hm : most ≤ 16777216) :
    Calls Tryz.prog 47 #[.pointer (some ⟨R, 0, none⟩), .int .i64 (most : Int)] w (RdR S R w (.string (bs (rRaw most s).1)) (rRaw most s).2) := by
  have hraw := rd_raw S R most s w h hs hm
  obtain ⟨p, t, ht⟩ : ∃ p t, rRaw most s = (p, t) := ⟨_, _, rfl⟩
  rw [ht] at hraw ⊢
  have HRAW := Lib.hid hraw; clear hraw ht h
  go_enter Tryz.func47, Tryz.ntmps47
  go_wp2_with fail
  refine HRAW.out.mono ?_
  rintro e w1 ⟨a, c, rfl, hc, hb, hR, hB⟩
  have hconv := conv_text (c := c) hb.bytes.1
  have HR := Lib.hid hR
  have HB := Lib.hid hB; clear hB hb hR
  go_wp2_with fail
  go_ret
  exact ⟨rfl, HR.out, HB.out⟩
/-- (*rec.Reader).List. -/
theorem rd_list (S : Nat → Prop) (R : Nat) (s : RSt) (w : World) (h : Rd S w R s) (hs : s.1.length ≤ 1099511627776) :
    Calls Tryz.prog 48 #[.pointer (some ⟨R, 0, none⟩)] w fun e w' => ∃ Q, e = .returned (.pointer (some ⟨Q, 0, none⟩)) ∧ w.heap.size ≤ Q ∧ Rd S w' R (rList s).2 ∧ Rd (fun k => w.heap.size ≤ k ∧ k < Q) w' Q (rList s).1 ∧ But R w w' := by
  have hraw := rd_raw S R 16777216 s w h hs (Nat.le_refl _)
  unfold rList
  obtain ⟨p, t, ht⟩ : ∃ p t, rRaw 16777216 s = (p, t) := ⟨_, _, rfl⟩
  rw [ht] at hraw ⊢
  have HRAW := Lib.hid hraw; clear hraw ht h
  go_enter Tryz.func48, Tryz.ntmps48
  go_wp2_with fail
  refine HRAW.out.mono ?_
  rintro e w1 ⟨a, c, rfl, hc, hb, hR, hB⟩
  have HR := Lib.hid hR
  have HB := Lib.hid hB; clear hB
  obtain ⟨ar, cr, hg, hcr, hbr⟩ := hR
  obtain ⟨hR0, hR1, hF0, hF1⟩ := rd_facts hg
  have HBY := Lib.hid hb; clear hb hg hbr
  go_wp2_with fail
  go_ret
  refine ⟨w1.heap.size, rfl, HB.out.size, HR.out.ext (Ext.alloc _ _), ⟨a, c, ?_, hc, Row.keep (Row.mono (HBY.out.fresh (S := fun k => w.heap.size ≤ k) (fun k hk => hk)) (fun k hk hb => ⟨hb, hk⟩)) (Keep.of_ext (Ext.alloc _ _))⟩, HB.out.alloc _⟩
  show (w1.heap.push _)[w1.heap.size]? = _
  simp
/-- (*rec.Reader).More. -/
theorem rd_more (S : Nat → Prop) (R : Nat) (s : RSt) (w : World) (h : Rd S w R s) :
    Calls Tryz.prog 49 #[.pointer (some ⟨R, 0, none⟩)] w fun e w' => e = .returned (.bool (decide (0 < s.1.length))) ∧ w = w' := by
  obtain ⟨a, c, hg, hc, hb⟩ := h
  obtain ⟨hR0, hR1, hF0, hF1⟩ := rd_facts hg
  clear hg hb
  go_enter Tryz.func49, Tryz.ntmps49
  go_wp2_with fail
  go_ret
  exact ⟨ret_bool (by simp), rfl⟩
/-- (*rec.Reader).Done. -/
theorem rd_done (S : Nat → Prop) (R : Nat) (s : RSt) (w : World) (h : Rd S w R s) :
    Calls Tryz.prog 52 #[.pointer (some ⟨R, 0, none⟩)] w fun e w' => e = .returned (.bool (rDone s)) ∧ w = w' := by
  obtain ⟨l, b⟩ := s
  obtain ⟨a, c, hg, hc, hb⟩ := h
  obtain ⟨hR0, hR1, hF0, hF1⟩ := rd_facts hg
  clear hg hb
  go_enter Tryz.func52, Tryz.ntmps52
  cases b with
  | true =>
    go_wp2_with fail
    go_ret
    exact ⟨rfl, rfl⟩
  | false =>
    go_wp2_with fail
    go_ret
    refine ⟨ret_bool ?_, rfl⟩
    cases l with
    | nil => rfl
    | cons x r => simp [rDone]; omega
end Go.Proofs.YtnclibfhbngkjaaGreatDoor
namespace Go.Proofs.YtnclibfhbngkjaaGreatDoor
open Go.RowKit
/-- What a packer gives. -/
def PackR (l : List UInt8) (w : World) (e : Ending) (w' : World) : Prop := ∃ a c, e = .returned (.slice a l.length c) ∧ OwnB w' w.heap.size a c l ∧ Ext w w'
/-- A call that wrote nothing older than base, behind one that wrote nothing at all. -/
theorem Ext.of_below' {a b c : World} (h : Ext a b) (k : Below a.heap.size b c) : Ext a c := Below.trans h k
theorem byte_of (n : Nat) : ((UInt8.ofNat n).toNat : Int) = (n : Int) % 256 := by
  rw [UInt8.toNat_ofNat']; omega
theorem ownB_lit (w : World) (cs : Array Value) (l : List UInt8) (h : cs.toList = l.map fun b => Value.int .u8 (b.toNat : Int)) (hl : l.length ≤ 1099511627776) :
    OwnB (w.alloc (.cells cs 5)) w.heap.size (some ⟨w.heap.size, 0, none⟩) l.length l := by
  have hcs : cs.size = l.length := by rw [← Array.length_toList, h, List.length_map]
  refine ⟨by simp, Or.inr ⟨w.heap.size, l.length, cs, rfl, Nat.le_refl _, heap_alloc_new w _, Nat.le_refl _, by unfold maxLen; omega, by rw [hcs, Nat.mul_one], ?_⟩⟩
  rw [h, Nat.mul_one, List.take_of_length_le (by simp)]
theorem rec_number (n : Nat) (hn : n < 4294967296) (w : World) :
    Calls Tryz.prog 96 #[.int .u32 (n : Int)] w (PackR (num4 n) w) := by
  have e0 := byte_of n
  have e1 := byte_of (n / 256)
  have e2 := byte_of (n / 65536)
  have e3 := byte_of (n / 16777216)
  have H := Lib.hid (And.intro e0 (And.intro e1 (And.intro e2 e3)))
  clear e0 e1 e2 e3
  go_enter Tryz.func96, Tryz.ntmps96
  go_wp2_with fail
  go_ret
  refine ⟨_, _, rfl, ownB_lit _ _ (num4 n) ?_ (by simp [num4_len]), Ext.alloc _ _⟩
  obtain ⟨e0, e1, e2, e3⟩ := H.out
  simp only [num4, List.map_cons, List.map_nil, e0, e1, e2, e3]
  simp
  omega
theorem rec_num (n : Int) (w : World) :
    Calls Tryz.prog 78 #[.int .i64 n] w (PackR (numI n) w) := by
  have e : n % 4294967296 = ((u32 n : Nat) : Int) := by unfold u32; omega
  have hn := rec_number (u32 n) (u32_lt n)
  have H := Lib.hid hn; clear hn
  go_enter Tryz.func78, Tryz.ntmps78
  go_wp2_with fail
  refine (H.out _).mono ?_
  rintro e1 w1 ⟨a, c, rfl, hown, hx⟩
  have HO := Lib.hid hown; clear hown
  have HX := Lib.hid hx; clear hx
  go_wp2_with fail
  go_ret
  exact ⟨a, c, rfl, HO.out, HX.out⟩
theorem rec_raw (a : Option Addr) (c : Nat) (l : List UInt8) (w : World) (hb : Bytes w a l) (hl : l.length ≤ 16777216) :
    Calls Tryz.prog 95 #[.slice a l.length c] w (PackR (raw4 l) w) := by
  have HB := Lib.hid hb; clear hb
  have hn := rec_number l.length (by omega)
  have H := Lib.hid hn; clear hn
  go_enter Tryz.func95, Tryz.ntmps95
  go_wp2_with fail
  refine (H.out _).mono ?_
  rintro e1 w1 ⟨a1, c1, rfl, hown, hx⟩
  have HO := Lib.hid hown; clear hown
  have HX := Lib.hid hx; clear hx
  go_wp2_with (at_builtin; refine append_bytes rfl (.tmp 6) (.tmp 7) 74 rfl Tryz.underlying74 w.heap.size a1 c1 (num4 l.length) l 4 l.length rfl rfl rfl HO.out _ _ rfl (HB.out.ext HX.out) (by omega) HX.out.size ?_; intro ad cap w2 hown hx; have HO2 := Lib.hid hown; clear hown; have HX2 := Lib.hid hx; clear hx)
  go_ret
  refine ⟨ad, cap, ?_, HO2.out, Ext.of_below' HX.out HX2.out⟩
  rw [raw4_len]; rfl
theorem bytes_made (w : World) (s : ByteArray) : Bytes (Lib.bytesWorld w 5 s) (some ⟨w.heap.size, 0, none⟩) s.data.toList := by
  refine Or.inr ⟨w.heap.size, 0, rfl, by rw [Lib.bytesWorld_size]; omega, fun i hi => ?_⟩
  rw [Nat.zero_add, Lib.bytesWorld_cell w _ s i (by simpa using hi)]
  rfl
theorem rec_text (s : ByteArray) (hs : s.size ≤ 16777216) (w : World) :
    Calls Tryz.prog 77 #[.string s] w (PackR (raw4 s.data.toList) w) := by
  have hc := fun w' => Lib.run_convert_string_bytes (P := Tryz.prog) w' 9 74 5 s Tryz.underlying9 Tryz.underlying74 Tryz.underlying5
  have hr := fun c => rec_raw (some ⟨w.heap.size, 0, none⟩) c s.data.toList _ (bytes_made w s) (by rw [size_len]; exact hs)
  rw [size_len] at hr
  have H := Lib.hid hr; clear hr
  go_enter Tryz.func77, Tryz.ntmps77
  go_wp2_with fail
  refine (H.out _).mono ?_
  rintro e1 w1 ⟨a1, c1, rfl, hown, hx⟩
  have HO := Lib.hid hown; clear hown
  have HX := Lib.hid hx; clear hx
  go_wp2_with fail
  go_ret
  have hx1 : Ext w (Lib.bytesWorld w 5 s) := ⟨rfl, rfl, rfl, by rw [Lib.bytesWorld_size]; omega, fun j hj => Lib.bytesWorld_at_old w _ s j hj⟩
  exact ⟨a1, c1, rfl, ⟨HO.out.1, HO.out.2.imp id (fun ⟨g, c, cur, h1, h2, h3⟩ => ⟨g, c, cur, h1, Nat.le_trans hx1.size h2, h3⟩)⟩, hx1.trans HX.out⟩
/-- Parts in memory, in blocks of a kind. -/
def PartsS (S : Nat → Prop) (w : World) (vs : List Value) (L : List (List UInt8)) : Prop :=
  vs.length = L.length ∧ ∀ i, i < L.length → ∃ p c, vs[i]? = some (.slice p (L.getD i []).length c) ∧ BytesS S w p (L.getD i [])
theorem PartsS.keep {S : Nat → Prop} {w w' : World} {vs : List Value} {L : List (List UInt8)} (h : PartsS S w vs L) (k : Keep S w w') : PartsS S w' vs L :=
  ⟨h.1, fun i hi => by obtain ⟨p, c, h1, h2⟩ := h.2 i hi; exact ⟨p, c, h1, Row.keep h2 k⟩⟩
theorem PartsS.mono {S T : Nat → Prop} {w : World} {vs : List Value} {L : List (List UInt8)} (h : PartsS S w vs L) (hT : ∀ k, k < w.heap.size → S k → T k) : PartsS T w vs L :=
  ⟨h.1, fun i hi => by obtain ⟨p, c, h1, h2⟩ := h.2 i hi; exact ⟨p, c, h1, Row.mono h2 hT⟩⟩
theorem PartsS.append {S : Nat → Prop} {w : World} {us vs : List Value} {K L : List (List UInt8)} (h : PartsS S w us K) (k : PartsS S w vs L) : PartsS S w (us ++ vs) (K ++ L) := by
  refine ⟨by simp [h.1, k.1], fun i hi => ?_⟩
  by_cases hk : i < K.length
  · obtain ⟨p, c, h1, h2⟩ := h.2 i hk
    refine ⟨p, c, ?_, ?_⟩
    · rw [List.getElem?_append_left (by rw [h.1]; exact hk), h1]
      simp [List.getD_eq_getElem?_getD, List.getElem?_append_left hk]
    · simpa [List.getD_eq_getElem?_getD, List.getElem?_append_left hk] using h2
  · have hi' : i - K.length < L.length := by simp at hi; omega
    obtain ⟨p, c, h1, h2⟩ := k.2 (i - K.length) hi'
    have e : (K ++ L).getD i [] = L.getD (i - K.length) [] := by simp [List.getD_eq_getElem?_getD, List.getElem?_append_right (show K.length ≤ i by omega)]
    refine ⟨p, c, ?_, ?_⟩
    · rw [List.getElem?_append_right (by rw [h.1]; omega), h.1, h1, e]
    · rw [e]; exact h2
theorem PartsS.nil (S : Nat → Prop) (w : World) : PartsS S w [] [] := ⟨rfl, fun i hi => by simp at hi⟩
theorem PartsS.one {S : Nat → Prop} {w : World} {p : Option Addr} {c : Nat} {l : List UInt8} (h : BytesS S w p l) : PartsS S w [.slice p l.length c] [l] := by
  refine ⟨rfl, fun i hi => ?_⟩
  have : i = 0 := by simp at hi; exact hi
  subst this
  exact ⟨p, c, rfl, h⟩
theorem PartsS.cons {S : Nat → Prop} {w : World} {p : Option Addr} {c : Nat} {l : List UInt8} {vs : List Value} {L : List (List UInt8)} (h : BytesS S w p l) (k : PartsS S w vs L) : PartsS S w (.slice p l.length c :: vs) (l :: L) := (PartsS.one h).append k
/-- A slice of parts. -/
def Parts (w : World) (a : Option Addr) (L : List (List UInt8)) : Prop := ∃ vs, Row (fun _ => True) w a vs ∧ PartsS (fun _ => True) w vs L
theorem Parts.ext {w w' : World} {a : Option Addr} {L : List (List UInt8)} (h : Parts w a L) (k : Ext w w') : Parts w' a L := by
  obtain ⟨vs, h1, h2⟩ := h
  exact ⟨vs, h1.keep (Keep.of_ext k), h2.keep (Keep.of_ext k)⟩
theorem Parts.at {w : World} {a : Option Addr} {L : List (List UInt8)} (h : Parts w a L) {i : Nat} (hi : i < L.length) :
    ∃ g off p c, a = some ⟨g, off, none⟩ ∧ w.cell? ⟨g, off + i, none⟩ = some (.slice p (L.getD i []).length c) ∧ Bytes w p (L.getD i []) := by
  obtain ⟨vs, h1, h2⟩ := h
  obtain ⟨p, c, h3, h4⟩ := h2.2 i hi
  have hv : i < vs.length := by rw [h2.1]; exact hi
  obtain ⟨g, off, ha, _, _, hc⟩ := h1.at (by intro e; rw [e] at hv; simp at hv)
  exact ⟨g, off, p, c, ha, (hc i hv).trans h3, h4.bytes⟩
end Go.Proofs.YtnclibfhbngkjaaGreatDoor
namespace Go.Proofs.YtnclibfhbngkjaaGreatDoor
open Go.RowKit
theorem flat_take {L : List (List UInt8)} {k : Nat} (h : k < L.length) : (L.take (k + 1)).flatten = (L.take k).flatten ++ L.getD k [] := by
  rw [List.take_succ_eq_append_getElem h, List.flatten_append]
  simp [List.getD_eq_getElem?_getD, List.getElem?_eq_getElem h]
theorem flat_take_le (L : List (List UInt8)) (k : Nat) : (L.take k).flatten.length ≤ L.flatten.length := by
  conv => rhs; rw [← List.take_append_drop k L]
  rw [List.flatten_append, List.length_append]; omega
set_option maxHeartbeats 800000 in
theorem rec_pack (a : Option Addr) (c : Nat) (L : List (List UInt8)) (w : World) (hp : Parts w a L) (hl : L.flatten.length ≤ 16777216) (hn : L.length ≤ 1099511627776) :
    Calls Tryz.prog 53 #[.slice a L.length c] w (PackR L.flatten w) := by
  have HP := Lib.hid hp; clear hp
  go_enter Tryz.func53, Tryz.ntmps53
  go_wp2_with fail
  go_loopw [3, 8] (fun v i wr => ∃ (D : List UInt8) (a2 : Option Addr) (cap k : Nat), v = .slice a2 D.length cap ∧ i = .int .i64 k ∧ k ≤ L.length ∧ Hid (D = (L.take k).flatten) ∧ Hid (OwnB wr w.heap.size a2 cap D) ∧ Ext w wr) (fun _ i _ => L.length - (intOf i).toNat)
  case atStart => exact ⟨[], none, 0, 0, rfl, rfl, Nat.zero_le _, Lib.hid rfl, Lib.hid (OwnB.nil _ _), Ext.refl _⟩
  case round =>
    obtain ⟨D, a2, cap, k, rfl, rfl, hk, hD, hown, hext⟩ := hrel
    have hsz := hext.size
    by_cases hlt : k < L.length
    · have hpx := HP.out.ext hext
      obtain ⟨g, off, p, cp, rfl, hcell, hb⟩ := hpx.at hlt
      have hb63 : D.length + (L.getD k []).length ≤ 16777216 := by
        have h1 := flat_take_le L (k + 1)
        rw [flat_take hlt, List.length_append, ← hD.out] at h1
        omega
      obtain ⟨q, hq⟩ : ∃ q, q = L.getD k [] := ⟨_, rfl⟩
      rw [← hq] at hcell hb hb63
      have HQ := Lib.hid hq; clear hq hpx
      have HB := Lib.hid hb; clear hb
      go_wp2_with (at_builtin; refine append_bytes rfl (.tmp 12) (.tmp 13) 133 rfl Tryz.underlying133 w.heap.size a2 cap D q D.length q.length rfl rfl rfl hown.out _ _ rfl HB.out (by omega) hsz ?_; intro ad cap' w2 hown2 hx2)
      go_roundw
      case rel => exact ⟨D ++ q, ad, cap', k + 1, by simp, by go_num, by omega, Lib.hid (by rw [flat_take hlt, ← HQ.out, ← hD.out]), Lib.hid hown2, Below.trans hext hx2⟩
      case measure => simp [intOf]; omega
    · have hkk : k = L.length := by omega
      have hD2 := hD.out
      rw [hkk, List.take_length] at hD2
      subst hD2
      clear hD
      go_wp2
      go_ret
      exact ⟨a2, cap, rfl, hown.out, hext⟩
theorem rec_list (a : Option Addr) (c : Nat) (L : List (List UInt8)) (w : World) (hp : Parts w a L) (hl : L.flatten.length ≤ 16777216) (hn : L.length ≤ 1099511627776) :
    Calls Tryz.prog 79 #[.slice a L.length c] w (PackR (raw4 L.flatten) w) := by
  have hpk := rec_pack a c L w hp hl hn
  have H := Lib.hid hpk; clear hpk hp
  generalize hF : L.flatten = F at *
  clear hF
  go_enter Tryz.func79, Tryz.ntmps79
  go_wp2_with fail
  refine H.out.mono ?_
  rintro e1 w1 ⟨a1, c1, rfl, hown, hx⟩
  have hr := rec_raw a1 c1 F w1 hown.bytes.1 hl
  have HR := Lib.hid hr; clear hr hown
  have HX := Lib.hid hx; clear hx
  go_wp2_with fail
  refine HR.out.mono ?_
  rintro e1 w2 ⟨a2, c2, rfl, hown, hx⟩
  have HO := Lib.hid hown; clear hown
  have HX2 := Lib.hid hx; clear hx
  go_wp2_with fail
  go_ret
  exact ⟨a2, c2, rfl, ⟨HO.out.1, HO.out.2.imp id (fun ⟨g, c, cur, h1, h2, h3⟩ => ⟨g, c, cur, h1, Nat.le_trans HX.out.size h2, h3⟩)⟩, HX.out.trans HX2.out⟩
end Go.Proofs.YtnclibfhbngkjaaGreatDoor
namespace Go.Proofs.YtnclibfhbngkjaaGreatDoor
open Go.RowKit
/-- Parts that the call has gathered so far. -/
def OwnP (w : World) (base : Nat) (a : Option Addr) (cap : Nat) (D : List (List UInt8)) : Prop :=
  ∃ vs, w.ownsRow base 133 1 (.slice a D.length cap) D.length vs ∧ PartsS (fun k => some k ≠ (Value.slice a D.length cap).ownBlock) w vs D
theorem info_part : (Tryz.prog.info? 133).map (fun i => (i.zero, i.size, i.bytes)) = some (some (.slice none 0 0), 1, 24) := by kernel_rfl
theorem OwnP.nil (w : World) (base : Nat) : OwnP w base none 0 [] := ⟨[], World.ownsRow_nil _ _ _ _, PartsS.nil _ _⟩
theorem ownsRow_ext {w w' : World} {base e size n : Nat} {v : Value} {xs : List Value} (h : w.ownsRow base e size v n xs) (k : Ext w w') : w'.ownsRow base e size v n xs := by
  refine ⟨h.1, ?_⟩
  rcases h.2 with h1 | ⟨g, c, cur, h1, hb, hg, r⟩
  · exact Or.inl h1
  · exact Or.inr ⟨g, c, cur, h1, hb, k.heap hg, r⟩
theorem OwnP.ext {w w' : World} {base : Nat} {a : Option Addr} {cap : Nat} {D : List (List UInt8)} (h : OwnP w base a cap D) (k : Ext w w') : OwnP w' base a cap D := by
  obtain ⟨vs, h1, h2⟩ := h
  exact ⟨vs, ownsRow_ext h1 k, h2.keep (Keep.of_ext k)⟩
theorem OwnP.parts {w : World} {base : Nat} {a : Option Addr} {cap : Nat} {D : List (List UInt8)} (h : OwnP w base a cap D) : Parts w a D := by
  obtain ⟨vs, h1, h2⟩ := h
  exact ⟨vs, ownsRow_row h1, h2.mono (fun _ _ _ => trivial)⟩
/-- Behind an append of parts. -/
theorem OwnP.grow {w w' : World} {base : Nat} {ad : Option Addr} {cap : Nat} {D N : List (List UInt8)} {vs us : List Value} {g cap' m : Nat} (h2 : PartsS (fun k => some k ≠ (Value.slice ad D.length cap).ownBlock) w vs D)
    (hN : PartsS (fun k => some k ≠ (Value.slice ad D.length cap).ownBlock) w us N) (hm : N.length = m)
    (hrow : w'.ownsRow base 133 1 (.slice (some ⟨g, 0, none⟩) (D.length + m) cap') (D.length + m) (vs ++ us)) (hg : w.grownBy w' (Value.slice ad D.length cap).ownBlock)
    (hat : (Value.slice ad D.length cap).ownBlock = some g ∨ g = w.heap.size) : OwnP w' base (some ⟨g, 0, none⟩) cap' (D ++ N) := by
  subst hm
  refine ⟨vs ++ us, by rw [List.length_append]; exact hrow, ?_⟩
  have hall := h2.append hN
  have h3 : PartsS (fun k => some k ≠ (Value.slice ad D.length cap).ownBlock ∧ some k ≠ some g) w (vs ++ us) (D ++ N) := by
    refine hall.mono (fun k hk hne => ⟨hne, ?_⟩)
    rcases hat with e | e
    · rw [← e]; exact hne
    · intro e2
      have : k = g := by simpa using e2
      omega
  have h4 := h3.keep ((Keep.of_grown hg).mono (fun k _ hk => hk.1))
  exact h4.mono (fun k _ hk => hk.2)
/-- 'append(out, parts..)', all of it. -/
theorem parts_grown {W w' : World} {base : Nat} {ad : Option Addr} {cap : Nat} {D N : List (List UInt8)} {vs us : List Value} {g cap' m : Nat} (hrow : W.ownsRow base 133 1 (.slice ad D.length cap) D.length vs) (h2 : PartsS (fun k => some k ≠ (Value.slice ad D.length cap).ownBlock) W vs D)
    (hN : PartsS (fun k => some k ≠ (Value.slice ad D.length cap).ownBlock) W us N) (hm : us.length = m) (hbase : base ≤ W.heap.size)
    (hown' : w'.ownsRow base 133 1 (.slice (some ⟨g, 0, none⟩) (D.length + m) cap') (D.length + m) (vs ++ us)) (hg : W.grownBy w' (Value.slice ad D.length cap).ownBlock)
    (hat : (Value.slice ad D.length cap).ownBlock = some g ∨ g = W.heap.size) : OwnP w' base (some ⟨g, 0, none⟩) cap' (D ++ N) ∧ Keep (fun k => some k ≠ (Value.slice ad D.length cap).ownBlock) W w' ∧ Below base W w' :=
  ⟨OwnP.grow h2 hN (hN.1.symm.trans hm) hown' hg hat, Keep.of_grown hg, (Below.refl _ _).grown hg hbase (fun k hk => (World.ownsRow.lt hrow k hk).1)⟩
theorem oneCell_parts {S : Nat → Prop} {W : World} {us : List Value} {N : List (List UInt8)} (h : PartsS S W us N) : ∀ u ∈ us, u.oneCell' = true := by
  intro u hu
  obtain ⟨i, hi, rfl⟩ := List.getElem_of_mem hu
  obtain ⟨p, c, h1, _⟩ := h.2 i (by rw [← h.1]; exact hi)
  rw [List.getElem?_eq_getElem hi] at h1
  rw [Option.some.inj h1]; rfl
section
variable {ops : Array Oper} {o : Oper} {a : Act} {Q : Exit → Act → World → Prop} {W : World}
theorem wp_append_parts {K : Act → World → Prop} (s x : Operand)
    (ho : o.op = .call { callee := .builtin .append, args := #[s, x], argTypes := #[105, 105] })
    (base : Nat) (ad : Option Addr) (cap : Nat) (D : List (List UInt8)) (hs : a.eval s = .slice ad D.length cap) (hown : OwnP W base ad cap D)
    (us : List Value) (N : List (List UInt8)) (b m : Nat) (hm : us.length = m) (hx : a.eval x = .slice (some ⟨b, 0, none⟩) m m) (hblk : W.heap[b]? = some (.cells us.toArray 133 (0, 0)))
    (hN : PartsS (fun k => some k ≠ (Value.slice ad D.length cap).ownBlock) W us N) (hpos : 0 < m) (hn : D.length + m ≤ 1099511627776) (hbase : base ≤ W.heap.size)
    (h : ∀ g cap' w', OwnP w' base (some ⟨g, 0, none⟩) cap' (D ++ N) → Keep (fun k => some k ≠ (Value.slice ad D.length cap).ownBlock) W w' → Below base W w' → K (a.put o.dst (.slice (some ⟨g, 0, none⟩) (D.length + m) cap')) w') : o.wp Tryz.prog a W K Q := by
  obtain ⟨i0, hi0, hz0, hz1, hz2⟩ := info_parts info_part
  obtain ⟨vs, hrow, h2⟩ := hown
  exact wp_append_lies _ s x _ ho base 133 i0 _ 1 24 Tryz.underlying105 hi0 hz0 hz1 hz2 rfl (by omega) (.slice ad D.length cap) D.length vs hs hrow ⟨b, 0, none⟩ m m us hx (by rw [hm, Nat.mul_one])
    (World.news_of_block (cs := us.toArray) hblk) (oneCell_parts hN) hpos (by unfold maxLen; omega) (by omega) hbase _ rfl
    (fun g cap' w' hown' hg hat _ => have hh := parts_grown hrow h2 hN hm hbase hown' hg hat; h g cap' w' hh.1 hh.2.1 hh.2.2)
theorem step_append_parts {K : Act → World → Prop} {E : Prop} (hgd : o.guard = none) (s x : Operand)
    (ho : o.op = .call { callee := .builtin .append, args := #[s, x], argTypes := #[105, 105] })
    (base : Nat) (ad : Option Addr) (cap : Nat) (D : List (List UInt8)) (hs : a.eval s = .slice ad D.length cap) (hown : OwnP W base ad cap D)
    (us : List Value) (N : List (List UInt8)) (b m : Nat) (hm : us.length = m) (hx : a.eval x = .slice (some ⟨b, 0, none⟩) m m) (hblk : W.heap[b]? = some (.cells us.toArray 133 (0, 0)))
    (hN : PartsS (fun k => some k ≠ (Value.slice ad D.length cap).ownBlock) W us N) (hpos : 0 < m) (hn : D.length + m ≤ 1099511627776) (hbase : base ≤ W.heap.size)
    (h : ∀ g cap' w', OwnP w' base (some ⟨g, 0, none⟩) cap' (D ++ N) → Keep (fun k => some k ≠ (Value.slice ad D.length cap).ownBlock) W w' → Below base W w' → K (a.put o.dst (.slice (some ⟨g, 0, none⟩) (D.length + m) cap')) w') :
    if Region.wanted o (yielded ops a.tmps) = true then Oper.wp Tryz.prog o a W K Q else E := by
  have hw : Region.wanted o (yielded ops a.tmps) = true := by simp [Region.wanted, hgd]
  rw [if_pos hw]
  exact wp_append_parts s x ho base ad cap D hs hown us N b m hm hx hblk hN hpos hn hbase h
theorem append_parts {rest : List Oper} (hgd : o.guard = none) (s x : Operand)
    (ho : o.op = .call { callee := .builtin .append, args := #[s, x], argTypes := #[105, 105] })
    (base : Nat) (ad : Option Addr) (cap : Nat) (D : List (List UInt8)) (hs : a.eval s = .slice ad D.length cap) (hown : OwnP W base ad cap D)
    (us : List Value) (N : List (List UInt8)) (b m : Nat) (hm : us.length = m) (hx : a.eval x = .slice (some ⟨b, 0, none⟩) m m) (hblk : W.heap[b]? = some (.cells us.toArray 133 (0, 0)))
    (hN : PartsS (fun k => some k ≠ (Value.slice ad D.length cap).ownBlock) W us N) (hpos : 0 < m) (hn : D.length + m ≤ 1099511627776) (hbase : base ≤ W.heap.size)
    (h : ∀ g cap' w', OwnP w' base (some ⟨g, 0, none⟩) cap' (D ++ N) → Keep (fun k => some k ≠ (Value.slice ad D.length cap).ownBlock) W w' → Below base W w' → wpList Tryz.prog ops Q rest (a.put o.dst (.slice (some ⟨g, 0, none⟩) (D.length + m) cap')) w') : wpList Tryz.prog ops Q (o :: rest) a W :=
  wpList_plain hgd fun _ hK => wp_append_parts s x ho base ad cap D hs hown us N b m hm hx hblk hN hpos hn hbase fun g cap' w' h1 h2 h3 => hK _ _ (h g cap' w' h1 h2 h3)
end
/-- A row of the call's own lies below what is made now. -/
theorem OwnP.old {w : World} {base : Nat} {a : Option Addr} {cap : Nat} {D : List (List UInt8)} (h : OwnP w base a cap D) {B : Nat} (hB : w.heap.size ≤ B) : ∀ k, B ≤ k → some k ≠ (Value.slice a D.length cap).ownBlock := by
  obtain ⟨vs, h1, _⟩ := h
  intro k hk e
  have := (World.ownsRow.lt h1 k e.symm).2
  omega
theorem part_new {wr w0 w1 : World} {base : Nat} {a : Option Addr} {cap : Nat} {D : List (List UInt8)} {p : Option Addr} {c : Nat} {l : List UInt8} (hown : OwnP wr base a cap D) (hx0 : Ext wr w0) (h1 : OwnB w1 w0.heap.size p c l) :
    BytesS (fun k => some k ≠ (Value.slice a D.length cap).ownBlock) w1 p l := h1.fresh (hown.old hx0.size)
theorem part_one {wr w0 w1 : World} {base : Nat} {a : Option Addr} {cap : Nat} {D : List (List UInt8)} {p : Option Addr} {c : Nat} {l : List UInt8} (hown : OwnP wr base a cap D) (hx0 : Ext wr w0) (h1 : OwnB w1 w0.heap.size p c l) :
    PartsS (fun k => some k ≠ (Value.slice a D.length cap).ownBlock) w1 [.slice p l.length c] [l] := PartsS.one (part_new hown hx0 h1)
theorem part_two {wr w0 w1 w2 : World} {base : Nat} {a : Option Addr} {cap : Nat} {D : List (List UInt8)} {p q : Option Addr} {c d : Nat} {l m : List UInt8} (hown : OwnP wr base a cap D) (hx0 : Ext wr w0) (h1 : OwnB w1 w0.heap.size p c l) (hx1 : Ext w0 w1) (h2 : OwnB w2 w1.heap.size q d m) (hx2 : Ext w1 w2) :
    PartsS (fun k => some k ≠ (Value.slice a D.length cap).ownBlock) w2 [.slice p l.length c, .slice q m.length d] [l, m] :=
  PartsS.cons ((part_new hown hx0 h1).keep (Keep.of_ext hx2)) (PartsS.one (part_new hown (hx0.trans hx1) h2))
theorem parts_lit {w : World} {us : List Value} {N : List (List UInt8)} (h : PartsS (fun _ => True) w us N) : Parts (w.alloc (.cells us.toArray 133)) (some ⟨w.heap.size, 0, none⟩) N := by
  refine ⟨us, Or.inr ⟨w.heap.size, 0, rfl, by simp, trivial, fun i hi => ?_⟩, h.keep (Keep.of_ext (Ext.alloc _ _))⟩
  rw [Nat.zero_add, List.getElem?_eq_getElem hi]
  exact cell_new _ _ _ _ _ (by simp [hi])
theorem parts_five {w : World} {p1 p2 p3 p4 p5 : Option Addr} {q1 q2 q3 q4 q5 : Nat} {l1 l2 l3 l4 l5 : List UInt8} (b1 : Bytes w p1 l1) (b2 : Bytes w p2 l2) (b3 : Bytes w p3 l3) (b4 : Bytes w p4 l4) (b5 : Bytes w p5 l5) :
    Parts (w.alloc (.cells #[.slice p1 l1.length q1, .slice p2 l2.length q2, .slice p3 l3.length q3, .slice p4 l4.length q4, .slice p5 l5.length q5] 133)) (some ⟨w.heap.size, 0, none⟩) [l1, l2, l3, l4, l5] :=
  parts_lit (us := [.slice p1 l1.length q1, .slice p2 l2.length q2, .slice p3 l3.length q3, .slice p4 l4.length q4, .slice p5 l5.length q5]) (PartsS.cons b1.row (PartsS.cons b2.row (PartsS.cons b3.row (PartsS.cons b4.row (PartsS.one b5.row)))))
end Go.Proofs.YtnclibfhbngkjaaGreatDoor
namespace Go.Proofs.YtnclibfhbngkjaaGreatDoor
open Go.RowKit
section
variable {ops : Array Oper} {o : Oper} {a : Act} {Q : Exit → Act → World → Prop} {W : World}
theorem wp_append_row {P : Program} {K : Act → World → Prop} (s x : Operand) (T E : TypeId) (z : Value) (bytes : Nat)
    (ho : o.op = .call { callee := .builtin .append, args := #[s, x], argTypes := #[T, T] }) (hT : P.underlying T = some (.slice E)) (hi : (P.info? E).map (fun i => (i.zero, i.size, i.bytes)) = some (some z, 1, bytes)) (hz1 : z.cells.size = 1)
    (base : Nat) (ad : Option Addr) (n cap : Nat) (xs : List Value) (hs : a.eval s = .slice ad n cap) (hown : W.ownsRow base E 1 (.slice ad n cap) n xs)
    (b : Option Addr) (m c : Nat) (ys : List Value) (hx : a.eval x = .slice b m c) (hm : ys.length = m) (hb : Row (fun _ => True) W b ys) (h1 : ∀ u ∈ ys, u.oneCell' = true)
    (h63 : n + m ≤ 1099511627776) (hbytes : bytes ≤ 128) (hbase : base ≤ W.heap.size)
    (t : Nat) (ht : n + m = t) (h : ∀ ad' cap' w', w'.ownsRow base E 1 (.slice ad' t cap') t (xs ++ ys) → Keep (fun k => some k ≠ (Value.slice ad n cap).ownBlock) W w' → Below base W w' → K (a.put o.dst (.slice ad' t cap')) w') : o.wp P a W K Q := by
  obtain ⟨i, hi0, hz, hsz, hby⟩ := info_parts hi
  subst hm ht
  cases b with
  | none =>
    have hp : ys = [] := by
      rcases hb with hb | ⟨g, off, ha, _⟩
      · exact hb
      · cases ha
    subst hp
    have hr := run_append_of_nil (P := P) W base T o.type E i 1 hT hi0 _ n _ hown c
    unfold Oper.wp execOp
    simp only [ho, resolve, invoke, builtin, Sem.run_bind, Sem.run_pure, Result.andThen_ok, List.map_toArray, List.map_cons, List.map_nil, hs, hx, List.length_nil, hr]
    have := h ad cap W (by simpa using hown) (Keep.refl _ _) (Below.refl _ _)
    rw [List.length_nil, Nat.add_zero] at this
    exact this
  | some bd =>
    have hcells : ∀ j u, ys[j]? = some u → W.cell? (bd.add j) = some u := by
      intro j u hj
      rcases hb with hb | ⟨g, off, ha, _, _, hc⟩
      · subst hb; simp at hj
      · have ha := Option.some.inj ha
        subst ha
        have hj' : j < ys.length := (List.getElem?_eq_some_iff.1 hj).1
        rw [addr_add, hc j hj', hj]
    obtain ⟨v', w', hr, h2, h3, h4⟩ := run_append_own (P := P) W base T o.type E i z 1 bytes hT hi0 hz hsz hby hz1 (by decide) _ n _ hown bd ys.length c ys (by simp) hcells h1
      (by unfold maxLen; omega) (by have : (n + ys.length) * bytes ≤ 1099511627776 * 128 := Nat.mul_le_mul h63 hbytes
                                    omega) hbase
    have hbel : Below base W w' := (Below.refl _ _).grown h3 hbase (fun k hk => (World.ownsRow.lt hown k hk).1)
    unfold Oper.wp execOp
    simp only [ho, resolve, invoke, builtin, Sem.run_bind, Sem.run_pure, Result.andThen_ok, List.map_toArray, List.map_cons, List.map_nil, hs, hx, hr]
    rcases h2.2 with ⟨h5, h6⟩ | ⟨g, cap', cur, rfl, hg1, hg2, hg3, hg4⟩
    · subst h5
      have e := h none 0 w' (by
        have hn : n + ys.length = 0 := h6
        rw [hn] at h2 ⊢; exact h2) (Keep.of_grown h3) hbel
      rwa [h6] at e
    · exact h (some ⟨g, 0, none⟩) cap' w' h2 (Keep.of_grown h3) hbel
theorem step_append_row {P : Program} {K : Act → World → Prop} {E' : Prop} (hgd : o.guard = none) (s x : Operand) (T E : TypeId) (z : Value) (bytes : Nat)
    (ho : o.op = .call { callee := .builtin .append, args := #[s, x], argTypes := #[T, T] }) (hT : P.underlying T = some (.slice E)) (hi : (P.info? E).map (fun i => (i.zero, i.size, i.bytes)) = some (some z, 1, bytes)) (hz1 : z.cells.size = 1)
    (base : Nat) (ad : Option Addr) (n cap : Nat) (xs : List Value) (hs : a.eval s = .slice ad n cap) (hown : W.ownsRow base E 1 (.slice ad n cap) n xs)
    (b : Option Addr) (m c : Nat) (ys : List Value) (hx : a.eval x = .slice b m c) (hm : ys.length = m) (hb : Row (fun _ => True) W b ys) (h1 : ∀ u ∈ ys, u.oneCell' = true)
    (h63 : n + m ≤ 1099511627776) (hbytes : bytes ≤ 128) (hbase : base ≤ W.heap.size)
    (t : Nat) (ht : n + m = t) (h : ∀ ad' cap' w', w'.ownsRow base E 1 (.slice ad' t cap') t (xs ++ ys) → Keep (fun k => some k ≠ (Value.slice ad n cap).ownBlock) W w' → Below base W w' → K (a.put o.dst (.slice ad' t cap')) w') :
    if Region.wanted o (yielded ops a.tmps) = true then Oper.wp P o a W K Q else E' := by
  have hw : Region.wanted o (yielded ops a.tmps) = true := by simp [Region.wanted, hgd]
  rw [if_pos hw]
  exact wp_append_row s x T E z bytes ho hT hi hz1 base ad n cap xs hs hown b m c ys hx hm hb h1 h63 hbytes hbase t ht h
theorem append_row {P : Program} {rest : List Oper} (hgd : o.guard = none) (s x : Operand) (T E : TypeId) (z : Value) (bytes : Nat)
    (ho : o.op = .call { callee := .builtin .append, args := #[s, x], argTypes := #[T, T] }) (hT : P.underlying T = some (.slice E)) (hi : (P.info? E).map (fun i => (i.zero, i.size, i.bytes)) = some (some z, 1, bytes)) (hz1 : z.cells.size = 1)
    (base : Nat) (ad : Option Addr) (n cap : Nat) (xs : List Value) (hs : a.eval s = .slice ad n cap) (hown : W.ownsRow base E 1 (.slice ad n cap) n xs)
    (b : Option Addr) (m c : Nat) (ys : List Value) (hx : a.eval x = .slice b m c) (hm : ys.length = m) (hb : Row (fun _ => True) W b ys) (h1 : ∀ u ∈ ys, u.oneCell' = true)
    (h63 : n + m ≤ 1099511627776) (hbytes : bytes ≤ 128) (hbase : base ≤ W.heap.size)
    (t : Nat) (ht : n + m = t) (h : ∀ ad' cap' w', w'.ownsRow base E 1 (.slice ad' t cap') t (xs ++ ys) → Keep (fun k => some k ≠ (Value.slice ad n cap).ownBlock) W w' → Below base W w' → wpList P ops Q rest (a.put o.dst (.slice ad' t cap')) w') : wpList P ops Q (o :: rest) a W :=
  wpList_plain hgd fun _ hK => wp_append_row s x T E z bytes ho hT hi hz1 base ad n cap xs hs hown b m c ys hx hm hb h1 h63 hbytes hbase t ht fun ad' cap' w' h1 h2 h3 => hK _ _ (h ad' cap' w' h1 h2 h3)
end
section
variable {ops : Array Oper} {o : Oper} {a : Act} {Q : Exit → Act → World → Prop} {W : World}
/-- Elements of whatever size, made by the call just now. -/
theorem wp_append_big {P : Program} {K : Act → World → Prop} (s x : Operand) (T E : TypeId) (z : Value) (size bytes : Nat)
    (ho : o.op = .call { callee := .builtin .append, args := #[s, x], argTypes := #[T, T] }) (hT : P.underlying T = some (.slice E)) (hi : (P.info? E).map (fun i => (i.zero, i.size, i.bytes)) = some (some z, size, bytes)) (hz1 : z.cells.size = size) (hsz : 0 < size)
    (base : Nat) (ad : Option Addr) (n cap : Nat) (xs : List Value) (hs : a.eval s = .slice ad n cap) (hown : W.ownsRow base E size (.slice ad n cap) n xs)
    (b m c : Nat) (us : List Value) (E2 : TypeId) (fr : Nat × Nat) (hx : a.eval x = .slice (some ⟨b, 0, none⟩) m c) (hm : us.length = m * size) (hblk : W.heap[b]? = some (.cells us.toArray E2 fr)) (h1 : ∀ u ∈ us, u.oneCell' = true)
    (hpos : 0 < m) (h63 : n + m ≤ 1099511627776) (hbytes : bytes ≤ 128) (hbase : base ≤ W.heap.size) (t : Nat) (ht : n + m = t)
    (h : ∀ g cap' w', w'.ownsRow base E size (.slice (some ⟨g, 0, none⟩) t cap') t (xs ++ us) → Keep (fun k => some k ≠ (Value.slice ad n cap).ownBlock) W w' → Below base W w' → ((Value.slice ad n cap).ownBlock = some g ∨ g = W.heap.size) → K (a.put o.dst (.slice (some ⟨g, 0, none⟩) t cap')) w') : o.wp P a W K Q := by
  obtain ⟨i, hi0, hz, hi2, hi3⟩ := info_parts hi
  subst ht
  exact wp_append_lies _ s x _ ho base E i _ size bytes hT hi0 hz hi2 hi3 hz1 hsz (.slice ad n cap) n xs hs hown ⟨b, 0, none⟩ m c us hx hm
    (World.news_of_block (cs := us.toArray) hblk) h1 hpos (by unfold maxLen; omega) (by
      have : (n + m) * bytes ≤ 1099511627776 * 128 := Nat.mul_le_mul h63 hbytes
      omega) hbase _ rfl
    (fun g cap' w' hown' hg hat _ => h g cap' w' hown' (Keep.of_grown hg) ((Below.refl _ _).grown hg hbase (fun k hk => (World.ownsRow.lt hown k hk).1)) hat)
theorem step_append_big {P : Program} {K : Act → World → Prop} {E' : Prop} (hgd : o.guard = none) (s x : Operand) (T E : TypeId) (z : Value) (size bytes : Nat)
    (ho : o.op = .call { callee := .builtin .append, args := #[s, x], argTypes := #[T, T] }) (hT : P.underlying T = some (.slice E)) (hi : (P.info? E).map (fun i => (i.zero, i.size, i.bytes)) = some (some z, size, bytes)) (hz1 : z.cells.size = size) (hsz : 0 < size)
    (base : Nat) (ad : Option Addr) (n cap : Nat) (xs : List Value) (hs : a.eval s = .slice ad n cap) (hown : W.ownsRow base E size (.slice ad n cap) n xs)
    (b m c : Nat) (us : List Value) (E2 : TypeId) (fr : Nat × Nat) (hx : a.eval x = .slice (some ⟨b, 0, none⟩) m c) (hm : us.length = m * size) (hblk : W.heap[b]? = some (.cells us.toArray E2 fr)) (h1 : ∀ u ∈ us, u.oneCell' = true)
    (hpos : 0 < m) (h63 : n + m ≤ 1099511627776) (hbytes : bytes ≤ 128) (hbase : base ≤ W.heap.size) (t : Nat) (ht : n + m = t)
    (h : ∀ g cap' w', w'.ownsRow base E size (.slice (some ⟨g, 0, none⟩) t cap') t (xs ++ us) → Keep (fun k => some k ≠ (Value.slice ad n cap).ownBlock) W w' → Below base W w' → ((Value.slice ad n cap).ownBlock = some g ∨ g = W.heap.size) → K (a.put o.dst (.slice (some ⟨g, 0, none⟩) t cap')) w') :
    if Region.wanted o (yielded ops a.tmps) = true then Oper.wp P o a W K Q else E' := by
  have hw : Region.wanted o (yielded ops a.tmps) = true := by simp [Region.wanted, hgd]
  rw [if_pos hw]
  exact wp_append_big s x T E z size bytes ho hT hi hz1 hsz base ad n cap xs hs hown b m c us E2 fr hx hm hblk h1 hpos h63 hbytes hbase t ht h
theorem append_big {P : Program} {rest : List Oper} (hgd : o.guard = none) (s x : Operand) (T E : TypeId) (z : Value) (size bytes : Nat)
    (ho : o.op = .call { callee := .builtin .append, args := #[s, x], argTypes := #[T, T] }) (hT : P.underlying T = some (.slice E)) (hi : (P.info? E).map (fun i => (i.zero, i.size, i.bytes)) = some (some z, size, bytes)) (hz1 : z.cells.size = size) (hsz : 0 < size)
    (base : Nat) (ad : Option Addr) (n cap : Nat) (xs : List Value) (hs : a.eval s = .slice ad n cap) (hown : W.ownsRow base E size (.slice ad n cap) n xs)
    (b m c : Nat) (us : List Value) (E2 : TypeId) (fr : Nat × Nat) (hx : a.eval x = .slice (some ⟨b, 0, none⟩) m c) (hm : us.length = m * size) (hblk : W.heap[b]? = some (.cells us.toArray E2 fr)) (h1 : ∀ u ∈ us, u.oneCell' = true)
    (hpos : 0 < m) (h63 : n + m ≤ 1099511627776) (hbytes : bytes ≤ 128) (hbase : base ≤ W.heap.size) (t : Nat) (ht : n + m = t)
    (h : ∀ g cap' w', w'.ownsRow base E size (.slice (some ⟨g, 0, none⟩) t cap') t (xs ++ us) → Keep (fun k => some k ≠ (Value.slice ad n cap).ownBlock) W w' → Below base W w' → ((Value.slice ad n cap).ownBlock = some g ∨ g = W.heap.size) → wpList P ops Q rest (a.put o.dst (.slice (some ⟨g, 0, none⟩) t cap')) w') : wpList P ops Q (o :: rest) a W :=
  wpList_plain hgd fun _ hK => wp_append_big s x T E z size bytes ho hT hi hz1 hsz base ad n cap xs hs hown b m c us E2 fr hx hm hblk h1 hpos h63 hbytes hbase t ht fun g cap' w' h1 h2 h3 h4 => hK _ _ (h g cap' w' h1 h2 h3 h4)
end
/-- Texts as cells. -/
def textV (L : List (List UInt8)) : List Value := L.map fun p => .string (bs p)
theorem textV_len (L : List (List UInt8)) : (textV L).length = L.length := by simp [textV]
theorem textV_at {L : List (List UInt8)} {i : Nat} (hi : i < L.length) : (textV L)[i]? = some (.string (bs (L.getD i []))) := by
  simp [textV, hi]
theorem textV_one (L : List (List UInt8)) : ∀ u ∈ textV L, u.oneCell' = true := by
  intro u hu
  simp only [textV, List.mem_map] at hu
  obtain ⟨p, _, rfl⟩ := hu
  rfl
theorem Strs.row {w : World} {a : Option Addr} {L : List (List UInt8)} (h : Strs w a L) : Row (fun _ => True) w a (textV L) := by
  rcases h with h | ⟨g, off, ha, hg, hc⟩
  · left; simp [textV, h]
  · refine Or.inr ⟨g, off, ha, hg, trivial, fun i hi => ?_⟩
    rw [textV_len] at hi
    rw [hc i hi, textV_at hi]
theorem Row.strs {S : Nat → Prop} {w : World} {a : Option Addr} {L : List (List UInt8)} (h : Row S w a (textV L)) : Strs w a L := by
  rcases h with h | ⟨g, off, ha, hg, _, hc⟩
  · left; simpa [textV] using h
  · refine Or.inr ⟨g, off, ha, hg, fun i hi => ?_⟩
    rw [hc i (by rw [textV_len]; exact hi), textV_at hi]
theorem ownsRow_empty (w : World) (E : TypeId) : (w.alloc (.cells #[] E)).ownsRow w.heap.size E 1 (.slice (some ⟨w.heap.size, 0, none⟩) 0 0) 0 [] :=
  World.ownsRow_made w #[] 0 (Nat.le_refl _) (Nat.zero_le _) rfl
end Go.Proofs.YtnclibfhbngkjaaGreatDoor
namespace Go.Proofs.YtnclibfhbngkjaaGreatDoor
open Go.RowKit
theorem flat_at {α : Type} {F : α → List Value} {m : Nat} (hm : ∀ x, (F x).length = m) : ∀ (L : List α) (i r : Nat) (hi : i < L.length), r < m → (L.flatMap F)[i * m + r]? = (F L[i])[r]?
  | [], i, r, hi, _ => by simp at hi
  | x :: L, 0, r, _, hr => by
    rw [List.flatMap_cons, List.getElem?_append_left (by rw [hm]; omega)]
    simp
  | x :: L, i + 1, r, hi, hr => by
    have ih := flat_at hm L i r (by simpa using hi) hr
    rw [List.flatMap_cons, List.getElem?_append_right (by rw [hm, Nat.succ_mul]; omega), hm]
    have e : (i + 1) * m + r - m = i * m + r := by rw [Nat.succ_mul]; omega
    rw [e, ih]
    simp
theorem flat_lenm {α : Type} {F : α → List Value} {m : Nat} (hm : ∀ x, (F x).length = m) : ∀ (L : List α), (L.flatMap F).length = L.length * m
  | [] => by simp
  | x :: L => by rw [List.flatMap_cons, List.length_append, hm, flat_lenm hm L, List.length_cons, Nat.succ_mul]; omega
def needV3 (n : NeedD) : List Value := [.string (bs n.name), .int .i64 n.way, .string (bs n.ver)]
def fileV3 (f : FileD) : List Value := [.string (bs f.path), .bool f.config, .int .u32 (le32 f.data : Nat)]
def strV1 (s : By) : List Value := [.string (bs s)]
/-- Cells one behind the other. -/
def RunM (w : World) (a : Option Addr) (us : List Value) : Prop := us = [] ∨ ∃ g off, a = some ⟨g, off, none⟩ ∧ g < w.heap.size ∧ ∀ j u, us[j]? = some u → w.cell? ⟨g, off + j, none⟩ = some u
/-- A slice's block, if it has one, is none of those that were there. -/
def Fresh (base : Nat) (a : Option Addr) : Prop := ∀ ad, a = some ad → base ≤ ad.block
theorem run_of_row {w : World} {base E m n : Nat} {v : Value} {us : List Value} (h : w.ownsRow base E m v n us) : ∃ a c, v = .slice a n c ∧ n ≤ c ∧ RunM w a us ∧ Fresh base a := by
  have hl := h.1
  rcases h.2 with ⟨h1, h2⟩ | ⟨g, c, cur, h1, hbg, hg, hn, hm, hs, ht⟩
  · exact ⟨none, 0, by rw [h1, h2], by omega, Or.inl (List.eq_nil_of_length_eq_zero (by rw [hl, h2]; simp)), fun ad h => by cases h⟩
  · refine ⟨_, c, h1, hn, Or.inr ⟨g, 0, rfl, (Array.getElem?_eq_some_iff.1 hg).1, fun j u hj => ?_⟩, fun ad h => by cases h; exact hbg⟩
    rw [← ht, List.getElem?_take] at hj
    rw [Nat.zero_add]
    split at hj
    · exact blk_cell hg _ _ (by simpa using hj)
    · cases hj
theorem needs_run {w : World} {a : Option Addr} {L : List NeedD} : NeedsM w a L ↔ RunM w a (L.flatMap needV3) := by
  have h3 : ∀ x, (needV3 x).length = 3 := fun _ => rfl
  constructor
  · rintro (h | ⟨g, off, ha, hg, hc⟩)
    · left; rw [h]; rfl
    · refine Or.inr ⟨g, off, ha, hg, fun j u hj => ?_⟩
      have hjl := (List.getElem?_eq_some_iff.1 hj).1
      rw [flat_lenm h3] at hjl
      have hi : j / 3 < L.length := by omega
      have e := flat_at h3 L (j / 3) (j % 3) hi (by omega)
      have ej : j / 3 * 3 + j % 3 = j := by omega
      rw [ej, hj] at e
      obtain ⟨c0, c1, c2⟩ := hc (j / 3) hi
      have eL : L.getD (j / 3) nz = L[j / 3] := by simp [hi]
      rw [eL] at c0 c1 c2
      have hr : j % 3 = 0 ∨ j % 3 = 1 ∨ j % 3 = 2 := by omega
      rcases hr with hr | hr | hr
      · rw [hr] at e; have e : u = _ := Option.some.inj e
        rw [e, show off + j = off + j / 3 * 3 by omega]; exact c0
      · rw [hr] at e; have e : u = _ := Option.some.inj e
        rw [e, show off + j = off + j / 3 * 3 + 1 by omega]; exact c1
      · rw [hr] at e; have e : u = _ := Option.some.inj e
        rw [e, show off + j = off + j / 3 * 3 + 2 by omega]; exact c2
  · rintro (h | ⟨g, off, ha, hg, hc⟩)
    · left
      have := flat_lenm h3 L
      rw [h] at this
      exact List.eq_nil_of_length_eq_zero (by simp at this; omega)
    · refine Or.inr ⟨g, off, ha, hg, fun i hi => ?_⟩
      have eL : L.getD i nz = L[i] := by simp [hi]
      rw [eL]
      refine ⟨?_, ?_, ?_⟩
      · exact hc (i * 3) _ (flat_at h3 L i 0 hi (by omega))
      · exact hc (i * 3 + 1) _ (flat_at h3 L i 1 hi (by omega))
      · exact hc (i * 3 + 2) _ (flat_at h3 L i 2 hi (by omega))
theorem filesE_run {w : World} {a : Option Addr} {L : List FileD} : FilesE w a L ↔ RunM w a (L.flatMap fileV3) := by
  have h3 : ∀ x, (fileV3 x).length = 3 := fun _ => rfl
  constructor
  · rintro (h | ⟨g, off, ha, hg, hc⟩)
    · left; rw [h]; rfl
    · refine Or.inr ⟨g, off, ha, hg, fun j u hj => ?_⟩
      have hjl := (List.getElem?_eq_some_iff.1 hj).1
      rw [flat_lenm h3] at hjl
      have hi : j / 3 < L.length := by omega
      have e := flat_at h3 L (j / 3) (j % 3) hi (by omega)
      have ej : j / 3 * 3 + j % 3 = j := by omega
      rw [ej, hj] at e
      obtain ⟨c0, c1, c2⟩ := hc (j / 3) hi
      have eL : L.getD (j / 3) fz = L[j / 3] := by simp [hi]
      rw [eL] at c0 c1 c2
      have hr : j % 3 = 0 ∨ j % 3 = 1 ∨ j % 3 = 2 := by omega
      rcases hr with hr | hr | hr
      · rw [hr] at e; have e : u = _ := Option.some.inj e
        rw [e, show off + j = off + j / 3 * 3 by omega]; exact c0
      · rw [hr] at e; have e : u = _ := Option.some.inj e
        rw [e, show off + j = off + j / 3 * 3 + 1 by omega]; exact c1
      · rw [hr] at e; have e : u = _ := Option.some.inj e
        rw [e, show off + j = off + j / 3 * 3 + 2 by omega]; exact c2
  · rintro (h | ⟨g, off, ha, hg, hc⟩)
    · left
      have := flat_lenm h3 L
      rw [h] at this
      exact List.eq_nil_of_length_eq_zero (by simp at this; omega)
    · refine Or.inr ⟨g, off, ha, hg, fun i hi => ?_⟩
      have eL : L.getD i fz = L[i] := by simp [hi]
      rw [eL]
      refine ⟨?_, ?_, ?_⟩
      · exact hc (i * 3) _ (flat_at h3 L i 0 hi (by omega))
      · exact hc (i * 3 + 1) _ (flat_at h3 L i 1 hi (by omega))
      · exact hc (i * 3 + 2) _ (flat_at h3 L i 2 hi (by omega))
theorem strs_run {w : World} {a : Option Addr} {L : List By} : Strs w a L ↔ RunM w a (textV L) := by
  constructor
  · rintro (h | ⟨g, off, ha, hg, hc⟩)
    · left; rw [h]; rfl
    · refine Or.inr ⟨g, off, ha, hg, fun j u hj => ?_⟩
      have hjl := (List.getElem?_eq_some_iff.1 hj).1
      rw [textV_len] at hjl
      rw [textV_at hjl] at hj
      rw [hc j hjl]; exact hj
  · rintro (h | ⟨g, off, ha, hg, hc⟩)
    · left
      have := textV_len L
      rw [h] at this
      exact List.eq_nil_of_length_eq_zero (by simp at this; omega)
    · exact Or.inr ⟨g, off, ha, hg, fun i hi => hc i _ (textV_at hi)⟩
theorem info_entneed : (Tryz.prog.info? 68).map (fun i => (i.zero, i.size, i.bytes)) = some (some (.agg #[.string ⟨#[]⟩, .int .i64 0, .string ⟨#[]⟩]), 3, 40) := by kernel_rfl
theorem info_entfile : (Tryz.prog.info? 71).map (fun i => (i.zero, i.size, i.bytes)) = some (some (.agg #[.string ⟨#[]⟩, .bool false, .int .u32 0]), 3, 24) := by kernel_rfl
/-- What a clone is. -/
def CloneR (n : Nat) (us : List Value) (w : World) (e : Ending) (w' : World) : Prop := ∃ a c, e = .returned (.slice a n c) ∧ n ≤ c ∧ RunM w' a us ∧ Fresh w.heap.size a ∧ Ext w w'
theorem RunM.ext {w w' : World} {a : Option Addr} {us : List Value} (h : RunM w a us) (k : Ext w w') : RunM w' a us := by
  rcases h with h | ⟨g, off, ha, hg, hc⟩
  · exact Or.inl h
  · exact Or.inr ⟨g, off, ha, Nat.lt_of_lt_of_le hg k.size, fun j u hj => k.cell (hc j u hj)⟩
theorem RunM.plain {w : World} {ad : Addr} {us : List Value} (h : RunM w (some ad) us) : ∀ j u, us[j]? = some u → w.cell? (ad.add j) = some u := by
  intro j u hj
  rcases h with h | ⟨g, off, ha, _, hc⟩
  · rw [h] at hj; simp at hj
  · have ha := Option.some.inj ha
    subst ha
    have e : (⟨g, off, none⟩ : Addr).add j = ⟨g, off + j, none⟩ := by
      unfold Addr.add; split
      · rename_i h0; subst h0; rfl
      · rfl
    rw [e]; exact hc j u hj
set_option maxRecDepth 100000 in
set_option maxHeartbeats 1600000 in
theorem clone_n (a : Option Addr) (n c : Nat) (us : List Value) (w : World) (hn : us.length = n * 3) (h : RunM w a us) (h1 : ∀ u ∈ us, u.oneCell' = true) (hl : n ≤ 100000) :
    Calls Tryz.prog 40 #[.slice a n c] w (CloneR n us w) := by
  obtain ⟨R, hR⟩ : ∃ R, R = CloneR n us w := ⟨_, rfl⟩
  rw [← hR]
  have HR := Lib.hid hR; clear hR
  have q24 : ∀ (w : World) (a : Option Addr) (n c n' c' : Nat), (binOp .eql 27 (.slice a n c) (.slice none n' c')).run Tryz.prog w = .ok (.bool a.isNone) w := fun w a n c n' c' => Lib.run_eql_slice_nil w _ _ a n c n' c' Tryz.underlying27
  have HH := Lib.hid h; clear h
  have HN := Lib.hid hn; clear hn
  cases a with
  | none =>
    go_enter Tryz.func40, Tryz.ntmps40
    go_wp2
    rw [HR.out]
    have hn0 : us = [] := by
      rcases HH.out with h | ⟨_, _, ha, _⟩
      · exact h
      · cases ha
    have hz : n = 0 := by have := HN.out; rw [hn0] at this; simp at this; omega
    subst hz
    exact ⟨none, 0, rfl, Nat.le_refl _, Or.inl hn0, fun ad h => (by cases h), Ext.refl _⟩
  | some ad =>
    obtain ⟨i0, hi, hz, hsz, hby⟩ := info_parts info_entneed
    have HI := Lib.hid hi; clear hi
    have HZ := Lib.hid hz; clear hz
    have HS := Lib.hid hsz; clear hsz
    have HB := Lib.hid hby; clear hby
    have hpl := (HH.out.ext (Ext.alloc w (.cells #[] 68))).plain
    have HP := Lib.hid hpl; clear hpl
    go_enter Tryz.func40, Tryz.ntmps40
    go_wp2_with (at_builtin; (refine wpList_append_own _ rfl _ _ 27 rfl w.heap.size 68 i0 (.agg #[.string ⟨#[]⟩, .int .i64 0, .string ⟨#[]⟩]) 3 40 Tryz.underlying27 HI.out HZ.out HS.out HB.out rfl (by decide) (.slice (some ⟨w.heap.size, 0, none⟩) 0 0) 0 [] rfl (World.ownsRow_made w #[] 0 (Nat.le_refl _) (Nat.zero_le _) rfl) ad n c us rfl HN.out HP.out h1 (by unfold maxLen; omega) (by omega) (by simp) ?_); intro v' w1 hown hgrow hnil)
    obtain ⟨a', c', rfl, hc', hrun, hfr⟩ := run_of_row hown
    have HX := Lib.hid (((Below.refl _ w).alloc (Nat.le_refl _) _).grown hgrow (by simp) (by intro k hk; simp [Value.ownBlock] at hk; omega))
    rw [HR.out]
    simp only [Nat.zero_add, List.nil_append] at hc' hrun
    refine ⟨a', c', ?_, hc', hrun, hfr, HX.out⟩
    simp only [Nat.zero_add]
    rfl
set_option maxRecDepth 100000 in
set_option maxHeartbeats 1600000 in
theorem clone_f (a : Option Addr) (n c : Nat) (us : List Value) (w : World) (hn : us.length = n * 3) (h : RunM w a us) (h1 : ∀ u ∈ us, u.oneCell' = true) (hl : n ≤ 100000) :
    Calls Tryz.prog 59 #[.slice a n c] w (CloneR n us w) := by
  obtain ⟨R, hR⟩ : ∃ R, R = CloneR n us w := ⟨_, rfl⟩
  rw [← hR]
  have HR := Lib.hid hR; clear hR
  have q24 : ∀ (w : World) (a : Option Addr) (n c n' c' : Nat), (binOp .eql 35 (.slice a n c) (.slice none n' c')).run Tryz.prog w = .ok (.bool a.isNone) w := fun w a n c n' c' => Lib.run_eql_slice_nil w _ _ a n c n' c' Tryz.underlying35
  have HH := Lib.hid h; clear h
  have HN := Lib.hid hn; clear hn
  cases a with
  | none =>
    go_enter Tryz.func59, Tryz.ntmps59
    go_wp2
    rw [HR.out]
    have hn0 : us = [] := by
      rcases HH.out with h | ⟨_, _, ha, _⟩
      · exact h
      · cases ha
    have hz : n = 0 := by have := HN.out; rw [hn0] at this; simp at this; omega
    subst hz
    exact ⟨none, 0, rfl, Nat.le_refl _, Or.inl hn0, fun ad h => (by cases h), Ext.refl _⟩
  | some ad =>
    obtain ⟨i0, hi, hz, hsz, hby⟩ := info_parts info_entfile
    have HI := Lib.hid hi; clear hi
    have HZ := Lib.hid hz; clear hz
    have HS := Lib.hid hsz; clear hsz
    have HB := Lib.hid hby; clear hby
    have hpl := (HH.out.ext (Ext.alloc w (.cells #[] 71))).plain
    have HP := Lib.hid hpl; clear hpl
    go_enter Tryz.func59, Tryz.ntmps59
    go_wp2_with (at_builtin; (refine wpList_append_own _ rfl _ _ 35 rfl w.heap.size 71 i0 (.agg #[.string ⟨#[]⟩, .bool false, .int .u32 0]) 3 24 Tryz.underlying35 HI.out HZ.out HS.out HB.out rfl (by decide) (.slice (some ⟨w.heap.size, 0, none⟩) 0 0) 0 [] rfl (World.ownsRow_made w #[] 0 (Nat.le_refl _) (Nat.zero_le _) rfl) ad n c us rfl HN.out HP.out h1 (by unfold maxLen; omega) (by omega) (by simp) ?_); intro v' w1 hown hgrow hnil)
    obtain ⟨a', c', rfl, hc', hrun, hfr⟩ := run_of_row hown
    have HX := Lib.hid (((Below.refl _ w).alloc (Nat.le_refl _) _).grown hgrow (by simp) (by intro k hk; simp [Value.ownBlock] at hk; omega))
    rw [HR.out]
    simp only [Nat.zero_add, List.nil_append] at hc' hrun
    refine ⟨a', c', ?_, hc', hrun, hfr, HX.out⟩
    simp only [Nat.zero_add]
    rfl
set_option maxRecDepth 100000 in
set_option maxHeartbeats 1600000 in
theorem clone_s (a : Option Addr) (n c : Nat) (us : List Value) (w : World) (hn : us.length = n * 1) (h : RunM w a us) (h1 : ∀ u ∈ us, u.oneCell' = true) (hl : n ≤ 100000) :
    Calls Tryz.prog 41 #[.slice a n c] w (CloneR n us w) := by
  obtain ⟨R, hR⟩ : ∃ R, R = CloneR n us w := ⟨_, rfl⟩
  rw [← hR]
  have HR := Lib.hid hR; clear hR
  have q24 : ∀ (w : World) (a : Option Addr) (n c n' c' : Nat), (binOp .eql 28 (.slice a n c) (.slice none n' c')).run Tryz.prog w = .ok (.bool a.isNone) w := fun w a n c n' c' => Lib.run_eql_slice_nil w _ _ a n c n' c' Tryz.underlying28
  have HH := Lib.hid h; clear h
  have HN := Lib.hid hn; clear hn
  cases a with
  | none =>
    go_enter Tryz.func41, Tryz.ntmps41
    go_wp2
    rw [HR.out]
    have hn0 : us = [] := by
      rcases HH.out with h | ⟨_, _, ha, _⟩
      · exact h
      · cases ha
    have hz : n = 0 := by have := HN.out; rw [hn0] at this; simp at this; omega
    subst hz
    exact ⟨none, 0, rfl, Nat.le_refl _, Or.inl hn0, fun ad h => (by cases h), Ext.refl _⟩
  | some ad =>
    obtain ⟨i0, hi, hz, hsz, hby⟩ := info_parts info_string
    have HI := Lib.hid hi; clear hi
    have HZ := Lib.hid hz; clear hz
    have HS := Lib.hid hsz; clear hsz
    have HB := Lib.hid hby; clear hby
    have hpl := (HH.out.ext (Ext.alloc w (.cells #[] 9))).plain
    have HP := Lib.hid hpl; clear hpl
    go_enter Tryz.func41, Tryz.ntmps41
    go_wp2_with (at_builtin; (refine wpList_append_own _ rfl _ _ 28 rfl w.heap.size 9 i0 (.string ⟨#[]⟩) 1 16 Tryz.underlying28 HI.out HZ.out HS.out HB.out rfl (by decide) (.slice (some ⟨w.heap.size, 0, none⟩) 0 0) 0 [] rfl (World.ownsRow_made w #[] 0 (Nat.le_refl _) (Nat.zero_le _) rfl) ad n c us rfl HN.out HP.out h1 (by unfold maxLen; omega) (by omega) (by simp) ?_); intro v' w1 hown hgrow hnil)
    obtain ⟨a', c', rfl, hc', hrun, hfr⟩ := run_of_row hown
    have HX := Lib.hid (((Below.refl _ w).alloc (Nat.le_refl _) _).grown hgrow (by simp) (by intro k hk; simp [Value.ownBlock] at hk; omega))
    rw [HR.out]
    simp only [Nat.zero_add, List.nil_append] at hc' hrun
    refine ⟨a', c', ?_, hc', hrun, hfr, HX.out⟩
    simp only [Nat.zero_add]
    rfl
end Go.Proofs.YtnclibfhbngkjaaGreatDoor
namespace Go.Proofs.YtnclibfhbngkjaaGreatDoor
open Go
section
variable {P : Program} {ops : Array Oper} {Q : Exit → Act → World → Prop} {md : Region.Mode} {S : World → Prop} {I : List Nat}
/-- Does an operation wait for each of the operations I? -/
def waitsAll (md : Region.Mode) (ops : Array Oper) (I : List Nat) (j : Nat) : Bool :=
  I.all fun i => match ops[j]? with | some o => o.after.any (fun e => Region.binds md e && e.on == i) | none => false
/-- Whatever order is picked from here on; as long as b stands the condition S holds; an operation that doesn't wait for all of I lets it stand. -/
def wpAnyK (P : Program) (md : Region.Mode) (ops : Array Oper) (Q : Exit → Act → World → Prop) (S : World → Prop) (I : List Nat) : Nat → Array Bool → Bool → Act → World → Prop
  | 0, listed, _, a, w => Region.ready md ops listed = [] ∧ Q .normal a w
  | fuel + 1, listed, b, a, w =>
    (Region.ready md ops listed = [] → Q .normal a w) ∧
    ∀ i ∈ Region.ready md ops listed, wpOp P ops Q i (fun a' w' => ∃ b' : Bool, (b' = true → S w') ∧ ((b = true ∧ waitsAll md ops I i = false) → b' = true) ∧ wpAnyK P md ops Q S I fuel (listed.setIfInBounds i true) b' a' w') a w
theorem wpAny_of_K : ∀ (fuel : Nat) (listed : Array Bool) (b : Bool) (a : Act) (w : World), wpAnyK P md ops Q S I fuel listed b a w → wpAny P md ops Q fuel listed a w
  | 0, _, _, _, _, h => h
  | fuel + 1, _, _, _, _, h => ⟨h.1, fun i hi => wpOp_mono (fun a' w' h' => by obtain ⟨b', _, _, h3⟩ := h'; exact wpAny_of_K fuel _ b' a' w' h3) (h.2 i hi)⟩
theorem waits_not {i j : Nat} {oj : Oper} (hi : i ∈ I) (hj : ops[j]? = some oj) (hno : ∀ e ∈ oj.after, Region.binds md e = true → e.on ≠ i) : waitsAll md ops I j = false := by
  cases h : waitsAll md ops I j
  · rfl
  · unfold waitsAll at h
    have := (List.all_eq_true.1 h) i hi
    rw [hj] at this
    simp only at this
    obtain ⟨e, he, hb⟩ := Array.any_eq_true'.1 this
    simp only [Bool.and_eq_true, beq_iff_eq] at hb
    exact absurd hb.2 (hno e he hb.1)
theorem wpAnyK_first {c : Bool} {i : Nat} {oi : Oper} {v : Value} (hi : ops[i]? = some oi) (hsel : ∀ (j : Nat) (o : Oper) cs b, ops[j]? = some o → o.op ≠ .select cs b)
    (hQ : ∀ c a w, Q (.panic c) (a.put oi.dst v) w → Q (.panic c) a w) (hI : c = true → i ∈ I) :
    ∀ (fuel : Nat) (listed : Array Bool) (b : Bool) (a : Act) (w : World),
      (∀ j oj, ops[j]? = some oj → j ≠ i → listed.getD j true = false → (∀ e ∈ oj.after, Region.binds md e = true → e.on ≠ i) → oi.apart ops oj = true) →
      i ∈ Region.ready md ops listed → YieldsIf P ops (fun w => c = true → S w) oi v a → (c = true → b = true) → (b = true → S w) →
      wpAnyK P md ops Q S I fuel (listed.setIfInBounds i true) b (a.put oi.dst v) w → wpAnyK P md ops Q S I (fuel + 1) listed b a w := by
  intro fuel
  induction fuel with
  | zero =>
    intro listed b a w _ hr hy hc hS H
    refine ⟨fun h => (by rw [h] at hr; cases hr), fun j hj => ?_⟩
    by_cases hji : j = i
    · subst hji; exact hy.wpOp hi (fun hcc => hS (hc hcc)) ⟨b, hS, fun h => h.1, H⟩
    · have := ready_mono hj hji
      rw [H.1] at this
      cases this
  | succ fuel ih =>
    intro listed b a w hfree hr hy hc hS H
    refine ⟨fun h => (by rw [h] at hr; cases hr), fun j hj => ?_⟩
    by_cases hji : j = i
    · subst hji; exact hy.wpOp hi (fun hcc => hS (hc hcc)) ⟨b, hS, fun h => h.1, H⟩
    · have h1 := H.2 j (ready_mono hj hji)
      obtain ⟨hjun, oj, hoj, hall⟩ := mem_ready.1 hj
      have hnot : ∀ e ∈ oj.after, Region.binds md e = true → e.on ≠ i := fun e he hb heq => by
        have h1 := hall e he hb
        have h0 := (mem_ready.1 hr).1
        rw [heq] at h1
        rcases Nat.lt_or_ge i listed.size with h' | h'
        · simp [h'] at h0 h1; rw [h0] at h1; cases h1
        · simp [Array.getElem?_eq_none h'] at h1
      have h2 := wpOp_putIf hoj (hfree j oj hoj hji hjun hnot) (fun cs b => hsel i oi cs b hi) (fun cs b => hsel j oj cs b hoj) hQ hy h1
      have hfree' : ∀ k ok, ops[k]? = some ok → k ≠ i → (listed.setIfInBounds j true).getD k true = false →
          (∀ e ∈ ok.after, Region.binds md e = true → e.on ≠ i) → oi.apart ops ok = true := fun k ok hk hki hun hno => by
        refine hfree k ok hk hki ?_ hno
        by_cases hjk : j = k
        · subst hjk; exact hjun
        · rw [getD_set_ne true hjk] at hun; exact hun
      refine wpOp_mono (fun a' w' h3 => ?_) h2
      obtain ⟨hy', b', hb1, hb2, hH⟩ := h3
      refine ⟨b', hb1, hb2, ih (listed.setIfInBounds j true) b' a' w' hfree' (ready_mono hr (Ne.symm hji)) hy' (fun hcc => hb2 ⟨hc hcc, waits_not (hI hcc) hoj hnot⟩) hb1 ?_⟩
      rw [Array.setIfInBounds_comm _ _ hji]
      exact hH
/-- A load is taken first. -/
theorem wpAnyK_load {i : Nat} {oi : Oper} {v : Value} {fuel : Nat} {listed : Array Bool} {a : Act} {w : World} (hi : ops[i]? = some oi)
    (hs : Region.noSelect ops = true) (hf : Region.free md ops listed i = true) (hr : (Region.ready md ops listed).contains i = true)
    (hQ : ∀ c a w, Q (.panic c) (a.put oi.dst v) w → Q (.panic c) a w) (hI : I.contains i = true) (hw : Region.wanted oi (yielded ops a.tmps) = true) (hy : ∀ w, S w → (execOp a.eval oi).run P w = .ok (.value v) w) (hS : S w)
    (h : wpAnyK P md ops Q S I fuel (listed.setIfInBounds i true) true (a.put oi.dst v) w) : wpAnyK P md ops Q S I (fuel + 1) listed true a w :=
  wpAnyK_first (c := true) hi (Region.noSelect_spec hs) hQ (fun _ => by simpa using hI) fuel listed true a w (Region.free_spec hi hf) (by simpa using hr) (Or.inl ⟨hw, fun w' h' => hy w' (h' rfl)⟩) (fun _ => rfl) (fun _ => hS) h
/-- What yields in whatever world is taken first. -/
theorem wpAnyK_free {i : Nat} {oi : Oper} {v : Value} {fuel : Nat} {listed : Array Bool} {b : Bool} {a : Act} {w : World} (hi : ops[i]? = some oi)
    (hs : Region.noSelect ops = true) (hf : Region.free md ops listed i = true) (hr : (Region.ready md ops listed).contains i = true)
    (hQ : ∀ c a w, Q (.panic c) (a.put oi.dst v) w → Q (.panic c) a w) (hw : Region.wanted oi (yielded ops a.tmps) = true) (hy : ∀ w, (execOp a.eval oi).run P w = .ok (.value v) w) (hS : b = true → S w)
    (h : wpAnyK P md ops Q S I fuel (listed.setIfInBounds i true) b (a.put oi.dst v) w) : wpAnyK P md ops Q S I (fuel + 1) listed b a w :=
  wpAnyK_first (c := false) hi (Region.noSelect_spec hs) hQ (fun h => by cases h) fuel listed b a w (Region.free_spec hi hf) (by simpa using hr) (Or.inl ⟨hw, fun w' _ => hy w'⟩) (fun h => by cases h) hS h
/-- One operation alone may come up: it is carried out; S is shown anew. -/
theorem wpAnyK_one {i : Nat} {o : Oper} {fuel : Nat} {listed : Array Bool} {a : Act} {w : World} (hr : Region.ready md ops listed = [i]) (ho : ops[i]? = some o)
    (h : ∀ K' : Act → World → Prop, Shut (∀ a w, S w → wpAnyK P md ops Q S I fuel (listed.setIfInBounds i true) true a w → K' a w) → if Region.wanted o (yielded ops a.tmps) = true then Oper.wp P o a w K' Q else K' (a.put o.dst undef) w) :
    wpAnyK P md ops Q S I (fuel + 1) listed true a w := by
  refine ⟨fun h0 => (by rw [hr] at h0; cases h0), fun j hj => ?_⟩
  rw [hr] at hj
  obtain rfl := List.mem_singleton.1 hj
  exact wpOp_step ho (fun K' hK => h K' (fun a w hS hW => hK a w ⟨true, fun _ => hS, fun _ => rfl, hW⟩))
/-- One operation alone may come up, which waits for all: S is no longer wanted. -/
theorem wpAnyK_last {i : Nat} {o : Oper} {fuel : Nat} {listed : Array Bool} {b : Bool} {a : Act} {w : World} (hr : Region.ready md ops listed = [i]) (ho : ops[i]? = some o) (hwt : waitsAll md ops I i = true)
    (h : ∀ K' : Act → World → Prop, Shut (∀ a w, wpAnyK P md ops Q S I fuel (listed.setIfInBounds i true) false a w → K' a w) → if Region.wanted o (yielded ops a.tmps) = true then Oper.wp P o a w K' Q else K' (a.put o.dst undef) w) :
    wpAnyK P md ops Q S I (fuel + 1) listed b a w := by
  refine ⟨fun h0 => (by rw [hr] at h0; cases h0), fun j hj => ?_⟩
  rw [hr] at hj
  obtain rfl := List.mem_singleton.1 hj
  exact wpOp_step ho (fun K' hK => h K' (fun a w hW => hK a w ⟨false, fun h => (by cases h), fun h => (by rw [hwt] at h; cases h.2), hW⟩))
theorem wpAnyK_done {listed : Array Bool} {b : Bool} {a : Act} {w : World} (hr : Region.ready md ops listed = []) (h : Q .normal a w) : ∀ fuel, wpAnyK P md ops Q S I fuel listed b a w
  | 0 => ⟨hr, h⟩
  | _ + 1 => ⟨fun _ => h, by rw [hr]; simp⟩
/-- The beginning: S is shown of the world behind the draw. -/
theorem wp_region_K {id : Nat} {a : Act} {w : World} (hm : P.follows .mixedOrders = true) (hS : S w.drew)
    (h : S w.drew → wpAnyK P .any ops Q S I ops.size (Array.replicate ops.size false) true a w.drew) : (Code.region id ops true).wp P Q a w :=
  wp_region_any hm (wpAny_of_K _ _ _ _ _ (h hS))
end
end Go.Proofs.YtnclibfhbngkjaaGreatDoor
