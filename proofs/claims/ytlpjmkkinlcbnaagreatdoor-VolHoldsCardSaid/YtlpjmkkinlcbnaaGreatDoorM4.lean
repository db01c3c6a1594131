/- Several texts of mine, one behind the other: TreeOnce, TreeDo, TreeRead, TreeList, TreeLoose, TreeAt, RecNum, ConvText, RecRaw, TreeUnp, LogMem, TreeReap, VolMem. -/
import Derived.Test.YtlpjmkkinlcbnaaGreatDoorM6
import Derived.Test.YtlpjmkkinlcbnaaGreatDoorTreeStep
import Derived.Test.YtlpjmkkinlcbnaaGreatDoorTreeClone
import Derived.Test.YtlpjmkkinlcbnaaGreatDoorM3
import Derived.Test.YtlpjmkkinlcbnaaGreatDoorTreeFileM
import Derived.Test.YtlpjmkkinlcbnaaGreatDoorM1
import Derived.Shelf.SlIter.Nil
import Derived.Shelf.SortM.Plain
import Derived.Shelf.SortM.SortNone
import Derived.Shelf.AbstractIn
import Derived.Test.YtlpjmkkinlcbnaaGreatDoorM5
import Derived.Sort.OwnSortedInts
import Derived.Shelf.SlicesE.Clone
import Derived.Deep.AppendLies
import Derived.Test.YtlpjmkkinlcbnaaGreatDoorRec
import Derived.Lib.EndianBits
import Derived.WalkSpells
import Derived.WalkLawsBesides
import Derived.Test.YtlpjmkkinlcbnaaGreatDoorBytes
import Derived.Test.YtlpjmkkinlcbnaaGreatDoorRunAny
namespace Go.Proofs.YtlpjmkkinlcbnaaGreatDoor
/-- One by one, up to the first that is refused. -/
noncomputable def onesT : TreeD → List OpD → TreeD × Int
  | T, [] => (T, 0)
  | T, o :: l => if (doT T [o]).2 = 0 then onesT (doT T [o]).1 l else doT T [o]
section
variable {T : TreeD}
theorem runT_one (o : OpD) : runT T [o] = stepT T o := by
  unfold runT
  split
  · rename_i h
    unfold runT
    rw [← h]
  · rfl
theorem doT_zero {l : List OpD} (h : (doT T l).2 = 0) : (runT T l).2 = 0 ∧ (runT T l).1.ids.length ≤ 128 ∧ (usedT (runT T l).1 : Int) ≤ T.quota ∧ (doT T l).1 = (runT T l).1 := by
  unfold doT at h ⊢
  split at h
  · rename_i hn
    exact absurd h hn
  · rename_i h1
    split at h
    · cases h
    · rename_i h2
      split at h
      · cases h
      · rename_i h3
        rw [if_neg h1, if_neg h2, if_neg h3]
        exact ⟨by simpa using h1, by omega, by omega, rfl⟩
theorem doT_same {l : List OpD} (h : (doT T l).2 ≠ 0) : (doT T l).1 = T := by
  unfold doT at h ⊢
  split
  · rfl
  · rename_i h1
    rw [if_neg h1] at h
    split
    · rfl
    · rename_i h2
      rw [if_neg h2] at h
      split
      · rfl
      · rename_i h3
        rw [if_neg h3] at h
        exact absurd rfl h
theorem fileT_quota (o : OpD) (d : Int) (x : By) (i : Int) : (fileT T o d x i).1.quota = T.quota := by
  unfold fileT
  split
  · rfl
  · split
    · rfl
    · split
      · rfl
      · split
        · rfl
        · split
          · rfl
          · split
            · rfl
            · split
              · rfl
              · split <;> rfl
theorem stepT_quota (o : OpD) : (stepT T o).1.quota = T.quota := by
  unfold stepT
  split
  · rfl
  · split
    · rfl
    · split
      · rfl
      · split
        · split <;> rfl
        · split
          · rfl
          · split
            · split
              · rfl
              · split <;> rfl
            · split
              · rfl
              · exact fileT_quota _ _ _ _
theorem runT_quota : ∀ (l : List OpD) (T : TreeD), (runT T l).1.quota = T.quota
  | [], _ => rfl
  | o :: l, T => by
    unfold runT
    split
    · rw [runT_quota l, stepT_quota]
    · exact stepT_quota o
theorem doT_quota (l : List OpD) : (doT T l).1.quota = T.quota := by
  unfold doT
  split
  · rfl
  · split
    · rfl
    · split
      · rfl
      · exact runT_quota l T
theorem used_le {K : Nat} (h : FitT T K) : usedT T ≤ T.ids.length * 3500 := by
  have : ∀ L : List Int, (∀ i ∈ L, (T.node i).data.length ≤ 3500) → (L.map fun i => (T.node i).data.length).sum ≤ L.length * 3500 := by
    intro L
    induction L with
    | nil => intro _; simp
    | cons a L ih =>
      intro hL
      have h1 := hL a (by simp)
      have h2 := ih (fun i hi => hL i (by simp [hi]))
      rw [List.map_cons, List.sum_cons, List.length_cons]
      omega
  exact this T.ids h.data
/-- What goes well one by one goes well at once, with the same end. -/
theorem ones_zero : ∀ (l : List OpD) (T : TreeD), T.ids.length ≤ 128 → (usedT T : Int) ≤ T.quota → (onesT T l).2 = 0 → doT T l = ((onesT T l).1, 0)
  | [], T, h1, h2, _ => by
    unfold doT runT onesT
    rw [if_neg (by simp), if_neg (by show ¬ 128 < T.ids.length; omega), if_neg (by show ¬ T.quota < (usedT T : Int); omega)]
  | o :: l, T, h1, h2, he => by
    unfold onesT at he ⊢
    split at he
    · rename_i h0
      rw [if_pos h0]
      obtain ⟨a1, a2, a3, a4⟩ := doT_zero h0
      rw [runT_one] at a1 a2 a3 a4
      have hq : (doT T [o]).1.quota = T.quota := doT_quota _
      have ih := ones_zero l (doT T [o]).1 (by rw [a4]; exact a2) (by rw [hq, a4]; exact a3) he
      have hr : runT T (o :: l) = runT (doT T [o]).1 l := by
        conv => lhs; unfold runT
        rw [if_pos a1, a4]
      rw [← ih]
      unfold doT
      rw [hr]
      have e1 : (if (runT T [o]).2 ≠ 0 then (T, (runT T [o]).2) else if 128 < (runT T [o]).1.ids.length then (T, (7 : Int)) else if T.quota < usedT (runT T [o]).1 then (T, 13) else ((runT T [o]).1, 0)) = doT T [o] := rfl
      rw [e1, hq]
      have ih0 : (doT (doT T [o]).1 l).2 = 0 := by rw [ih]
      obtain ⟨b1, b2, b3, _⟩ := doT_zero ih0
      rw [hq] at b3
      rw [if_neg (by simpa using b1), if_neg (by omega), if_neg (by omega), if_neg (by simpa using b1), if_neg (by omega), if_neg (by omega)]
    · rename_i hn
      exact absurd he hn
/-- What goes well at once goes well one by one, but that there may be too many on the way. -/
theorem ones_full : ∀ (l : List OpD) (T : TreeD) (K : Nat), GoodT T → FitT T K → 448000 ≤ T.quota → (runT T l).2 = 0 → (onesT T l).2 = 0 ∨ (onesT T l).2 = 7
  | [], T, K, _, _, _, _ => Or.inl rfl
  | o :: l, T, K, hg, hf, hq, hr => by
    unfold onesT
    split
    · rename_i h0
      obtain ⟨a1, a2, a3, a4⟩ := doT_zero h0
      rw [runT_one] at a1 a4
      refine ones_full l _ (K + 1) (doT_good hg _) (doT_fit hf _) (by rw [doT_quota]; exact hq) ?_
      rw [a4]
      unfold runT at hr
      rw [if_pos a1] at hr
      exact hr
    · rename_i hn
      right
      have hs : (stepT T o).2 = 0 := by
        unfold runT at hr
        split at hr
        · assumption
        · exact hr
      unfold doT at hn ⊢
      rw [runT_one] at hn ⊢
      rw [if_neg (by simpa using hs)] at hn ⊢
      split
      · rfl
      · rename_i h2
        rw [if_neg h2] at hn
        have hu := used_le (stepT_fit hf o)
        have : usedT (stepT T o).1 ≤ 128 * 3500 := Nat.le_trans hu (Nat.mul_le_mul_right _ (by omega))
        rw [if_neg (by omega)] at hn
        exact absurd rfl hn
theorem doT_two {l : List OpD} (h : (runT T l).2 ≠ 0) : (doT T l).2 = (runT T l).2 := by
  unfold doT; rw [if_pos h]
/-- The law of TreeWhole. -/
theorem whole_law {K : Nat} (hg : GoodT T) (hf : FitT T K) (h1 : T.ids.length ≤ 128) (hq : 448000 ≤ T.quota) (l : List OpD) :
    ((onesT T l).2 = 0 ∨ (doT T l).2 = 0 → ((onesT T l).2 ≠ (doT T l).2 → (onesT T l).2 = 7) ∧ ((onesT T l).2 = (doT T l).2 → (doT T l).1 = (onesT T l).1)) ∧ ((doT T l).2 ≠ 0 → (doT T l).1 = T) := by
  have hu : (usedT T : Int) ≤ T.quota := by
    have := used_le hf
    have : usedT T ≤ 128 * 3500 := Nat.le_trans this (Nat.mul_le_mul_right _ h1)
    omega
  refine ⟨fun h => ?_, doT_same⟩
  by_cases he : (onesT T l).2 = 0
  · have := ones_zero l T h1 hu he
    rw [this]
    exact ⟨fun hn => absurd he hn, fun _ => rfl⟩
  · have hz := h.resolve_left he
    obtain ⟨a1, _⟩ := doT_zero hz
    refine ⟨fun _ => (ones_full l T K hg hf hq a1).resolve_left he, fun e => ?_⟩
    exact absurd (e.trans hz) he
end
end Go.Proofs.YtlpjmkkinlcbnaaGreatDoor
namespace Go.Proofs.YtlpjmkkinlcbnaaGreatDoor
open Go.RowKit
/-- Where an operation's bytes lie. -/
structure OpA where
  oa : Option Addr
  oc : Nat
def OpAt (w : World) (g off : Nat) (x : OpD × OpA) : Prop :=
  (w.cell? ⟨g, off, none⟩ = some (.int .i64 x.1.kind) ∧ w.cell? ⟨g, off + 1, none⟩ = some (.string (bs x.1.path)) ∧ w.cell? ⟨g, off + 2, none⟩ = some (.string (bs x.1.dest)) ∧ w.cell? ⟨g, off + 3, none⟩ = some (.slice x.2.oa x.1.data.length x.2.oc)) ∧ Bytes w x.2.oa x.1.data
theorem OpAt.ext {w w' : World} {g off : Nat} {x : OpD × OpA} (h : OpAt w g off x) (k : Ext w w') : OpAt w' g off x :=
  ⟨⟨k.cell h.1.1, k.cell h.1.2.1, k.cell h.1.2.2.1, k.cell h.1.2.2.2⟩, h.2.ext k⟩
def oz : OpD × OpA := (⟨0, [], [], []⟩, ⟨none, 0⟩)
/-- Operations one behind the other. -/
def OpsL (w : World) (a : Option Addr) (L : List (OpD × OpA)) : Prop :=
  L = [] ∨ ∃ g off, a = some ⟨g, off, none⟩ ∧ g < w.heap.size ∧ ∀ i, i < L.length → OpAt w g (off + i * 4) (L.getD i oz)
theorem OpsL.ext {w w' : World} {a : Option Addr} {L : List (OpD × OpA)} (h : OpsL w a L) (k : Ext w w') : OpsL w' a L := by
  rcases h with h | ⟨g, off, ha, hg, hc⟩
  · exact Or.inl h
  · exact Or.inr ⟨g, off, ha, Nat.lt_of_lt_of_le hg k.size, fun i hi => (hc i hi).ext k⟩
theorem OpsL.at {w : World} {a : Option Addr} {L : List (OpD × OpA)} (h : OpsL w a L) {i : Nat} (hi : i < L.length) :
    ∃ g off, a = some ⟨g, off, none⟩ ∧ g < w.heap.size ∧ OpAt w g (off + i * 4) (L.getD i oz) := by
  rcases h with h | ⟨g, off, ha, hg, hc⟩
  · rw [h] at hi; simp at hi
  · exact ⟨g, off, ha, hg, hc i hi⟩
theorem runT_append : ∀ (l k : List OpD) (T : TreeD), (runT T l).2 = 0 → runT T (l ++ k) = runT (runT T l).1 k
  | [], _, _, _ => rfl
  | o :: l, k, T, h => by
    unfold runT at h
    split at h
    · rename_i h0
      have e1 : runT T (o :: l) = runT (stepT T o).1 l := by conv => lhs; unfold runT; rw [if_pos h0]
      have e2 : runT T (o :: l ++ k) = runT (stepT T o).1 (l ++ k) := by conv => lhs; rw [List.cons_append]; unfold runT; rw [if_pos h0]
      rw [e1, e2]
      exact runT_append l k _ h
    · rename_i h0
      exact absurd h h0
theorem runT_cons (T : TreeD) (o : OpD) (l : List OpD) : runT T (o :: l) = if (stepT T o).2 = 0 then runT (stepT T o).1 l else stepT T o := rfl
section
variable {base tb mb ub um N S : Nat} {T U : TreeD} {A : Int → NodeA}
theorem set3t {w : World} {B : Nat} {t : TypeId} {x0 x1 x2 : Value} (hg : w.heap[B]? = some (.cells #[x0, x1, x2] t (0, 0))) (v0 v1 v2 : Value) :
    (((w.setCell ⟨B, 0, none⟩ v0).setCell ⟨B, 1, none⟩ v1).setCell ⟨B, 2, none⟩ v2).heap[B]? = some (.cells #[v0, v1, v2] t (0, 0)) := by
  have h := setCell_row (setCell_row (setCell_row (i := 0) hg v0) (i := 1) v1) (i := 2) v2
  simpa using h
/-- A tree is another one now. -/
theorem TreeM.moved {w : World} (h : TreeM w S ub um N T A) {x0 x1 x2 : Value} (hb : w.heap[tb]? = some (.cells #[x0, x1, x2] 72 (0, 0))) (hS : base ≤ S) (ht : base ≤ tb) :
    TreeM (((w.setCell ⟨tb, 0, none⟩ (.map (some um))).setCell ⟨tb, 1, none⟩ (.int .i64 T.next)).setCell ⟨tb, 2, none⟩ (.int .i64 T.quota)) base tb um N T A := by
  have k : Keep (· ≠ tb) w (((w.setCell ⟨tb, 0, none⟩ (.map (some um))).setCell ⟨tb, 1, none⟩ (.int .i64 T.next)).setCell ⟨tb, 2, none⟩ (.int .i64 T.quota)) :=
    (((Keep.refl _ _).setCell (fun _ h => h) 0 _).setCell (fun _ h => h) 1 _).setCell (fun _ h => h) 2 _
  have hD := datas_cells hb (by decide)
  have hne : ∀ j ∈ T.ids, (A j).blk ≠ tb := fun j hj e => by
    have h1 := (h.node j hj).1
    rw [e, hb] at h1
    injection (Option.some.inj h1) with _ h2
    exact absurd h2 (by decide)
  exact ⟨set3t hb _ _ _, h.map.keep k (h.map_ne hb), fun j hj => (h.node j hj).keep k hD (hne j hj) (fun b hb' => h.kid_ne hj hb' hb), h.blk, h.kid, h.mkb, h.kbd, ht, Nat.le_trans hS h.low.2.1, fun j hj => ⟨Nat.le_trans hS (h.low.2.2 j hj).1, fun b hb' => Nat.le_trans hS ((h.low.2.2 j hj).2 b hb')⟩⟩
/-- The blocks are those that were, or all fresh. -/
def FreshT (mb : Nat) (A : Int → NodeA) (T : TreeD) (S : Nat) (T' : TreeD) (mb' : Nat) (A' : Int → NodeA) : Prop := (mb' = mb ∧ A' = A ∧ T' = T) ∨ (S ≤ mb' ∧ ∀ i ∈ T'.ids, ∀ b, (A' i).kb = some b → S ≤ b)
def DoF (base tb mb N : Nat) (A : Int → NodeA) (T : TreeD) (l : List OpD) (w : World) (e : Ending) (w' : World) : Prop :=
  e = .returned (.int .i64 (doT T l).2) ∧ (∃ mb' A', TreeM w' base tb mb' N (doT T l).1 A' ∧ FreshT mb A T w.heap.size (doT T l).1 mb' A') ∧ Keep (· ≠ tb) w w'
def DoR (base tb N : Nat) (T : TreeD) (l : List OpD) (w : World) (e : Ending) (w' : World) : Prop :=
  e = .returned (.int .i64 (doT T l).2) ∧ (∃ mb' A', TreeM w' base tb mb' N (doT T l).1 A') ∧ Keep (· ≠ tb) w w'
set_option maxRecDepth 100000 in
set_option maxHeartbeats 12800000 in
theorem tree_DoF {K : Nat} (a : Option Addr) (c : Nat) (L : List (OpD × OpA)) (w : World) (hE : Env w) (hT : TreeM w base tb mb N T A) (hg : GoodT T) (hf : FitT T K) (hKN : K ≤ N) (hN : N + 2 * L.length ≤ 1000000000) (hL : OpsL w a L) :
    Calls Tryz.prog 23 #[.pointer (some ⟨tb, 0, none⟩), .slice a L.length c] w (DoF base tb mb (N + 2 * L.length) A T (L.map Prod.fst) w) := by
  obtain ⟨R, hR⟩ : ∃ R, R = DoF base tb mb (N + 2 * L.length) A T (L.map Prod.fst) w := ⟨_, rfl⟩
  rw [← hR]
  have HR := Lib.hid hR; clear hR
  have HE := Lib.hid hE; clear hE
  have HT := Lib.hid hT; clear hT
  have HG := Lib.hid hg; clear hg
  have HF := Lib.hid hf; clear hf
  have HL := Lib.hid hL; clear hL
  obtain ⟨n, hn⟩ : ∃ n, n = L.length := ⟨_, rfl⟩
  rw [← hn] at hN HR ⊢
  have HNN := Lib.hid hn; clear hn
  have hcl := tree_Clone w HT.out HG.out HF.out hKN (by omega)
  have HCL := Lib.hid hcl; clear hcl
  obtain ⟨S, hS⟩ : ∃ S, S = w.heap.size := ⟨_, rfl⟩
  rw [← hS] at HCL
  have htl := (Array.getElem?_eq_some_iff.1 HT.out.top).1
  rw [← hS] at htl
  have HS := Lib.hid hS; clear hS
  have hlo := HT.out.low.1
  go_enter Tryz.func23, Tryz.ntmps23
  go_wp2_with (go_at_call 22; refine HCL.out.mono ?_; rintro E w1 ⟨ub, um, A1, rfl, hT1, hx1⟩; have HT1 := Lib.hid hT1; have HX1 := Lib.hid hx1; clear hT1 hx1)
  go_loopw [13] (fun i wr => ∃ (k : Nat) (A' : Int → NodeA), i = .int .i64 k ∧ k ≤ n ∧ Hid ((runT T ((L.map Prod.fst).take k)).2 = 0) ∧ Hid (TreeM wr S ub um (N + 2 * k) (runT T ((L.map Prod.fst).take k)).1 A') ∧ Hid (Ext w wr)) (fun i _ => n - (intOf i).toNat)
  case atStart => exact ⟨0, A1, rfl, Nat.zero_le _, Lib.hid rfl, HT1, HX1⟩
  case round =>
    clear HT1 HX1
    obtain ⟨k, A', rfl, hk, HZ, HTK, HX⟩ := hrel
    by_cases hlt : k < n
    · have hkL : k < L.length := by have := HNN.out; omega
      obtain ⟨g, off, rfl, _, ⟨c0, c1, c2, c3⟩, hby⟩ := (HL.out.ext HX.out).at hkL
      have hdr : (L.map Prod.fst).drop k = (L.getD k oz).1 :: (L.map Prod.fst).drop (k + 1) := by
        have e : (L.getD k oz).1 = (L.map Prod.fst)[k]'(by rw [List.length_map]; exact hkL) := by
          rw [List.getElem_map, List.getD_eq_getElem?_getD, List.getElem?_eq_getElem hkL]; rfl
        rw [e]
        exact List.drop_eq_getElem_cons (by rw [List.length_map]; exact hkL)
      have htk : (L.map Prod.fst).take (k + 1) = (L.map Prod.fst).take k ++ [(L.getD k oz).1] := by
        rw [List.take_succ_eq_append_getElem (by rw [List.length_map]; exact hkL), List.getElem_map, List.getD_eq_getElem?_getD, List.getElem?_eq_getElem hkL]
        rfl
      have hall : runT T (L.map Prod.fst) = runT (runT T ((L.map Prod.fst).take k)).1 ((L.getD k oz).1 :: (L.map Prod.fst).drop (k + 1)) := by
        rw [← hdr, ← runT_append _ _ _ HZ.out, List.take_append_drop]
      have hnext : runT T ((L.map Prod.fst).take (k + 1)) = stepT (runT T ((L.map Prod.fst).take k)).1 (L.getD k oz).1 := by
        rw [htk, runT_append _ _ _ HZ.out, runT_one]
      have hgk := runT_good ((L.map Prod.fst).take k) HG.out
      have hfk := runT_fit ((L.map Prod.fst).take k) HF.out
      rw [List.length_take, List.length_map] at hfk
      generalize (L.getD k oz) = xo at c0 c1 c2 c3 hby hall hnext
      obtain ⟨o, ⟨oa, oc⟩⟩ := xo
      simp only at c0 c1 c2 c3 hby hall hnext
      clear hdr htk
      have HALL := Lib.hid hall; clear hall
      have HNEXT := Lib.hid hnext; clear hnext
      have HGK := Lib.hid hgk; clear hgk
      have HFK := Lib.hid hfk; clear hfk
      have HTKD := HTK
      obtain ⟨Tk, hTk⟩ : ∃ Tk, Tk = (runT T ((L.map Prod.fst).take k)).1 := ⟨_, rfl⟩
      rw [← hTk] at HALL HNEXT HGK HFK HTKD
      go_upto_region 5 with (fail)
      clear c0 c1 c2 c3
      have hx_w5 : Ext wr (wr.alloc (.cells #[.int .i64 o.kind, .string (bs o.path), .string (bs o.dest), .slice oa o.data.length oc] 32)) := (Ext.alloc _ _)
      have hf_B := heap_alloc_new wr (.cells #[.int .i64 o.kind, .string (bs o.path), .string (bs o.dest), .slice oa o.data.length oc] 32)
      generalize wr.alloc (.cells #[.int .i64 o.kind, .string (bs o.path), .string (bs o.dest), .slice oa o.data.length oc] 32) = w5 at hx_w5 hf_B ⊢
      obtain ⟨B, h_B⟩ : ∃ x, x = wr.heap.size := ⟨_, rfl⟩
      rw [← h_B] at hf_B
      try rw [← h_B]
      have hs_B : wr.heap.size ≤ B := by omega
      clear h_B
      have HB := Lib.hid hf_B; clear hf_B
      have k0 := blk_cell HB.out 0 (Value.int .i64 o.kind) rfl
      have k1 := blk_cell HB.out 1 (Value.string (bs o.path)) rfl
      have k2 := blk_cell HB.out 2 (Value.string (bs o.dest)) rfl
      have k3 := blk_cell HB.out 3 (Value.slice oa o.data.length oc) rfl
      have hsw := HX.out.size
      have hsw5 := hx_w5.size
      have hSS := HS.out
      have hst := tree_step (L := K + min k L.length) o.kind o.path o.dest o.data oa oc w5 (HE.out.ext (HX.out.trans hx_w5)) (HTKD.out.ext hx_w5) HGK.out HFK.out (by have := HNN.out; omega) (by omega) (by omega) (hby.ext hx_w5)
      have HST := Lib.hid hst; clear hst hby
      have HX5 := Lib.hid (HX.out.trans hx_w5); clear hx_w5 hs_B hsw hsw5 hSS
      obtain ⟨r, hr⟩ : ∃ r, r = stepT Tk ⟨o.kind, o.path, o.dest, o.data⟩ := ⟨_, rfl⟩
      rw [← hr] at HST
      have hro : r = stepT Tk o := hr
      have HRO := Lib.hid hro; clear hro hr
      by_cases hr0 : r.2 = 0
      · have HR0 := Lib.hid hr0
        obtain ⟨v, hv⟩ : ∃ v, v = r.2 := ⟨_, rfl⟩
        unfold StepR at HST
        rw [← hv] at HST hr0
        have HV := Lib.hid hv; clear hv
        go_wp2_with (go_at_call 51; refine HST.out.mono ?_; rintro E w6 ⟨A6, rfl, hT6, hk6⟩; have HT6 := Lib.hid hT6; have HK6 := Lib.hid hk6; clear hT6 hk6)
        go_roundw
        case rel =>
          refine ⟨k + 1, A6, by go_num, by omega, Lib.hid ?_, Lib.hid ?_, Lib.hid ?_⟩
          · rw [HNEXT.out, ← HRO.out]; exact HR0.out
          · rw [HNEXT.out, ← HRO.out]; exact HT6.out
          · have hs := HS.out
            exact ((Keep.of_ext (S := fun j => j < w.heap.size) HX5.out).trans (HK6.out.mono (fun j _ (hj : j < w.heap.size) => by show j < S; omega))).ext_lt
        case measure => simp [intOf]; omega
      · have hrun : runT T (L.map Prod.fst) = r := by rw [HALL.out, runT_cons, ← HRO.out, if_neg hr0]
        have hdo : doT T (L.map Prod.fst) = (T, r.2) := by unfold doT; rw [hrun, if_pos hr0]
        have HDO := Lib.hid hdo; clear hdo hrun
        obtain ⟨v, hv⟩ : ∃ v, v = r.2 := ⟨_, rfl⟩
        unfold StepR at HST
        rw [← hv] at HST hr0 HDO
        have HV := Lib.hid hv; clear hv
        go_wp2_with (go_at_call 51; refine HST.out.mono ?_; rintro E w6 ⟨A6, rfl, _, hk6⟩; have HK6 := Lib.hid hk6; clear hk6)
        rw [HR.out]
        have hs := HS.out
        have hx6 : Ext w w6 := ((Keep.of_ext (S := fun j => j < w.heap.size) HX5.out).trans (HK6.out.mono (fun j _ (hj : j < w.heap.size) => by show j < S; omega))).ext_lt
        unfold DoF
        rw [HDO.out]
        exact ⟨rfl, ⟨mb, A, (HT.out.ext hx6).mono (by omega), Or.inl ⟨rfl, rfl, rfl⟩⟩, Keep.of_ext hx6⟩
    · obtain rfl : k = n := by omega
      have hz := HZ.out
      have htk := HTK.out
      have hgk := runT_good (L.map Prod.fst) HG.out
      have hfk := runT_fit (L.map Prod.fst) HF.out
      rw [List.length_map, ← HNN.out] at hfk
      rw [List.take_of_length_le (by rw [List.length_map]; have := HNN.out; omega)] at hz htk
      obtain ⟨U, hU⟩ : ∃ U, U = (runT T (L.map Prod.fst)).1 := ⟨_, rfl⟩
      rw [← hU] at htk hgk hfk
      have HU := Lib.hid hU; clear hU
      have HZ2 := Lib.hid hz; clear hz
      have HTU := Lib.hid htk; clear htk HZ HTK
      have HGU := Lib.hid hgk; clear hgk
      have HFU := Lib.hid hfk; clear hfk
      have c0 := blk_cell HTU.out.top 0 (Value.map (some um)) rfl
      have hlen := TreeM.len wr HTU.out HGU.out.nodup
      by_cases hfull : 128 < U.ids.length
      · have hdo : doT T (L.map Prod.fst) = (T, 7) := by unfold doT; rw [← HU.out, if_neg (by rw [HZ2.out]; simp), if_pos hfull]
        have HDO := Lib.hid hdo; clear hdo
        go_wp2_with fail
        rw [HR.out]
        unfold DoF
        rw [HDO.out]
        exact ⟨rfl, ⟨mb, A, (HT.out.ext HX.out).mono (by omega), Or.inl ⟨rfl, rfl, rfl⟩⟩, Keep.of_ext HX.out⟩
      · have hus := fun W (k : Ext wr W) => tree_Used W (HTU.out.ext k) HGU.out HFU.out (by omega)
        have HUS := Lib.hid hus; clear hus
        have hcs : ∀ W, Ext wr W → W.cell? ⟨ub, 2, none⟩ = some (.int .i64 U.quota) := fun W k => blk_cell (HTU.out.ext k).top 2 _ rfl
        have HCS := Lib.hid hcs; clear hcs
        have hq : U.quota = T.quota := by rw [HU.out]; exact runT_quota _ _
        have HQ := Lib.hid hq; clear hq
        go_upto_region 11 with fail
        clear hlen c0
        have HK := Lib.hid ((Ext.refl wr).drew)
        refine wp_region_noPanic ?_
        refine wp_region_held_drew (S := (fun W => W.cell? ⟨ub, 2, none⟩ = some (.int .i64 U.quota))) (by kernel_rfl) (HCS.out _ HK.out) (fun hHeld => ?_)
        clear hHeld
        generalize wr.drew = wc at HK ⊢
        refine wpAnyH_take (i := 0) (v := ?_) rfl (by kernel_rfl) (by kernel_rfl) (by kernel_rfl) (fun _ _ _ h => h) (Or.inl ⟨by kernel_rfl, ?_⟩) (HCS.out _ HK.out) ?_
        rotate_left
        · (intro wq _; first | (go_simp; done) | (go_simp; with_reducible rfl))
        try simp only [List.getElem_toArray, List.getElem_cons_zero, Act.put, List.setIfInBounds_toArray, List.set_cons_zero, List.set_cons_succ]
        refine wpAnyH_take (i := 2) (v := ?_) rfl (by kernel_rfl) (by kernel_rfl) (by kernel_rfl) (fun _ _ _ h => h) (Or.inl ⟨by kernel_rfl, ?_⟩) (HCS.out _ HK.out) ?_
        rotate_left
        · (intro wq _; first | (go_simp; done) | (go_simp; with_reducible rfl))
        try simp only [List.getElem_toArray, List.getElem_cons_zero, List.getElem_cons_succ, Act.put, List.setIfInBounds_toArray, List.set_cons_zero, List.set_cons_succ]
        refine wpAnyH_take (i := 3) (v := ?_) rfl (by kernel_rfl) (by kernel_rfl) (by kernel_rfl) (fun _ _ _ h => h) (Or.inl ⟨by kernel_rfl, ?_⟩) (HCS.out _ HK.out) ?_
        rotate_left
        · (intro wq _; first | (go_simp; done) | (go_simp; with_reducible rfl))
        try simp only [List.getElem_toArray, List.getElem_cons_zero, List.getElem_cons_succ, Act.put, List.setIfInBounds_toArray, List.set_cons_zero, List.set_cons_succ]
        refine wpAnyH_take (i := 4) (v := ?_) rfl (by kernel_rfl) (by kernel_rfl) (by kernel_rfl) (fun _ _ _ h => h) (Or.inl ⟨by kernel_rfl, ?_⟩) (HCS.out _ HK.out) ?_
        rotate_left
        · (intro wq _; first | (go_simp; done) | (go_simp; with_reducible rfl))
        try simp only [List.getElem_toArray, List.getElem_cons_zero, List.getElem_cons_succ, Act.put, List.setIfInBounds_toArray, List.set_cons_zero, List.set_cons_succ]
        refine wpAnyH_take (i := 5) (v := ?_) rfl (by kernel_rfl) (by kernel_rfl) (by kernel_rfl) (fun _ _ _ h => h) (Or.inl ⟨by kernel_rfl, ?_⟩) (HCS.out _ HK.out) ?_
        rotate_left
        · (intro wq hSw; (try dsimp only at hSw); first | (go_simp; done) | (go_simp; with_reducible rfl))
        try simp only [List.getElem_toArray, List.getElem_cons_zero, List.getElem_cons_succ, Act.put, List.setIfInBounds_toArray, List.set_cons_zero, List.set_cons_succ]
        all_goals (
          first
            | refine wpAnyH_ready (rs := [1]) (by decide +kernel) (by simp) ?_
          repeat' (first | exact AllReadyH.nil | (refine AllReadyH.cons rfl (fun K hK => ?_) ?_)))
        all_goals (
          first
            | (go_simp
               first
                 | (go_at_call 10
                    refine (HUS.out _ HK.out).mono ?_
                    rintro E wn ⟨rfl, hx⟩
                    replace HK := Lib.hid (HK.out.trans hx)
                    clear hx
                    go_wp2_with fail
                    refine hK.out _ _ (HCS.out _ HK.out) (fun _ => ?_)
                    clear hK K
                    obtain ⟨wc, rfl⟩ : ∃ z : World, z = wn := ⟨_, rfl⟩
                    try simp only [List.getElem_toArray, List.getElem_cons_zero, List.getElem_cons_succ, Act.put, List.setIfInBounds_toArray, List.set_cons_zero, List.set_cons_succ]
                    refine wpAnyH_take (i := 6) (v := ?_) rfl (by kernel_rfl) (by kernel_rfl) (by kernel_rfl) (fun _ _ _ h => h) (Or.inl ⟨by kernel_rfl, ?_⟩) (HCS.out _ HK.out) ?_
                    rotate_left
                    · (intro wq _; first | (go_simp; done) | (go_simp; with_reducible rfl))
                    try simp only [List.getElem_toArray, List.getElem_cons_zero, List.getElem_cons_succ, Act.put, List.setIfInBounds_toArray, List.set_cons_zero, List.set_cons_succ])))
        all_goals (
          refine wpAnyH_done (by kernel_rfl) ?_ _
          refine NoPanic.normal ?_
          skip)
        have HXC := Lib.hid (HX.out.trans HK.out)
        by_cases hover : U.quota < (usedT U : Int)
        · have hdo : doT T (L.map Prod.fst) = (T, 13) := by
            unfold doT
            rw [← HU.out, if_neg (by rw [HZ2.out]; simp), if_neg hfull, if_pos (by rw [← HQ.out]; exact hover)]
          have HDO := Lib.hid hdo; clear hdo
          go_wp2_with fail
          rw [HR.out]
          unfold DoF
          rw [HDO.out]
          exact ⟨rfl, ⟨mb, A, (HT.out.ext HXC.out).mono (by omega), Or.inl ⟨rfl, rfl, rfl⟩⟩, Keep.of_ext HXC.out⟩
        · have hdo : doT T (L.map Prod.fst) = (U, 0) := by
            unfold doT
            rw [← HU.out, if_neg (by rw [HZ2.out]; simp), if_neg hfull, if_neg (by rw [← HQ.out]; exact hover)]
          have HDO := Lib.hid hdo; clear hdo
          have hTc := HTU.out.ext HK.out
          have htb := HXC.out.heap HT.out.top
          have u0 := blk_cell hTc.top 0 (Value.map (some um)) rfl
          have u1 := blk_cell hTc.top 1 (Value.int .i64 U.next) rfl
          have u2 := blk_cell hTc.top 2 (Value.int .i64 U.quota) rfl
          have t0 := blk_cell htb 0 (Value.map (some mb)) rfl
          have t1 := blk_cell htb 1 (Value.int .i64 T.next) rfl
          have t2 := blk_cell htb 2 (Value.int .i64 T.quota) rfl
          have g0 := blk_free htb 0
          have g1 := blk_free htb 1
          have g2 := blk_free htb 2
          have hmv := hTc.moved (base := base) htb (by omega) hlo
          have HMV := Lib.hid hmv
          have hfr : FreshT mb A T w.heap.size U um A' := Or.inr ⟨by have := hTc.low.2.1; have := HS.out; omega, fun i hi b hb => by have := (hTc.low.2.2 i hi).2 b hb; have := HS.out; omega⟩
          have HFR := Lib.hid hfr
          clear hmv hTc htb hfr
          go_wp2_with fail
          rw [HR.out]
          unfold DoF
          rw [HDO.out]
          exact ⟨rfl, ⟨um, _, HMV.out, HFR.out⟩, (((Keep.of_ext HXC.out).setCell (fun _ h => h) 0 _).setCell (fun _ h => h) 1 _).setCell (fun _ h => h) 2 _⟩
theorem tree_Do {K : Nat} (a : Option Addr) (c : Nat) (L : List (OpD × OpA)) (w : World) (hE : Env w) (hT : TreeM w base tb mb N T A) (hg : GoodT T) (hf : FitT T K) (hKN : K ≤ N) (hN : N + 2 * L.length ≤ 1000000000) (hL : OpsL w a L) :
    Calls Tryz.prog 23 #[.pointer (some ⟨tb, 0, none⟩), .slice a L.length c] w (DoR base tb (N + 2 * L.length) T (L.map Prod.fst) w) :=
  (tree_DoF a c L w hE hT hg hf hKN hN hL).mono fun _ _ ⟨he, ⟨mb', A', hm, _⟩, hk⟩ => ⟨he, ⟨mb', A', hm⟩, hk⟩
end
end Go.Proofs.YtlpjmkkinlcbnaaGreatDoor
namespace Go.Proofs.YtlpjmkkinlcbnaaGreatDoor
open Go.RowKit
section
variable {base tb mb N L : Nat} {T : TreeD} {A : Int → NodeA}
/-- What Read answers: what is wrong, or bytes. -/
def ReadI (T : TreeD) (i : Int) (w : World) (e : Ending) (w' : World) : Prop :=
  (if i = 0 then e = .returned (.tuple #[.slice none 0 0, .int .i64 8])
   else if (T.node i).dir = true then e = .returned (.tuple #[.slice none 0 0, .int .i64 10])
   else ∃ a c, e = .returned (.tuple #[.slice a (T.node i).data.length c, .int .i64 0]) ∧ (T.node i).data.length ≤ c ∧ DataM w' a (T.node i).data) ∧ Ext w w'
set_option maxRecDepth 100000 in
set_option maxHeartbeats 3200000 in
theorem tree_Read (p : By) (w : World) (hE : Env w) (hT : TreeM w base tb mb N T A) (hg : GoodT T) (hf : FitT T L) (hL : L ≤ 1000000000) :
    Calls Tryz.prog 14 #[.pointer (some ⟨tb, 0, none⟩), .string (bs p)] w (ReadI T (findT T p) w) := by
  obtain ⟨R, hR⟩ : ∃ R, R = ReadI T (findT T p) w := ⟨_, rfl⟩
  rw [← hR]
  have hnx := hf.next
  have hfind := tree_find p w hE hT hg (by omega)
  have hmem := hg.find_mem (p := p)
  generalize findT T p = i at hR hfind hmem
  have HR := Lib.hid hR; clear hR
  have HFIND := Lib.hid hfind; clear hfind hE
  by_cases hz : i = 0
  · subst hz
    clear hmem hT hg hf
    go_enter Tryz.func14, Tryz.ntmps14
    go_wp2_with (go_at_call 31; refine HFIND.out.mono ?_; rintro e w1 ⟨rfl, hx⟩; have HX := Lib.hid hx; clear hx)
    rw [HR.out]
    unfold ReadI
    rw [if_pos rfl]
    exact ⟨rfl, HX.out⟩
  · have hm := hmem hz
    have hlow := hg.low i hm
    have hdl := hf.data i hm
    have HM := Lib.hid hm
    have HT := Lib.hid hT
    clear hmem hm hT hg hf
    cases hd : (T.node i).dir with
    | true =>
      have HD := Lib.hid hd; clear hd
      go_enter Tryz.func14, Tryz.ntmps14
      go_wp2_with (go_at_call 31; refine HFIND.out.mono ?_; rintro e w1 ⟨rfl, hx⟩; have c1 := blk_cell (HT.out.ext hx).top 0 (Value.map (some mb)) rfl; have hlk := (HT.out.ext hx).look HM.out (by omega) (by omega); have c2 := blk_cell ((HT.out.ext hx).node i HM.out).1 0 (Value.bool (T.node i).dir) rfl; rw [HD.out] at c2; have HX := Lib.hid hx; clear hx)
      rw [HR.out]
      unfold ReadI
      rw [if_neg hz, if_pos HD.out]
      exact ⟨rfl, HX.out⟩
    | false =>
      have HD := Lib.hid hd; clear hd
      go_enter Tryz.func14, Tryz.ntmps14
      go_wp2_with (first
        | (go_at_call 31; refine HFIND.out.mono ?_; rintro e w1 ⟨rfl, hx⟩; have c1 := blk_cell (HT.out.ext hx).top 0 (Value.map (some mb)) rfl; have hlk := (HT.out.ext hx).look HM.out (by omega) (by omega); have c2 := blk_cell ((HT.out.ext hx).node i HM.out).1 0 (Value.bool (T.node i).dir) rfl; rw [HD.out] at c2; have c4 := blk_cell ((HT.out.ext hx).node i HM.out).1 2 (Value.slice (A i).da (T.node i).data.length (A i).dc) rfl; have HB := Lib.hid ((HT.out.ext hx).node i HM.out).2.1.bytes; have HX := Lib.hid hx; clear hx)
        | (go_at_call 32; refine (clone_y (A i).da (A i).dc (T.node i).data _ HB.out (by omega)).mono ?_; rintro e w2 ⟨ca, cc, rfl, hcc, hdm, _, hx⟩; have HDM := Lib.hid hdm; have HX2 := Lib.hid hx; clear hdm hx))
      rw [HR.out]
      unfold ReadI
      rw [if_neg hz, if_neg (by rw [HD.out]; simp)]
      exact ⟨⟨ca, cc, rfl, hcc, HDM.out⟩, HX.out.trans HX2.out⟩
end
end Go.Proofs.YtlpjmkkinlcbnaaGreatDoor
namespace Go.Proofs.YtlpjmkkinlcbnaaGreatDoor
open Go.RowKit Go.Maps Go.Sort Go.Shelf
theorem sorts_namesT (m : Nat) : AnyZ.SortsIn Tryz.prog Tryz.sorted_string_ren Fence.wide m :=
  ⟨fun blk off cap ss W hH hblk hsz => callsIn_wide.2 (AnyM.slices_Sort_string Tryz.sort_string blk off cap ss W hH hblk hsz),
   fun p cap W => callsIn_wide.2 (AnyM.slices_Sort_string_none Tryz.sort_string p cap W)⟩
/-- A directory's names, in order. -/
def NamesK (k : By → Option Int) (ss : List By) : Prop := ss.Pairwise (fun x y => x ≤ y) ∧ ss.Nodup ∧ ∀ x, x ∈ ss ↔ (k x).isSome = true
section
variable {base tb mb N L : Nat} {T : TreeD} {A : Int → NodeA}
/-- What List answers. -/
def ListI (T : TreeD) (i : Int) (w : World) (e : Ending) (w' : World) : Prop :=
  (if i = 0 then e = .returned (.tuple #[.slice none 0 0, .int .i64 8])
   else if (T.node i).dir = true then ∃ a c ss, e = .returned (.tuple #[.slice a ss.length c, .int .i64 0]) ∧ ss.length ≤ c ∧ NamesK (T.node i).kids ss ∧ Strs w' a ss
   else e = .returned (.tuple #[.slice none 0 0, .int .i64 11])) ∧ Ext w w'



























































































end
end Go.Proofs.YtlpjmkkinlcbnaaGreatDoor
namespace Go.Proofs.YtlpjmkkinlcbnaaGreatDoor
open Go.RowKit Go.Sort Go.Shelf
def intV (X : List Int) : List Value := X.map (Value.int .i64)
theorem intV_one (X : List Int) : ∀ u ∈ intV X, u.oneCell' = true := by
  intro u hu
  obtain ⟨b, _, rfl⟩ := List.mem_map.1 hu
  rfl
/-- Numbers in a row of the call's own. -/
def OwnIs (w : World) (base : Nat) (a : Option Addr) (cap : Nat) (X : List Int) : Prop := w.ownsRow base 3 1 (.slice a X.length cap) X.length (intV X)
theorem OwnIs.none (w : World) (base : Nat) : OwnIs w base none 0 [] := World.ownsRow_nil _ _ _ _
theorem sort_ints (base : Nat) (a : Option Addr) (c : Nat) (X : List Int) (w : World) (hO : OwnIs w base a c X) (hb : base ≤ w.heap.size) (hl : X.length ≤ 1099511627776) :
    Calls Tryz.prog 30 #[.slice a X.length c] w fun e w' => e = .returned (.tuple #[]) ∧ OwnIs w' base a c (X.mergeSort fun x y => decide (x ≤ y)) ∧ Below base w w' := by
  have hl2 : (X.mergeSort fun x y => decide (x ≤ y)).length = X.length := (List.mergeSort_perm X _).length_eq
  rcases hO.2 with ⟨h1, h2⟩ | ⟨g, c', cur, h1, hbg, hg, hn, hm, hs, ht⟩
  · have h0 : X = [] := List.eq_nil_of_length_eq_zero h2
    subst h0
    refine (AnyM.slices_Sort_int_none Tryz.sort_int a c w).mono ?_
    rintro e w' ⟨he, hw⟩
    subst hw
    exact ⟨he, by simpa using hO, Below.refl _ _⟩
  · obtain ⟨rfl, rfl⟩ : a = some ⟨g, 0, none⟩ ∧ c = c' := by cases h1; exact ⟨rfl, rfl⟩
    have hgl : g < w.heap.size := (Array.getElem?_eq_some_iff.1 hg).1
    rw [Nat.mul_one] at ht
    refine (AnyM.slices_Sort_int Tryz.sort_int g 0 c X w (holds_of_blockI hg ht) hgl (by omega)).mono ?_
    rintro e w' ⟨he, n, os, hw⟩
    subst hw
    refine ⟨he, ?_, (Below.refl base w).grown (grownBy_sortedI _) hb (fun k hk => by cases hk; exact hbg)⟩
    unfold OwnIs
    rw [hl2]
    exact ownsRow_sortedI hl2 hbg hg hn hm hs
theorem info_intL : (Tryz.prog.info? 3).map (fun i => (i.zero, i.size, i.bytes)) = some (some (.int .i64 0), 1, 8) := by kernel_rfl
theorem one_plain {w : World} {g : Nat} {v : Value} {t : TypeId} (h : w.heap[g]? = some (.cells #[v] t (0, 0))) : ∀ j u, [v][j]? = some u → w.cell? ((⟨g, 0, none⟩ : Addr).add j) = some u := by
  intro j u hj
  have : j = 0 := by
    have := (List.getElem?_eq_some_iff.1 hj).1
    simpa using this
  subst this
  have e : (⟨g, 0, none⟩ : Addr).add 0 = ⟨g, 0, none⟩ := rfl
  rw [e]
  exact blk_cell h 0 u hj
section
variable {base tb mb N L : Nat} {T : TreeD} {A : Int → NodeA}
def isLoose (T : TreeD) (i : Int) : Bool := decide ((T.node i).links = 0)
set_option maxRecDepth 100000 in
set_option maxHeartbeats 6400000 in
theorem tree_Loose (w : World) (hT : TreeM w base tb mb N T A) (hg : GoodT T) (hf : FitT T L) (hL : L ≤ 1000000000) :
    Calls Tryz.prog 12 #[.pointer (some ⟨tb, 0, none⟩)] w fun e w' => ∃ a c, e = .returned (.slice a (looseT T).length c) ∧ OwnIs w' w.heap.size a c (looseT T) ∧ Ext w w' := by
  obtain ⟨R, hR⟩ : ∃ R : Ending → World → Prop, R = fun e w' => ∃ a c, e = .returned (.slice a (looseT T).length c) ∧ OwnIs w' w.heap.size a c (looseT T) ∧ Ext w w' := ⟨_, rfl⟩
  rw [← hR]
  have HR := Lib.hid hR; clear hR
  have c1 := blk_cell hT.top 0 (Value.map (some mb)) rfl
  have HT := Lib.hid hT; clear hT
  have HG := Lib.hid hg; clear hg
  have HF := Lib.hid hf; clear hf
  obtain ⟨i0, hi, hz, hsz, hby⟩ := info_parts info_intL
  have HI := Lib.hid hi; clear hi
  have HZ := Lib.hid hz; clear hz
  have HS := Lib.hid hsz; clear hsz
  have HBY := Lib.hid hby; clear hby
  go_enter Tryz.func12, Tryz.ntmps12
  go_wp2_with (first
    | (at_range; refine wpList_range_F rfl _ 70 rfl 73 int_keyedA Tryz.underlying70 mb N (nodeF T A) rfl HT.out.map ?_; intro w0 c0 hg0 hx0 hs0)
    | go_in)
  go_frame
  have hml := HT.out.map.lt
  obtain ⟨r, hr⟩ : ∃ r, r = w.heap.size := ⟨_, rfl⟩
  rw [← hr] at hg0 hml ⊢
  have hrw : w.heap.size ≤ r := by rw [hr]; exact Nat.le_refl _
  have HR0 := Lib.hid hr; clear hr
  have hs1 : w0.heap.size = r + 1 := by have := HR0.out; omega
  obtain ⟨S, hS⟩ : ∃ S, S = w0.heap.size := ⟨_, rfl⟩
  have hSr : S = r + 1 := by omega
  have HX0 := Lib.hid hx0
  have HG0 := Lib.hid hg0
  have HO0 := Lib.hid (OwnIs.none w0 S)
  have HSZ : Hid (S ≤ w0.heap.size) := Lib.hid (by rw [hS]; exact Nat.le_refl _)
  clear hx0 hg0 hs0 c1 hs1 hS
  go_loopw [3] (fun v wr => ∃ (left : Int → Bool) (cnt : Nat) (X : List Int) (a : Option Addr) (c : Nat), v = .slice a X.length c ∧ X.length ≤ L ∧ Hid (MapG keyI wr 3 mb r N (nodeF T A) left cnt) ∧ Hid (X.Perm ((seenT T.ids left).filter (isLoose T))) ∧ Hid (OwnIs wr S a c X) ∧ Hid (Ext w wr) ∧ Hid (S ≤ wr.heap.size)) (fun _ wr => wr.rangeLeft mb r)
  case atStart =>
    refine ⟨_, c0, [], none, 0, rfl, Nat.zero_le _, HG0, Lib.hid ?_, HO0, HX0, HSZ⟩
    rw [seen_none (fun x hx => (nodeF_ids T A x).1 hx)]
    exact List.Perm.refl _
  case round =>
    clear HG0 HX0 HO0 HSZ
    obtain ⟨left, cnt, X, a, c, rfl, hXL, hg, hp, hO, hX, hSw⟩ := hrel
    have HGC := Lib.hid hg.out.count
    go_wp2_with (first
      | (at_next; refine wpList_next_F rfl _ rfl int_keyedA (fun x => .int .i64 x) keyI_inj inv_int mb r N (nodeF T A) left cnt rfl hg.out ?_ ?_)
      | go_in)
    rotate_left
    · intro x v w1' cnt1 hkey hlp hfp hg1 hlt1 hk1 hs1 hen
      obtain ⟨hxm, rfl⟩ := nodeF_some hfp
      have hx1' : Ext w w1' := ((Keep.of_ext (S := fun j => j < w.heap.size) hX.out).andThen hk1 (fun j hj _ => by show j ≠ r; omega)).ext_lt
      have c2 := blk_cell ((HT.out.ext hx1').node x hxm).1 1 (Value.int .i64 (T.node x).links) rfl
      obtain ⟨im, is, iq, ic, hir⟩ := hg.out.iterL
      have hO1 : OwnIs w1' S a c X := ownsRow_keep hO.out hk1 (fun g cur _ _ h3 => by show g ≠ r; intro e; rw [e, hir] at h3; cases h3)
      have hnew := seen_filter HG.out.nodup hxm hlp (isLoose T) hp.out
      have hlen : ((seenT T.ids fun z => left z && !decide (z = x)).filter (isLoose T)).length ≤ L := Nat.le_trans (List.length_filter_le _ _) (Nat.le_trans seen_len HF.out.count)
      rw [← hnew.length_eq] at hlen
      have HNEW := Lib.hid hnew; clear hnew
      have HG1 := Lib.hid hg1
      have HX1' := Lib.hid hx1'
      have HLT1 := Lib.hid hlt1
      have HO1 := Lib.hid hO1
      have HSW : Hid (S ≤ w1'.heap.size) := Lib.hid (Nat.le_trans hSw.out hk1.size)
      clear hg1 hx1' hk1 hs1 hkey hlp hfp hlt1 hir hO1 hxm hp hO hg hX hSw
      by_cases h0 : (T.node x).links = 0
      · have hil : isLoose T x = true := by unfold isLoose; rw [decide_eq_true_eq]; exact h0
        have HIL := Lib.hid hil; clear hil
        rw [HIL.out] at hlen
        simp only [if_true, List.length_append, List.length_cons, List.length_nil] at hlen
        rw [h0] at c2
        go_wp2_with (at_builtin; refine Hid.out ?_)
        refine Lib.hid ?_
        have hx2 := Ext.alloc w1' (.cells #[.int .i64 x] 3)
        have hb2 := heap_alloc_new w1' (.cells #[.int .i64 x] 3)
        have hs2 := World.size_alloc w1' (.cells #[.int .i64 x] 3)
        have HX2 := Lib.hid hx2
        have hO2 := ownsRow_keep HO1.out (Keep.of_ext (S := fun _ => True) hx2) (fun _ _ _ _ _ => trivial)
        have hSW := HSW.out
        refine wpList_append_own _ rfl _ _ 42 rfl S 3 i0 (.int .i64 0) 1 8 Tryz.underlying42 HI.out HZ.out HS.out HBY.out rfl (by decide) (.slice a X.length c) X.length (intV X) rfl hO2 ⟨w1'.heap.size, 0, none⟩ 1 1 [.int .i64 x] rfl rfl (one_plain hb2) (intV_one [x]) (by unfold maxLen; omega) (by omega) (by omega) ?_
        intro v' w3 hown hgrow hnil
        obtain ⟨a', c', rfl, hcc, _, _⟩ := run_of_row hown
        have hO3 : OwnIs w3 S a' c' (X ++ [x]) := by
          unfold OwnIs intV
          rw [List.length_append, List.map_append]
          exact hown
        have hob : ∀ g, (Value.slice a X.length c).ownBlock = some g → S ≤ g := fun g e => (World.ownsRow.lt hO2 g e).1
        have hg3 : MapG keyI w3 3 mb r N (nodeF T A) (fun z => left z && !decide (z = x)) cnt1 := (HG1.out.ext HX2.out).keep (Keep.of_grown hgrow) (fun e => by have := hob mb e.symm; omega) (fun e => by have := hob r e.symm; omega)
        have hx3 : Ext w w3 := ((Keep.of_ext (S := fun j => j < w.heap.size) (HX1'.out.trans HX2.out)).andThen (Keep.of_grown hgrow) (fun j hj _ e => by have := hob j e.symm; omega)).ext_lt
        have hn := HNEW.out
        rw [HIL.out, if_pos rfl] at hn
        have HO3 := Lib.hid hO3
        have HG3 := Lib.hid hg3
        have HX3 := Lib.hid hx3
        have HN := Lib.hid hn
        have HSW3 : Hid (S ≤ w3.heap.size) := Lib.hid (by have := hgrow.size; omega)
        clear hown hgrow hnil hO3 hob hg3 hx3 hn hO2 hb2 hs2 hx2 hSW
        go_wp2_with fail
        go_roundw
        case rel => exact ⟨_, cnt1, X ++ [x], a', c', by simp, by simpa using hlen, HG3, HN, HO3, HX3, HSW3⟩
        case measure =>
          rw [HG3.out.count, HGC.out]
          exact HLT1.out
      · have hil : isLoose T x = false := by unfold isLoose; rw [decide_eq_false_iff_not]; exact h0
        have hn := HNEW.out
        rw [hil, if_neg (by simp)] at hn
        have HN := Lib.hid hn; clear hn hil
        go_wp2_with fail
        go_roundw
        case rel => exact ⟨_, cnt1, X, a, c, rfl, hXL, HG1, HN, HO1, HX1', HSW⟩
        case measure =>
          rw [HG1.out.count, HGC.out]
          exact HLT1.out
    · intro hall
      have hp := hp.out
      rw [seen_all hall] at hp
      have hlo : X.mergeSort (fun x y => decide (x ≤ y)) = looseT T := by
        unfold looseT
        have h1 : ∀ a b c : Int, decide (a ≤ b) = true → decide (b ≤ c) = true → decide (a ≤ c) = true := fun a b c h1 h2 => by simp only [decide_eq_true_eq] at *; omega
        have h2 : ∀ a b : Int, (decide (a ≤ b) || decide (b ≤ a)) = true := fun a b => by simp only [Bool.or_eq_true, decide_eq_true_eq]; omega
        have s1 := List.pairwise_mergeSort h1 h2 X
        have s2 := List.pairwise_mergeSort h1 h2 (T.ids.filter fun i => decide ((T.node i).links = 0))
        exact ((List.mergeSort_perm X _).trans (hp.trans (List.mergeSort_perm _ _).symm)).eq_of_pairwise (fun a b _ _ k1 k2 => by simp only [decide_eq_true_eq] at k1 k2; omega) s1 s2
      have hll : (looseT T).length = X.length := by rw [← hlo]; exact (List.mergeSort_perm X _).length_eq
      have hst := sort_ints S a c X wr hO.out hSw.out (by omega)
      rw [hlo] at hst
      have HST := Lib.hid hst; clear hst
      have HLL := Lib.hid hll; clear hll hlo hp hall
      go_wp2_with (go_at_call 30; refine HST.out.mono ?_; rintro E w6 ⟨rfl, hO6, hb6⟩; have HO6 := Lib.hid hO6; have HB6 := Lib.hid hb6; clear hO6 hb6)
      rw [HR.out]
      refine ⟨a, c, by rw [HLL.out]; rfl, ownsRow_base_a HO6.out (by omega), ?_⟩
      exact ((Keep.of_ext (S := fun j => j < w.heap.size) hX.out).trans ((Keep.of_below HB6.out).mono (fun j _ (hj : j < w.heap.size) => by show j < S; omega))).ext_lt
end
end Go.Proofs.YtlpjmkkinlcbnaaGreatDoor
namespace Go.Proofs.YtlpjmkkinlcbnaaGreatDoor
open Go.RowKit
/-- A tree lies at an address. -/
def TreeAt (w : World) (base tb N : Nat) (T : TreeD) : Prop := GoodT T ∧ FitT T N ∧ ∃ mb A, TreeM w base tb mb N T A
section
variable {w w' : World} {base tb N : Nat} {T : TreeD}
theorem TreeAt.ext (h : TreeAt w base tb N T) (k : Ext w w') : TreeAt w' base tb N T := by
  obtain ⟨h1, h2, mb, A, h3⟩ := h
  exact ⟨h1, h2, mb, A, h3.ext k⟩
theorem TreeAt.low (h : TreeAt w base tb N T) : base ≤ tb ∧ tb < w.heap.size := by
  obtain ⟨h1, h2, mb, A, h3⟩ := h
  exact ⟨h3.low.1, (Array.getElem?_eq_some_iff.1 h3.top).1⟩
/-- Another tree is turned. -/
theorem TreeAt.other {ub M base' : Nat} {U : TreeD} (h : TreeAt w base tb N T) (hu : TreeAt w base' ub M U) (hne : tb ≠ ub) (k : Keep (· ≠ ub) w w') : TreeAt w' base tb N T := by
  obtain ⟨h1, h2, mb, A, h3⟩ := h
  obtain ⟨_, _, um, B, hu3⟩ := hu
  refine ⟨h1, h2, mb, A, h3.keep k (datas_cells hu3.top (by decide)) hne (h3.map_ne hu3.top) fun i hi => ⟨fun e => ?_, fun b hb => h3.kid_ne hi hb hu3.top⟩⟩
  have h4 := (h3.node i hi).1
  rw [e, hu3.top] at h4
  injection (Option.some.inj h4) with _ h5
  exact absurd h5 (by decide)
theorem ext_do {wa wb : World} (h : Ext w wa) (hb : w.heap.size ≤ tb) (k : Keep (· ≠ tb) wa wb) : Ext w wb :=
  ((Keep.of_ext (S := fun j => j < w.heap.size) h).andThen k (fun j hj _ => by show j ≠ tb; omega)).ext_lt
theorem at_New (q : Int) (w : World) : Calls Tryz.prog 18 #[.int .i64 q] w fun e w' => ∃ tb, e = .returned (.pointer (some ⟨tb, 0, none⟩)) ∧ TreeAt w' w.heap.size tb 2 (newT q) ∧ Ext w w' :=
  (tree_New q w).mono fun e w' ⟨tb, mb, A, he, hm, hx⟩ => ⟨tb, he, ⟨newT_good q, newT_fit q, mb, A, hm.mono (by omega)⟩, hx⟩
theorem at_Do (a : Option Addr) (c : Nat) (L : List (OpD × OpA)) (hE : Env w) (h : TreeAt w base tb N T) (hL : OpsL w a L) (hN : N + 2 * L.length ≤ 1000000000) :
    Calls Tryz.prog 23 #[.pointer (some ⟨tb, 0, none⟩), .slice a L.length c] w fun e w' => e = .returned (.int .i64 (doT T (L.map Prod.fst)).2) ∧ TreeAt w' base tb (N + 2 * L.length) (doT T (L.map Prod.fst)).1 ∧ Keep (· ≠ tb) w w' := by
  obtain ⟨h1, h2, mb, A, h3⟩ := h
  refine (tree_Do a c L w hE h3 h1 h2 (Nat.le_refl _) hN hL).mono ?_
  rintro e w' ⟨he, ⟨mb', A', hm⟩, hk⟩
  exact ⟨he, ⟨doT_good h1 _, (doT_fit h2 _).mono (by rw [List.length_map]; omega), mb', A', hm⟩, hk⟩
theorem at_Clone (h : TreeAt w base tb N T) (hN : N ≤ 1000000000) :
    Calls Tryz.prog 22 #[.pointer (some ⟨tb, 0, none⟩)] w fun e w' => ∃ ub, e = .returned (.pointer (some ⟨ub, 0, none⟩)) ∧ TreeAt w' w.heap.size ub N T ∧ Ext w w' := by
  obtain ⟨h1, h2, mb, A, h3⟩ := h
  refine (tree_Clone w h3 h1 h2 (Nat.le_refl _) hN).mono ?_
  rintro e w' ⟨ub, um, A', he, hm, hx⟩
  exact ⟨ub, he, ⟨h1, h2, um, A', hm⟩, hx⟩
theorem at_Find (p : By) (hE : Env w) (h : TreeAt w base tb N T) (hN : N ≤ 1000000000) :
    Calls Tryz.prog 28 #[.pointer (some ⟨tb, 0, none⟩), .string (bs p)] w fun e w' => e = .returned (.tuple #[.int .i64 (findT T p), .bool (decide (findT T p ≠ 0))]) ∧ Ext w w' := by
  obtain ⟨h1, h2, mb, A, h3⟩ := h
  exact tree_Find p w hE h3 h1 (by have := h2.next; omega)
theorem at_Dir (p : By) (hE : Env w) (h : TreeAt w base tb N T) (hN : N ≤ 1000000000) :
    Calls Tryz.prog 29 #[.pointer (some ⟨tb, 0, none⟩), .string (bs p)] w fun e w' => e = .returned (.bool (decide (findT T p ≠ 0) && (T.node (findT T p)).dir)) ∧ Ext w w' := by
  obtain ⟨h1, h2, mb, A, h3⟩ := h
  exact tree_Dir p w hE h3 h1 (by have := h2.next; omega)
theorem at_Read (p : By) (hE : Env w) (h : TreeAt w base tb N T) (hN : N ≤ 1000000000) :
    Calls Tryz.prog 14 #[.pointer (some ⟨tb, 0, none⟩), .string (bs p)] w (ReadI T (findT T p) w) := by
  obtain ⟨h1, h2, mb, A, h3⟩ := h
  exact tree_Read p w hE h3 h1 h2 hN




theorem at_Nodes (h : TreeAt w base tb N T) :
    Calls Tryz.prog 15 #[.pointer (some ⟨tb, 0, none⟩)] w fun e w' => e = .returned (.int .i64 T.ids.length) ∧ Ext w w' := by
  obtain ⟨h1, h2, mb, A, h3⟩ := h
  exact tree_Nodes w h3 h1.nodup
theorem at_Used (h : TreeAt w base tb N T) (hN : N ≤ 1000000000) :
    Calls Tryz.prog 10 #[.pointer (some ⟨tb, 0, none⟩)] w fun e w' => e = .returned (.int .i64 (usedT T)) ∧ Ext w w' := by
  obtain ⟨h1, h2, mb, A, h3⟩ := h
  exact tree_Used w h3 h1 h2 (by omega)
theorem at_Loose (h : TreeAt w base tb N T) (hN : N ≤ 1000000000) :
    Calls Tryz.prog 12 #[.pointer (some ⟨tb, 0, none⟩)] w fun e w' => ∃ a c, e = .returned (.slice a (looseT T).length c) ∧ OwnIs w' w.heap.size a c (looseT T) ∧ Ext w w' := by
  obtain ⟨h1, h2, mb, A, h3⟩ := h
  exact tree_Loose w h3 h1 h2 hN
end
/-- An operation as cells. -/
def opV (x : OpD × OpA) : List Value := [.int .i64 x.1.kind, .string (bs x.1.path), .string (bs x.1.dest), .slice x.2.oa x.1.data.length x.2.oc]
theorem ops_blk {w : World} {g : Nat} {L : List (OpD × OpA)} (hg : w.heap[g]? = some (.cells (L.flatMap opV).toArray 32 (0, 0))) (hb : ∀ x ∈ L, Bytes w x.2.oa x.1.data) : OpsL w (some ⟨g, 0, none⟩) L := by
  refine Or.inr ⟨g, 0, rfl, (Array.getElem?_eq_some_iff.1 hg).1, fun i hi => ?_⟩
  have eL : L.getD i oz = L[i] := by simp [List.getD_eq_getElem?_getD, List.getElem?_eq_getElem hi]
  rw [eL]
  have hcell : ∀ r u, r < 4 → (opV L[i])[r]? = some u → w.cell? ⟨g, 0 + i * 4 + r, none⟩ = some u := by
    intro r u hr hu
    refine blk_cell hg _ u ?_
    have := flat_at (F := opV) (m := 4) (fun _ => rfl) L i r hi hr
    rw [hu] at this
    rw [Nat.zero_add]
    simpa using this
  exact ⟨⟨hcell 0 _ (by omega) rfl, hcell 1 _ (by omega) rfl, hcell 2 _ (by omega) rfl, hcell 3 _ (by omega) rfl⟩, hb _ (List.getElem_mem hi)⟩
/-- Bytes in a block. -/
theorem bytes_blk {w : World} {g : Nat} {l : By} {t : TypeId} {fr : Nat × Nat} (hg : w.heap[g]? = some (.cells (byteV l).toArray t fr)) : Bytes w (some ⟨g, 0, none⟩) l := by
  refine Or.inr ⟨g, 0, rfl, (Array.getElem?_eq_some_iff.1 hg).1, fun i hi => ?_⟩
  rw [Nat.zero_add]
  have h : w.cell? ⟨g, i, none⟩ = (byteV l).toArray[i]? := by simp [World.cell?, hg]
  rw [h]
  simpa using byteV_at hi
end Go.Proofs.YtlpjmkkinlcbnaaGreatDoor
namespace Go.Proofs.YtlpjmkkinlcbnaaGreatDoor
open Go.RowKit
theorem rNum_short {most : Nat} {s : RSt} (h : s.1.length < 4) : rNum most s = (0, ([], true)) := by unfold rNum; rw [if_pos h]
theorem rNum_big {most : Nat} {s : RSt} (h : 4 ≤ s.1.length) (k : most < le32 s.1) : rNum most s = (0, ([], true)) := by unfold rNum; rw [if_neg (by omega), if_pos k]
theorem rNum_ok {most : Nat} {s : RSt} (h : 4 ≤ s.1.length) (k : le32 s.1 ≤ most) : rNum most s = (le32 s.1, (s.1.drop 4, s.2)) := by unfold rNum; rw [if_neg (by omega), if_neg (by omega)]
theorem byteAt_lt (l : List UInt8) (i : Nat) : byteAt l i < 256 := (l.getD i 0).toNat_lt
/-- What a reader's call gives. -/
def RdR (S : Nat → Prop) (R : Nat) (w : World) (v : Value) (t : RSt) (e : Ending) (w' : World) : Prop := e = .returned v ∧ Rd S w' R t ∧ But R w w'
theorem RdR.of {S : Nat → Prop} {R : Nat} {w w' : World} {v : Value} {t : RSt} (h : But R w w' ∧ Rd S w' R t) : RdR S R w v t (.returned v) w' := ⟨rfl, h.2, h.1⟩
theorem rd_fin_ok {S : Nat → Prop} {w : World} {R g off c k nq : Nat} {s : RSt} {a' : Option Addr} {c' : Nat} {v : Value} (hg : w.heap[R]? = some (.cells #[.slice (some ⟨g, off, none⟩) s.1.length c, .bool s.2] 122 (0, 0))) (hc : s.1.length ≤ c) (hb : BytesS S w (some ⟨g, off, none⟩) s.1) (hk : k ≤ s.1.length)
    (ha : s.1.length = k ∨ a' = some ⟨g, off + k, none⟩) (hc' : s.1.length - k ≤ c') :
    RdR S R w v (s.1.drop k, s.2) (.returned v) ((w.drewN nq).setCell ⟨R, 0, none⟩ (.slice a' (s.1.length - k) c')) := by
  have h := rd_cut (w := w.drewN nq) hg hc (Row.keep hb (Keep.of_ext ((Ext.refl w).drewN nq))) hk ha hc'
  exact ⟨rfl, h.2, ((But.refl R w).drewN nq).trans h.1⟩
theorem rd_fin_bad {S : Nat → Prop} {w : World} {R g off c k nq : Nat} {s : RSt} {a' : Option Addr} {c' : Nat} {v : Value} (hg : w.heap[R]? = some (.cells #[.slice (some ⟨g, off, none⟩) s.1.length c, .bool s.2] 122 (0, 0))) (hc : s.1.length ≤ c) (hb : BytesS S w (some ⟨g, off, none⟩) s.1) (hk : k ≤ s.1.length)
    (ha : s.1.length = k ∨ a' = some ⟨g, off + k, none⟩) (hc' : s.1.length - k ≤ c') :
    RdR S R w v ([], true) (.returned v) ((((w.drewN nq).setCell ⟨R, 0, none⟩ (.slice a' (s.1.length - k) c')).setCell ⟨R, 1, none⟩ (.bool true)).setCell ⟨R, 0, none⟩ (.slice none 0 0)) := by
  have h := rd_fin_ok (nq := nq) (v := v) hg hc hb hk ha hc'
  have h2 := rd_num_bad h.2.1
  exact ⟨rfl, h2.2, h.2.2.trans h2.1⟩
set_option maxHeartbeats 1600000 in
theorem rd_num (S : Nat → Prop) (R most : Nat) (s : RSt) (w : World) (h : Rd S w R s) (hs : s.1.length ≤ 1099511627776) (hm : most ≤ 4294967295) :
    Calls Tryz.prog 40 #[.pointer (some ⟨R, 0, none⟩), .int .i64 (most : Int)] w (RdR S R w (.int .i64 ((rNum most s).1 : Nat)) (rNum most s).2) := by
  have H0 := Lib.hid h
  obtain ⟨a, c, hg, hc, hb⟩ := h
  obtain ⟨n, hn⟩ : ∃ n, n = s.1.length := ⟨_, rfl⟩
  have hg' := hg
  rw [← hn] at hg' hc hs
  obtain ⟨hR0, hR1, hF0, hF1⟩ := rd_facts hg'
  clear hg'
  have HG := Lib.hid hg; clear hg
  by_cases h4 : n < 4
  · have HN := Lib.hid (rNum_short (most := most) (s := s) (by omega))
    have HB := Lib.hid hb; clear hb
    have HNN := Lib.hid hn; clear hn
    go_enter Tryz.func40, Tryz.ntmps40
    go_wp2_with fail
    go_ret
    rw [HN.out]; exact RdR.of (rd_num_bad H0.out)
  · obtain ⟨g, off, rfl, hlt, hcell⟩ := hb.bytes.at (by intro e; rw [hn, e] at h4; simp at h4)
    have hc0 := hcell 0 (by omega)
    have hc1 := hcell 1 (by omega)
    have hc2 := hcell 2 (by omega)
    have hc3 := hcell 3 (by omega)
    rw [Nat.add_zero] at hc0
    have HB := Lib.hid hb; clear hb hcell
    have HNN := Lib.hid hn; clear hn
    have HL := Lib.hid (show le32 s.1 = byteAt s.1 0 + 256 * byteAt s.1 1 + 65536 * byteAt s.1 2 + 16777216 * byteAt s.1 3 from rfl)
    have hl0 := byteAt_lt s.1 0
    have hl1 := byteAt_lt s.1 1
    have hl2 := byteAt_lt s.1 2
    have hl3 := byteAt_lt s.1 3
    generalize hb0 : byteAt s.1 0 = b0 at *
    generalize hb1 : byteAt s.1 1 = b1 at *
    generalize hb2 : byteAt s.1 2 = b2 at *
    generalize hb3 : byteAt s.1 3 = b3 at *
    have H4 : 4 ≤ n := by omega
    have i0 : (0 : Int) < (n : Int) := by omega
    have i1 : (1 : Int) < (n : Int) := by omega
    have i2 : (2 : Int) < (n : Int) := by omega
    have i3 : (3 : Int) < (n : Int) := by omega
    clear hb0 hb1 hb2 hb3
    go_enter Tryz.func40, Tryz.ntmps40
    go_wp2_with fail
    go_quiet (fail)
    simp (disch := omega) only [u32_or8, u32_or16, u32_or24]
    by_cases hbig : most < le32 s.1
    · have HN := Lib.hid (rNum_big (s := s) (by have := HNN.out; omega) hbig)
      have hb2 : (most : Int) < (b0 : Int) + (b1 : Int) * 256 + (b2 : Int) * 65536 + (b3 : Int) * 16777216 := by have := HL.out; omega
      clear hbig
      by_cases hc4 : c = 4
      · go_wp2_with fail
        all_goals first | (exfalso; omega) | skip
        go_ret
        have e := HNN.out
        subst e
        rw [HN.out]; exact rd_fin_bad HG.out hc HB.out H4 (Or.inl (by omega)) (by omega)
      · go_wp2_with fail
        all_goals first | (exfalso; omega) | skip
        go_ret
        have e := HNN.out
        subst e
        rw [HN.out]; exact rd_fin_bad HG.out hc HB.out H4 (Or.inr rfl) (by omega)
    · have HN := Lib.hid (rNum_ok (most := most) (s := s) (by have := HNN.out; omega) (by omega))
      have hb2 : (b0 : Int) + (b1 : Int) * 256 + (b2 : Int) * 65536 + (b3 : Int) * 16777216 ≤ (most : Int) := by have := HL.out; omega
      have HV := Lib.hid (show ((le32 s.1 : Nat) : Int) = (b0 : Int) + (b1 : Int) * 256 + (b2 : Int) * 65536 + (b3 : Int) * 16777216 by have := HL.out; omega)
      clear hbig
      by_cases hc4 : c = 4
      · go_wp2_with fail
        all_goals first | (exfalso; omega) | skip
        go_ret
        have e := HNN.out
        subst e
        rw [HN.out, HV.out]; exact rd_fin_ok HG.out hc HB.out H4 (Or.inl (by omega)) (by omega)
      · go_wp2_with fail
        all_goals first | (exfalso; omega) | skip
        go_ret
        have e := HNN.out
        subst e
        rw [HN.out, HV.out]; exact rd_fin_ok HG.out hc HB.out H4 (Or.inr rfl) (by omega)
end Go.Proofs.YtlpjmkkinlcbnaaGreatDoor
namespace Go.Proofs.YtlpjmkkinlcbnaaGreatDoor
open Go.RowKit
theorem addr_add (g off n : Nat) : (⟨g, off, none⟩ : Addr).add n = ⟨g, off + n, none⟩ := by
  unfold Addr.add; split
  · rename_i h0; subst h0; rfl
  · rfl
theorem conv_text {w : World} {a : Option Addr} {p : List UInt8} {c : Nat} (hb : Bytes w a p) :
    (convert 22 9 (.slice a p.length c)).run Tryz.prog w = .ok (.string (bs p)) w := by
  cases a with
  | none =>
    have hp : p = [] := by
      rcases hb with hb | ⟨g, off, ha, _⟩
      · exact hb
      · cases ha
    subst hp
    exact run_convert_bytes_nil w 22 5 Tryz.underlying22 Tryz.underlying5 0 c _ Tryz.underlying9
  | some ad =>
    refine run_convert_bytes_back w _ _ 5 ad c p Tryz.underlying22 Tryz.underlying5 Tryz.underlying9 ?_
    intro j hj
    rcases hb with hb | ⟨g, off, ha, _, hc⟩
    · subst hb; simp at hj
    · have ha := Option.some.inj ha
      subst ha
      have e : (⟨g, off, none⟩ : Addr).add j = ⟨g, off + j, none⟩ := by
        unfold Addr.add; split
        · rename_i h0; subst h0; rfl
        · rfl
      rw [e, hc j hj]
      simp [byteAt, hj]
end Go.Proofs.YtlpjmkkinlcbnaaGreatDoor
namespace Go.Proofs.YtlpjmkkinlcbnaaGreatDoor
open Go.RowKit
theorem Bytes.take {w : World} {a : Option Addr} {l : List UInt8} (h : Bytes w a l) (n : Nat) : Bytes w a (l.take n) := by
  rcases h with h | ⟨g, off, ha, hg, hc⟩
  · subst h; exact Or.inl (by simp)
  · refine Or.inr ⟨g, off, ha, hg, fun i hi => ?_⟩
    have hi' : i < n ∧ i < l.length := by simp at hi; omega
    rw [hc i hi'.2]
    simp [byteAt, hi'.1]
theorem rec_read (a : Option Addr) (c : Nat) (l : List UInt8) (w : World) (hb : Bytes w a l) (hl : l.length ≤ 1099511627776) :
    Calls Tryz.prog 39 #[.slice a l.length c] w fun e w' => ∃ R, e = .returned (.pointer (some ⟨R, 0, none⟩)) ∧ w.heap.size ≤ R ∧ Rd (fun k => w.heap.size ≤ k ∧ k < R) w' R (l, false) ∧ Ext w w' := by
  have HB := Lib.hid hb; clear hb
  go_enter Tryz.func39, Tryz.ntmps39
  go_wp2_with (at_builtin; refine append_bytes rfl (.const (.slice none 0 0)) (.tmp 3) 22 rfl Tryz.underlying22 w.heap.size none 0 [] l 0 l.length rfl rfl rfl (OwnB.nil _ _) a c rfl HB.out (by simpa using hl) (Nat.le_refl _) ?_; intro ad cap w1 hown hx; have hbx := And.intro (hown.fresh (S := fun k => w.heap.size ≤ k) (fun k hk => hk)) hown.bytes; have HBX := Lib.hid hbx; clear hbx hown; have HX := Lib.hid hx; clear hx)
  go_ret
  have hx := HX.out
  refine ⟨w1.heap.size, rfl, hx.size, ⟨ad, cap, ?_, HBX.out.2.2, Row.keep (Row.mono HBX.out.1 (fun k hk hb => ⟨hb, hk⟩)) (Keep.of_ext (Ext.alloc _ _))⟩, Ext.trans hx (Ext.alloc _ _)⟩
  show (w1.heap.push _)[w1.heap.size]? = _
  simp
theorem rRaw_eq {most : Nat} {s : RSt} {n : Nat} {t : RSt} (h : rNum most s = (n, t)) : rRaw most s = if t.1.length < n then ([], ([], true)) else (t.1.take n, (t.1.drop n, t.2)) := by
  unfold rRaw; rw [h]
/-- What a reader of bytes gives. -/
def RdB (S : Nat → Prop) (R : Nat) (w : World) (p : List UInt8) (t : RSt) (e : Ending) (w' : World) : Prop := ∃ a c, e = .returned (.slice a p.length c) ∧ p.length ≤ c ∧ OwnB w' w.heap.size a c p ∧ Rd S w' R t ∧ But R w w'
set_option maxHeartbeats 1600000 in
theorem rd_raw (S : Nat → Prop) (R most : Nat) (s : RSt) (w : World) (h : Rd S w R s) (hs : s.1.length ≤ 1099511627776) (hm : most ≤ 16777216) :
    Calls Tryz.prog 42 #[.pointer (some ⟨R, 0, none⟩), .int .i64 (most : Int)] w (RdB S R w (rRaw most s).1 (rRaw most s).2) := by
  have H0 := Lib.hid h
  have hle := rNum_le most s
  have hln := rNum_len most s
  have hnum := rd_num S R most s w h hs (by omega)
  obtain ⟨n, t, ht⟩ : ∃ n t, rNum most s = (n, t) := ⟨_, _, rfl⟩
  have hraw := rRaw_eq ht
  rw [ht] at hnum hle hln
  have HNUM := Lib.hid hnum; clear hnum
  have HRAW := Lib.hid hraw; clear hraw
  clear ht h
  simp only at hle hln
  go_enter Tryz.func42, Tryz.ntmps42
  go_wp2_with fail
  refine HNUM.out.mono ?_
  rintro e w1 ⟨rfl, hR, hB⟩
  have HR := Lib.hid hR
  have HB := Lib.hid hB; clear hB
  obtain ⟨a, c, hg, hc, hb⟩ := hR
  have hRlt : R < w1.heap.size := (Array.getElem?_eq_some_iff.1 hg).1
  obtain ⟨m, hm⟩ : ∃ m, m = t.1.length := ⟨_, rfl⟩
  have hg' := hg
  rw [← hm] at hg' hc
  obtain ⟨hR0, hR1, hF0, hF1⟩ := rd_facts hg'
  have HGM := Lib.hid hg'; clear hg'
  have HG := Lib.hid hg; clear hg
  have HBY := Lib.hid hb; clear hb
  have HM := Lib.hid hm; clear hm
  by_cases hlt : m < n
  · have hl2 : (m : Int) < (n : Int) := by omega
    go_wp2_with fail
    go_ret
    have e1 : rRaw most s = ([], ([], true)) := by rw [HRAW.out, if_pos (by rw [← HM.out]; exact hlt)]
    rw [e1]
    have h2 := rd_num_bad HR.out
    exact ⟨none, 0, rfl, Nat.le_refl _, OwnB.nil _ _, h2.2, HB.out.trans h2.1⟩
  · have hl2 : (n : Int) ≤ (m : Int) := by omega
    have e1 : rRaw most s = (t.1.take n, (t.1.drop n, t.2)) := by rw [HRAW.out, if_neg (by rw [← HM.out]; exact hlt)]
    have HE := Lib.hid e1; clear e1
    have fin : ∀ (w2 : World) (a2 : Option Addr) (c2 : Nat) (a3 : Option Addr) (c3 : Nat), Below w1.heap.size w1 w2 → OwnB w2 w1.heap.size a2 c2 (t.1.take n) → n ≤ c2 → (m = n ∨ ∃ g off, a = some ⟨g, off, none⟩ ∧ a3 = some ⟨g, off + n, none⟩) → m - n ≤ c3 →
        RdB S R w (rRaw most s).1 (rRaw most s).2 (.returned (.slice a2 n c2)) (w2.setCell ⟨R, 0, none⟩ (.slice a3 (m - n) c3)) := by
      intro w2 a2 c2 a3 c3 hx hb2 hc2 h3 hc3
      rw [HE.out]
      have hlen : (t.1.take n).length = n := by rw [List.length_take, ← HM.out]; omega
      have hR2 : Rd S w2 R t := HR.out.ext hx
      have hB2 : But R w1 (w2.setCell ⟨R, 0, none⟩ (.slice a3 (m - n) c3)) := (But.of_ext hx).setCell 0 _
      have hBB : But R w2 (w2.setCell ⟨R, 0, none⟩ (.slice a3 (m - n) c3)) := (But.refl _ _).setCell 0 _
      have hRd : Rd S (w2.setCell ⟨R, 0, none⟩ (.slice a3 (m - n) c3)) R (t.1.drop n, t.2) := by
        rcases h3 with h3 | ⟨g, off, rfl, rfl⟩
        · refine ⟨a3, c3, ?_, ?_, Or.inl ?_⟩
          · rw [setCell_row (Ext.heap hx HGM.out)]
            simp [← HM.out]
          · simp [← HM.out]; omega
          · have : t.1.drop n = [] := by rw [List.drop_eq_nil_iff, ← HM.out]; omega
            simp only [this]; rfl
        · have hmm := HM.out
          subst hmm
          exact (rd_cut (Ext.heap hx HG.out) hc (Row.keep HBY.out (Keep.of_ext hx)) (by omega) (Or.inr rfl) hc3).2
      exact ⟨a2, c2, by rw [hlen], by rw [hlen]; exact hc2, (hb2.but_lt hBB hRlt).base HB.out.size, hRd, HB.out.trans hB2⟩
    have FIN := Lib.hid fin; clear fin
    have hlen : (t.1.take n).length = n := by rw [List.length_take, ← HM.out]; omega
    have HLEN := Lib.hid hlen; clear hlen
    by_cases hcn : c = n
    · have hmn : m = n := by omega
      subst hcn
      go_wp2_with (at_builtin; refine append_bytes rfl (.const (.slice none 0 0)) (.tmp 28) 22 rfl Tryz.underlying22 w1.heap.size none 0 [] (t.1.take c) 0 _ rfl HLEN.out rfl (OwnB.nil _ _) _ _ rfl (HBY.out.bytes.take _) (by omega) (Nat.le_refl _) ?_; intro ad cap w2 hown hx; have hbx := And.intro hown hown.bytes.2; have HBX := Lib.hid hbx; clear hbx hown; have hg2 := Ext.heap hx HGM.out; obtain ⟨k0, k1, k2, k3⟩ := rd_facts hg2; have HX := Lib.hid hx; clear hx hg2)
      go_ret
      have hbx := HBX.out
      rw [List.nil_append, HLEN.out] at hbx
      have h := FIN.out w2 ad cap a 0 HX.out hbx.1 hbx.2 (Or.inl hmn) (by omega)
      rw [show m - c = 0 by omega] at h
      exact h
    · go_wp2_with (at_builtin; refine append_bytes rfl (.const (.slice none 0 0)) (.tmp 28) 22 rfl Tryz.underlying22 w1.heap.size none 0 [] (t.1.take n) 0 _ rfl HLEN.out rfl (OwnB.nil _ _) _ _ rfl (HBY.out.bytes.take _) (by omega) (Nat.le_refl _) ?_; intro ad cap w2 hown hx; have hbx := And.intro hown hown.bytes.2; have HBX := Lib.hid hbx; clear hbx hown; have hg2 := Ext.heap hx HGM.out; obtain ⟨k0, k1, k2, k3⟩ := rd_facts hg2; have HX := Lib.hid hx; clear hx hg2)
      have hbx := HBX.out
      rw [List.nil_append, HLEN.out] at hbx
      go_ret
      refine FIN.out _ _ _ _ _ HX.out hbx.1 hbx.2 ?_ (by omega)
      rcases HBY.out.bytes with hz | ⟨g, off, rfl, _, _⟩
      · left
        have hmm := HM.out
        rw [hz] at hmm
        simp at hmm
        omega
      · exact Or.inr ⟨g, off, rfl, by rw [Option.map_some, addr_add]⟩
/-- (*rec.Reader).Text. -/
theorem rd_text (S : Nat → Prop) (R most : Nat) (s : RSt) (w : World) (h : Rd S w R s) (hs : s.1.length ≤ 1099511627776) (hm : most ≤ 16777216) :
    Calls Tryz.prog 45 #[.pointer (some ⟨R, 0, none⟩), .int .i64 (most : Int)] w (RdR S R w (.string (bs (rRaw most s).1)) (rRaw most s).2) := by
  have hraw := rd_raw S R most s w h hs hm
  obtain ⟨p, t, ht⟩ : ∃ p t, rRaw most s = (p, t) := ⟨_, _, rfl⟩
  rw [ht] at hraw ⊢
  have HRAW := Lib.hid hraw; clear hraw ht h
  go_enter Tryz.func45, Tryz.ntmps45
  go_wp2_with fail
  refine HRAW.out.mono ?_
  rintro e w1 ⟨a, c, rfl, hc, hb, hR, hB⟩
  have hconv := conv_text (c := c) hb.bytes.1
  have HR := Lib.hid hR
  have HB := Lib.hid hB; clear hB hb hR
  go_wp2_with fail
  go_ret
  exact ⟨rfl, HR.out, HB.out⟩






















/-- (*rec.Reader).More. -/
theorem rd_more (S : Nat → Prop) (R : Nat) (s : RSt) (w : World) (h : Rd S w R s) :
    Calls Tryz.prog 43 #[.pointer (some ⟨R, 0, none⟩)] w fun e w' => e = .returned (.bool (decide (0 < s.1.length))) ∧ w = w' := by
  obtain ⟨a, c, hg, hc, hb⟩ := h
  obtain ⟨hR0, hR1, hF0, hF1⟩ := rd_facts hg
  clear hg hb
  go_enter Tryz.func43, Tryz.ntmps43
  go_wp2_with fail
  go_ret
  exact ⟨ret_bool (by simp), rfl⟩
/-- (*rec.Reader).Done. -/
theorem rd_done (S : Nat → Prop) (R : Nat) (s : RSt) (w : World) (h : Rd S w R s) :
    Calls Tryz.prog 41 #[.pointer (some ⟨R, 0, none⟩)] w fun e w' => e = .returned (.bool (rDone s)) ∧ w = w' := by
  obtain ⟨l, b⟩ := s
  obtain ⟨a, c, hg, hc, hb⟩ := h
  obtain ⟨hR0, hR1, hF0, hF1⟩ := rd_facts hg
  clear hg hb
  go_enter Tryz.func41, Tryz.ntmps41
  cases b with
  | true =>
    go_wp2_with fail
    go_ret
    exact ⟨rfl, rfl⟩
  | false =>
    go_wp2_with fail
    go_ret
    refine ⟨ret_bool ?_, rfl⟩
    cases l with
    | nil => rfl
    | cons x r => simp [rDone]; omega
end Go.Proofs.YtlpjmkkinlcbnaaGreatDoor
namespace Go.Proofs.YtlpjmkkinlcbnaaGreatDoor
open Go.RowKit
theorem rd_err (S : Nat → Prop) (R : Nat) (s : RSt) (w : World) (h : Rd S w R s) :
    Calls Tryz.prog 70 #[.pointer (some ⟨R, 0, none⟩)] w fun e w' => e = .returned (.int .i64 (if rDone s = true then 0 else 4)) ∧ w = w' := by
  have hd := rd_done S R s w h
  have HD := Lib.hid hd; clear hd h
  cases hs : rDone s with
  | true =>
    rw [hs] at HD
    go_enter Tryz.func70, Tryz.ntmps70
    go_wp2_with (go_at_call 41; refine HD.out.mono ?_; rintro e w1 ⟨rfl, rfl⟩)
    go_ret
    exact ⟨rfl, rfl⟩
  | false =>
    rw [hs] at HD
    go_enter Tryz.func70, Tryz.ntmps70
    go_wp2_with (go_at_call 41; refine HD.out.mono ?_; rintro e w1 ⟨rfl, rfl⟩)
    go_ret
    exact ⟨rfl, rfl⟩
theorem blk_plain {w : World} {g : Nat} {us : List Value} {t : TypeId} (h : w.heap[g]? = some (.cells us.toArray t (0, 0))) : ∀ j u, us[j]? = some u → w.cell? ((⟨g, 0, none⟩ : Addr).add j) = some u := by
  intro j u hj
  have e : (⟨g, 0, none⟩ : Addr).add j = ⟨g, j, none⟩ := by
    unfold Addr.add; split
    · rename_i h0; subst h0; rfl
    · rw [Nat.zero_add]
  rw [e]
  exact blk_cell h j u (by simpa using hj)
theorem info_op4 : (Tryz.prog.info? 32).map (fun i => (i.zero, i.size, i.bytes)) = some (some (.agg #[.int .i64 0, .string ⟨#[]⟩, .string ⟨#[]⟩, .slice none 0 0]), 4, 64) := by kernel_rfl
theorem opV_one (X : List (OpD × OpA)) : ∀ u ∈ X.flatMap opV, u.oneCell' = true := by
  intro u hu
  obtain ⟨x, _, hx⟩ := List.mem_flatMap.1 hu
  simp only [opV, List.mem_cons, List.not_mem_nil, or_false] at hx
  rcases hx with rfl | rfl | rfl | rfl <;> rfl
/-- Operations in a row of the call's own. -/
def OwnOps (w : World) (base : Nat) (a : Option Addr) (cap : Nat) (X : List (OpD × OpA)) : Prop :=
  w.ownsRow base 32 4 (.slice a X.length cap) X.length (X.flatMap opV) ∧ ∀ x ∈ X, DataM w x.2.oa x.1.data
theorem OwnOps.ops {w : World} {base : Nat} {a : Option Addr} {cap : Nat} {X : List (OpD × OpA)} (h : OwnOps w base a cap X) : OpsL w a X := by
  obtain ⟨a', c', hv, _, hr, _⟩ := run_of_row h.1
  cases hv
  rcases hr with hr | ⟨g, off, ha, hg, hc⟩
  · left
    have := flat_lenm (F := opV) (m := 4) (fun _ => rfl) X
    rw [hr] at this
    exact List.eq_nil_of_length_eq_zero (by simp only [List.length_nil] at this; omega)
  · refine Or.inr ⟨g, off, ha, hg, fun i hi => ?_⟩
    have eL : X.getD i oz = X[i] := by simp [List.getD_eq_getElem?_getD, List.getElem?_eq_getElem hi]
    rw [eL]
    have hcell : ∀ r u, r < 4 → (opV X[i])[r]? = some u → w.cell? ⟨g, off + i * 4 + r, none⟩ = some u := by
      intro r u hr hu
      have := hc (i * 4 + r) u (by rw [flat_at (F := opV) (m := 4) (fun _ => rfl) X i r hi hr]; exact hu)
      rwa [← Nat.add_assoc] at this
    exact ⟨⟨hcell 0 _ (by omega) rfl, hcell 1 _ (by omega) rfl, hcell 2 _ (by omega) rfl, hcell 3 _ (by omega) rfl⟩, (h.2 _ (List.getElem_mem hi)).bytes⟩
theorem OwnOps.keep {w w' : World} {base : Nat} {a : Option Addr} {cap R : Nat} {X : List (OpD × OpA)} (h : OwnOps w base a cap X) (k : Keep (· ≠ R) w w') (hR : R < base) (hD : Datas (· ≠ R) w) : OwnOps w' base a cap X :=
  ⟨ownsRow_keep h.1 k (fun g _ _ hb _ => by show g ≠ R; omega), fun x hx => (h.2 x hx).keep k hD⟩
theorem datas_row {w : World} {base E m n : Nat} {v : Value} {us : List Value} (h : w.ownsRow base E m v n us) (hE : E ≠ 5) : Datas (fun g => some g ≠ v.ownBlock) w := by
  intro g cs fr hg e
  have e : some g = v.ownBlock := e
  rcases h.2 with ⟨h1, _⟩ | ⟨g', c, cur, h1, _, hg', _⟩
  · rw [h1] at e; cases e
  · rw [h1] at e
    cases e
    rw [hg] at hg'
    injection (Option.some.inj hg') with _ h2
    exact hE h2.symm
theorem datas_rd {S : Nat → Prop} {w : World} {R : Nat} {s : RSt} (h : Rd S w R s) : Datas (· ≠ R) w := by
  obtain ⟨a, c, hg, _⟩ := h
  exact datas_cells hg (by decide)
theorem OwnOps.app {w w3 : World} {base : Nat} {a a' : Option Addr} {cap c' : Nat} {X : List (OpD × OpA)} {x : OpD × OpA} (h : OwnOps w base a cap X) (hx : DataM w x.2.oa x.1.data)
    (hown : w3.ownsRow base 32 4 (.slice a' (X.length + 1) c') (X.length + 1) (X.flatMap opV ++ opV x)) (hg : w.grownBy w3 (Value.slice a X.length cap).ownBlock) : OwnOps w3 base a' c' (X ++ [x]) := by
  have hD := datas_row h.1 (by decide)
  refine ⟨?_, fun y hy => ?_⟩
  · rw [List.length_append, List.flatMap_append, List.flatMap_cons, List.flatMap_nil, List.append_nil]
    exact hown
  · rcases List.mem_append.1 hy with hy | hy
    · exact (h.2 y hy).keep (Keep.of_grown hg) hD
    · rw [List.mem_singleton.1 hy]
      exact hx.keep (Keep.of_grown hg) hD
/-- What Unpack answers. -/
def UnpR (l : By) (w : World) (e : Ending) (w' : World) : Prop :=
  (if rDone (unpackL l).2 = true then ∃ a c X, e = .returned (.tuple #[.slice a X.length c, .int .i64 0]) ∧ X.map Prod.fst = (unpackL l).1 ∧ OpsL w' a X
   else e = .returned (.tuple #[.slice none 0 0, .int .i64 4])) ∧ Ext w w'
set_option maxRecDepth 100000 in
set_option maxHeartbeats 12800000 in
theorem tree_Unpack (a : Option Addr) (c : Nat) (l : By) (w : World) (hb : Bytes w a l) (hl : l.length ≤ 100000) :
    Calls Tryz.prog 48 #[.slice a l.length c] w (UnpR l w) := by
  obtain ⟨Q, hQ⟩ : ∃ Q, Q = UnpR l w := ⟨_, rfl⟩
  rw [← hQ]
  have HQ := Lib.hid hQ; clear hQ
  have hrr := rec_read a c l w hb (by omega)
  have HRR := Lib.hid hrr; clear hrr hb
  obtain ⟨n, hn⟩ : ∃ n, n = l.length := ⟨_, rfl⟩
  rw [← hn] at hl HRR ⊢
  have HN := Lib.hid hn; clear hn
  go_enter Tryz.func48, Tryz.ntmps48
  go_upto_region 3 with (go_at_call 39; refine HRR.out.mono ?_; rintro E w1 ⟨R, rfl, hwR, hrd, hx⟩; have HRD := Lib.hid hrd; have HX1 := Lib.hid hx; clear hrd hx)
  obtain ⟨S, hS⟩ : ∃ S, S = w1.heap.size := ⟨_, rfl⟩
  have hRS : R < S := by rw [hS]; exact HRD.out.lt
  have HS : Hid (S ≤ w1.heap.size ∧ w.heap.size ≤ R) := Lib.hid ⟨by omega, hwR⟩
  clear hS hwR HRR
  obtain ⟨i0, hi, hz, hsz, hby⟩ := info_parts info_op4
  have HI := Lib.hid hi; clear hi
  have HZ := Lib.hid hz; clear hz
  have HSS := Lib.hid hsz; clear hsz
  have HBY := Lib.hid hby; clear hby
  have hO0 : OwnOps w1 S none 0 [] := ⟨World.ownsRow_nil _ _ _ _, fun x hx => by cases hx⟩
  have HO0 := Lib.hid hO0; clear hO0
  have hR0 : Rd (fun k => w.heap.size ≤ k ∧ k < R) w1 R (l, false) := HRD.out
  have hn0 : (l, false).1.length = n := HN.out.symm
  obtain ⟨s0, hs0⟩ : ∃ s0, s0 = ((l, false) : RSt) := ⟨_, rfl⟩
  rw [← hs0] at hR0 hn0
  have HR0 := Lib.hid hR0; clear hR0
  have HE0 := Lib.hid hs0; clear hs0
  have HS1 : Hid (S ≤ w1.heap.size) := Lib.hid HS.out.1
  go_loopg [4] n (fun gk v wr => ∃ (X : List (OpD × OpA)) (ad : Option Addr) (cc : Nat) (s : RSt), v = .slice ad X.length cc ∧ Hid (gk = s.1.length) ∧ Hid ((rEach oneOp s0).1 = X.map Prod.fst ++ (rEach oneOp s).1 ∧ (rEach oneOp s0).2 = (rEach oneOp s).2) ∧ Hid (X.length + s.1.length ≤ n) ∧ Hid (OwnOps wr S ad cc X) ∧ Hid (Rd (fun k => w.heap.size ≤ k ∧ k < R) wr R s) ∧ Hid (Keep (fun k => k ≠ R ∧ k < S) w1 wr) ∧ Hid (S ≤ wr.heap.size))
  case atStart =>
    exact ⟨[], none, 0, s0, rfl, Lib.hid hn0.symm, Lib.hid ⟨rfl, rfl⟩, Lib.hid (by rw [List.length_nil, hn0]; omega), HO0, HR0, Lib.hid (Keep.refl _ _), HS1⟩
  case round =>
    clear HO0 HR0 HRD HS1
    obtain ⟨X, ad, cc, s, rfl, hgk, hrd, hdn, hown, hR, hkp, hSw⟩ := hrel
    have hmore := rd_more _ _ _ _ hR.out
    have HM := Lib.hid hmore; clear hmore
    by_cases hlt : 0 < s.1.length
    · have hl := hdn.out
      go_wp2_with (go_at_call 43; refine HM.out.mono ?_; rintro e w2 ⟨rfl, rfl⟩)
      have lt1 := rNum_len 6 s
      have lt2 := (rRaw_len 40 (rNum 6 s).2).1
      have lt3 := (rRaw_len 40 (rRaw 40 (rNum 6 s).2).2).1
      have hcons := rEach_cons oneOp_takes hlt
      have hless := oneOp_takes s hlt
      have hone : oneOp s = (⟨((rNum 6 s).1 : Nat), (rRaw 40 (rNum 6 s).2).1, (rRaw 40 (rRaw 40 (rNum 6 s).2).2).1, (rRaw 3500 (rRaw 40 (rRaw 40 (rNum 6 s).2).2).2).1⟩, (rRaw 3500 (rRaw 40 (rRaw 40 (rNum 6 s).2).2).2).2) := rfl
      have n1 := fun W h => rd_num (fun k => w.heap.size ≤ k ∧ k < R) R 6 s W h (by omega) (by omega)
      have n2 := fun W h => rd_text (fun k => w.heap.size ≤ k ∧ k < R) R 40 (rNum 6 s).2 W h (by omega) (by omega)
      have n3 := fun W h => rd_text (fun k => w.heap.size ≤ k ∧ k < R) R 40 (rRaw 40 (rNum 6 s).2).2 W h (by omega) (by omega)
      have n4 := fun W h => rd_raw (fun k => w.heap.size ≤ k ∧ k < R) R 3500 (rRaw 40 (rRaw 40 (rNum 6 s).2).2).2 W h (by omega) (by omega)
      generalize rNum 6 s = s1 at lt1 lt2 lt3 hone n1 n2 n3 n4
      generalize rRaw 40 s1.2 = s2 at lt2 lt3 hone n2 n3 n4
      generalize rRaw 40 s2.2 = s3 at lt3 hone n3 n4
      generalize rRaw 3500 s3.2 = s4 at hone n4
      rw [hone] at hcons hless
      have N1 := Lib.hid n1; clear n1
      have N2 := Lib.hid n2; clear n2
      have N3 := Lib.hid n3; clear n3
      have N4 := Lib.hid n4; clear n4
      have HCO := Lib.hid hcons; clear hcons
      have HLE := Lib.hid hless; clear hless
      clear hone lt1 lt2 lt3
      refine (N1.out _ hR.out).mono ?_
      rintro E w2 ⟨rfl, r2, b2⟩
      have R2 := Lib.hid r2; have B2 := Lib.hid b2; clear r2 b2
      go_wp2_with fail
      refine (N2.out _ R2.out).mono ?_
      rintro E w3 ⟨rfl, r3, b3⟩
      have R3 := Lib.hid r3; have B3 := Lib.hid b3; clear r3 b3
      go_wp2_with fail
      refine (N3.out _ R3.out).mono ?_
      rintro E w4 ⟨rfl, r4, b4⟩
      have R4 := Lib.hid r4; have B4 := Lib.hid b4; clear r4 b4
      go_wp2_with fail
      refine (N4.out _ R4.out).mono ?_
      rintro E w5 ⟨a5, c5, rfl, hc5, o5, r5, b5⟩
      have R5 := Lib.hid r5; have B5 := Lib.hid ((B2.out.trans B3.out).trans (B4.out.trans b5)); clear r5 b5
      obtain ⟨a6, c6, he6, _, hd6, _⟩ := DataM.of_row o5
      cases he6
      have HD6 := Lib.hid hd6; clear hd6 o5
      clear R2 R3 R4 B2 B3 B4 N1 N2 N3 N4
      go_wp2_with (at_builtin; refine Hid.out ?_)
      refine Lib.hid ?_
      obtain ⟨x, hx⟩ : ∃ x : OpD × OpA, x = (⟨(s1.1 : Nat), s2.1, s3.1, s4.1⟩, ⟨a5, c5⟩) := ⟨_, rfl⟩
      have hX2 := Ext.alloc w5 (.cells #[.int .i64 (s1.1 : Nat), .string (bs s2.1), .string (bs s3.1), .slice a5 s4.1.length c5] 32)
      have hb2 := heap_alloc_new w5 (.cells #[.int .i64 (s1.1 : Nat), .string (bs s2.1), .string (bs s3.1), .slice a5 s4.1.length c5] 32)
      have HX2 := Lib.hid hX2
      have hO2 : OwnOps (w5.alloc (.cells #[.int .i64 (s1.1 : Nat), .string (bs s2.1), .string (bs s3.1), .slice a5 s4.1.length c5] 32)) S ad cc X := (hown.out.keep (Keep.of_but B5.out) (by omega) (datas_rd hR.out)).keep (R := R) (Keep.of_ext hX2) (by omega) (datas_rd R5.out)
      have hsz := B5.out.size
      have hSW := hSw.out
      refine wpList_append_own _ rfl _ _ 63 rfl S 32 i0 (.agg #[.int .i64 0, .string ⟨#[]⟩, .string ⟨#[]⟩, .slice none 0 0]) 4 64 Tryz.underlying63 HI.out HZ.out HSS.out HBY.out rfl (by decide) (.slice ad X.length cc) X.length (X.flatMap opV) rfl hO2.1 ⟨w5.heap.size, 0, none⟩ 1 1 (opV x) (by first | rfl | skip) (by rw [hx]; rfl) (blk_plain (by rw [hx]; exact hb2)) (fun u hu => opV_one [x] u (by simpa using hu)) (by unfold maxLen; omega) (by omega) (by rw [World.size_alloc]; omega) ?_
      intro v' w7 hown7 hgrow hnil
      obtain ⟨a', c', rfl, hcc, _, _⟩ := run_of_row hown7
      have hO7 := hO2.app (x := x) (by rw [hx]; exact HD6.out.keep (S := fun _ => True) (Keep.of_ext hX2) (datas_all _)) hown7 hgrow
      have hob : ∀ g, (Value.slice ad X.length cc).ownBlock = some g → S ≤ g := fun g e => (World.ownsRow.lt hO2.1 g e).1
      have hR7 := (R5.out.ext hX2).keep (Keep.of_grown hgrow) (fun e => by have := hob R e.symm; omega) (fun g _ hg e => by have := hob g e.symm; have := hg.2; omega)
      have hk7 : Keep (fun k => k ≠ R ∧ k < S) w1 w7 := hkp.out.trans (((Keep.of_but B5.out).mono (fun k _ hk => hk.1)).trans ((Keep.of_ext hX2).trans ((Keep.of_grown hgrow).mono (fun k _ hk e => by have := hob k e.symm; have := hk.2; omega))))
      have HO7 := Lib.hid hO7
      have HR7 := Lib.hid hR7
      have HK7 := Lib.hid hk7
      have HSW7 : Hid (S ≤ w7.heap.size) := Lib.hid (by have := hgrow.size; have := hX2.size; omega)
      clear hown7 hgrow hnil hO7 hob hR7 hk7 hO2 hb2 hX2 HX2 hSW hsz
      go_wp2_with fail
      go_roundg s4.2.1.length
      case measure => have h1 := HLE.out; have h2 := hgk.out; omega
      case rel =>
        refine ⟨X ++ [x], a', c', s4.2, by simp, Lib.hid rfl, Lib.hid ⟨?_, ?_⟩, Lib.hid ?_, HO7, HR7, HK7, HSW7⟩
        · rw [hrd.out.1, HCO.out, hx]; simp
        · rw [hrd.out.2, HCO.out]
        · have h1 := hdn.out
          have h2 := HLE.out
          simp only [List.length_append, List.length_cons, List.length_nil] at h2 ⊢
          omega
    · have hs0 : s.1.length = 0 := by omega
      have hE := hrd.out
      rw [rEach_nil oneOp hs0, List.append_nil, HE0.out] at hE
      have HEM := Lib.hid hE; clear hE hs0
      have herr := rd_err _ _ _ _ hR.out
      have hdd : rDone s = rDone (unpackL l).2 := by unfold unpackL; rw [HEM.out.2]
      rw [hdd] at herr
      have hxt : Ext w wr := ((Keep.of_ext (S := fun j => j < w.heap.size) HX1.out).trans (hkp.out.mono (fun j _ (hj : j < w.heap.size) => by have := HS.out.2; refine ⟨?_, ?_⟩ <;> omega))).ext_lt
      have HXT := Lib.hid hxt; clear hxt hdd
      have HERR := Lib.hid herr; clear herr
      by_cases hdo : rDone (unpackL l).2 = true
      · rw [if_pos hdo] at HERR
        have HDO := Lib.hid hdo; clear hdo
        go_wp2_with (first | (go_at_call 43; refine HM.out.mono ?_; rintro e w2 ⟨rfl, rfl⟩) | (go_at_call 70; refine HERR.out.mono ?_; rintro e w2 ⟨rfl, rfl⟩))
        rw [HQ.out]
        refine ⟨?_, HXT.out⟩
        rw [if_pos HDO.out]
        exact ⟨ad, cc, X, rfl, HEM.out.1.symm, hown.out.ops⟩
      · rw [if_neg hdo] at HERR
        have HDO := Lib.hid hdo; clear hdo
        go_wp2_with (first | (go_at_call 43; refine HM.out.mono ?_; rintro e w2 ⟨rfl, rfl⟩) | (go_at_call 70; refine HERR.out.mono ?_; rintro e w2 ⟨rfl, rfl⟩))
        rw [HQ.out]
        refine ⟨?_, HXT.out⟩
        rw [if_neg HDO.out]
        rfl
end Go.Proofs.YtlpjmkkinlcbnaaGreatDoor
namespace Go.Proofs.YtlpjmkkinlcbnaaGreatDoor
open Go.RowKit
variable [Low]
/-- Rows of bytes in a row of slices. -/
def rowV (z : List UInt8 × OpA) : List Value := [.slice z.2.oa z.1.length z.2.oc]
def RowsM (w : World) (base : Nat) (a : Option Addr) (c : Nat) (D : List (List UInt8)) : Prop :=
  ∃ Z : List (List UInt8 × OpA), Z.map Prod.fst = D ∧ w.ownsRow base 22 1 (.slice a D.length c) D.length (Z.flatMap rowV) ∧ ∀ z ∈ Z, DataM w z.2.oa z.1 ∧ z.1.length ≤ z.2.oc
omit [Low] in
theorem RowsM.nil (w : World) (base : Nat) : RowsM w base none 0 [] := ⟨[], rfl, World.ownsRow_nil _ _ _ _, fun z hz => by cases hz⟩
omit [Low] in
theorem RowsM.keep {S : Nat → Prop} {w w' : World} {base : Nat} {a : Option Addr} {c : Nat} {D : List (List UInt8)} (h : RowsM w base a c D) (k : Keep S w w') (hD : Datas S w) (hS : ∀ g cs fr, w.heap[g]? = some (.cells cs 22 fr) → S g) : RowsM w' base a c D := by
  obtain ⟨Z, h1, h2, h3⟩ := h
  exact ⟨Z, h1, ownsRow_keep h2 k (fun g cur _ _ hg => hS g cur _ hg), fun z hz => ⟨(h3 z hz).1.keep k hD, (h3 z hz).2⟩⟩
omit [Low] in
theorem RowsM.ext {w w' : World} {base : Nat} {a : Option Addr} {c : Nat} {D : List (List UInt8)} (h : RowsM w base a c D) (k : Ext w w') : RowsM w' base a c D :=
  h.keep (Keep.of_ext (S := fun _ => True) k) (datas_all w) (fun _ _ _ _ => trivial)
theorem RowsM.keepT {ts : List TypeId} {w w' : World} {base : Nat} {a : Option Addr} {c : Nat} {D : List (List UInt8)} (h : RowsM w base a c D) (k : KeepT ts w w') (h1 : 5 ∉ ts) (h2 : 22 ∉ ts) : RowsM w' base a c D :=
  h.keep k (KeepT.datas h1) (fun _ _ _ hg => notTy_of hg h2)
omit [Low] in
theorem rowV_one (Z : List (List UInt8 × OpA)) : ∀ u ∈ Z.flatMap rowV, u.oneCell' = true := by
  intro u hu
  obtain ⟨x, _, hx⟩ := List.mem_flatMap.1 hu
  rw [List.mem_singleton.1 hx]; rfl
omit [Low] in
/-- Behind an append of one. -/
theorem rows_app {w w3 : World} {base : Nat} {a a' : Option Addr} {c c' : Nat} {D : List (List UInt8)} {Z : List (List UInt8 × OpA)} {l : List UInt8} {o : OpA} (hZ : Z.map Prod.fst = D) (hr : w.ownsRow base 22 1 (.slice a D.length c) D.length (Z.flatMap rowV)) (hz : ∀ z ∈ Z, DataM w z.2.oa z.1 ∧ z.1.length ≤ z.2.oc) (hx : DataM w o.oa l) (hlc : l.length ≤ o.oc)
    (hown : w3.ownsRow base 22 1 (.slice a' (D.length + 1) c') (D.length + 1) (Z.flatMap rowV ++ [.slice o.oa l.length o.oc])) (hk : Keep (fun k => some k ≠ (Value.slice a D.length c).ownBlock) w w3) : RowsM w3 base a' c' (D ++ [l]) := by
  have hD := datas_row hr (by decide)
  refine ⟨Z ++ [(l, o)], by rw [List.map_append, hZ]; rfl, ?_, fun z hzm => ?_⟩
  · rw [List.length_append, List.flatMap_append]
    exact hown
  · rcases List.mem_append.1 hzm with hzm | hzm
    · exact ⟨(hz z hzm).1.keep hk hD, (hz z hzm).2⟩
    · rw [List.mem_singleton.1 hzm]; exact ⟨hx.keep hk hD, hlc⟩
def logV (db : Nat) (L : LogD) (la : Option Addr) (lc : Nat) : Array Value := #[.pointer (some ⟨db, 0, none⟩), .int .i64 (L.epoch : Int), .int .i64 (L.top : Int), .int .i64 (L.half : Int), .int .i64 (L.off : Int), .slice la L.list.length lc, .bool false]
structure LogC (w : World) (lb db kb n : Nat) (img : Img) (C : List (Nat × List UInt8)) (L : LogD) : Prop where
  top : ∃ la lc, w.heap[lb]? = some (.cells (logV db L la lc) 81 (0, 0)) ∧ RowsM w Low.low la lc L.list
  disk : DiskC w db kb n img C
  low : Low.low ≤ lb
def LogM (w : World) (lb db kb n : Nat) (img : Img) (L : LogD) : Prop := LogC w lb db kb n img [] L
def logT : List TypeId := [54, 83, 117, 81, 22]
omit [Low] in
theorem disk_log : ∀ t ∈ diskT, t ∈ logT := by decide
theorem LogC.keepT {ts : List TypeId} {w w' : World} {lb db kb n : Nat} {img : Img} {C : List (Nat × List UInt8)} {L : LogD} (h : LogC w lb db kb n img C L) (k : KeepT ts w w') (h1 : ∀ t ∈ logT, t ∉ ts) (h2 : 5 ∉ ts) : LogC w' lb db kb n img C L := by
  obtain ⟨⟨la, lc, ht, hr⟩, hd, hl⟩ := h
  exact ⟨⟨la, lc, k.heap ht (h1 _ (by decide)), hr.keepT k h2 (h1 _ (by decide))⟩, hd.keepT k (fun t ht => h1 t (disk_log t ht)), hl⟩
theorem LogC.ext {w w' : World} {lb db kb n : Nat} {img : Img} {C : List (Nat × List UInt8)} {L : LogD} (h : LogC w lb db kb n img C L) (k : Ext w w') : LogC w' lb db kb n img C L := by
  obtain ⟨⟨la, lc, ht, hr⟩, hd, hl⟩ := h
  exact ⟨⟨la, lc, k.heap ht, hr.ext k⟩, hd.ext k, hl⟩
section
variable {w : World} {lb db kb n : Nat} {img : Img} {C : List (Nat × List UInt8)} {L : LogD}
theorem log_half (h : DiskC w db kb n img C) (h2 : 2 ≤ n) :
    Calls Tryz.prog 53 #[.pointer (some ⟨db, 0, none⟩)] w fun e w' => e = .returned (.int .i64 (halfN n : Nat)) ∧ w = w' := by
  have hl := disk_Len h
  have hs := h.size
  have HLN := Lib.hid hl; clear hl h
  obtain ⟨Q, hQ⟩ : ∃ Q : Ending → World → Prop, Q = fun e w' => e = .returned (.int .i64 (halfN n : Nat)) ∧ w = w' := ⟨_, rfl⟩
  rw [← hQ]
  have HQ := Lib.hid hQ; clear hQ
  go_enter Tryz.func53, Tryz.ntmps53
  go_wp2_with (go_at_call 33; refine HLN.out.mono ?_; rintro e w1 ⟨rfl, rfl⟩)
  rw [HQ.out]
  refine ⟨?_, rfl⟩
  have e : ((n : Int) - 2) / 2 = ((halfN n : Nat) : Int) := by unfold halfN; omega
  show Ending.returned (.int .i64 (((n : Int) - 2) / 2)) = _
  rw [e]
omit [Low] in
theorem log_sectors (k : Nat) (hk : k ≤ 1000000) :
    Calls Tryz.prog 52 #[.int .i64 k] w fun e w' => e = .returned (.int .i64 (secN k : Nat)) ∧ w = w' := by
  obtain ⟨Q, hQ⟩ : ∃ Q : Ending → World → Prop, Q = fun e w' => e = .returned (.int .i64 (secN k : Nat)) ∧ w = w' := ⟨_, rfl⟩
  rw [← hQ]
  have HQ := Lib.hid hQ; clear hQ
  go_enter Tryz.func52, Tryz.ntmps52
  go_wp2_with fail
  rw [HQ.out]
  refine ⟨?_, rfl⟩
  have e : (16 + (k : Int) + 63 - 1) / 63 = ((secN k : Nat) : Int) := by unfold secN; omega
  show Ending.returned (.int .i64 ((16 + (k : Int) + 63 - 1) / 63)) = _
  rw [e]
end
end Go.Proofs.YtlpjmkkinlcbnaaGreatDoor
namespace Go.Proofs.YtlpjmkkinlcbnaaGreatDoor
open Go.RowKit
open Classical in
noncomputable def reapT (T : TreeD) (i : Int) : TreeD := if i ∈ T.ids ∧ (T.node i).links = 0 then delT T i else T
noncomputable def reapsT (T : TreeD) (X : List Int) : TreeD := X.foldl reapT T
theorem reapsT_take (T : TreeD) {X : List Int} {k : Nat} (hk : k < X.length) : reapsT T (X.take (k + 1)) = reapT (reapsT T (X.take k)) (X.getD k 0) := by
  unfold reapsT
  rw [List.take_succ_eq_append_getElem hk, List.foldl_append]
  simp [List.getD_eq_getElem?_getD, List.getElem?_eq_getElem hk]
theorem blk_of_cell {w : World} {g o : Nat} {v : Value} (h : w.cell? ⟨g, o, none⟩ = some v) : ∃ cs t fr, w.heap[g]? = some (.cells cs t fr) := by
  unfold World.cell? at h
  cases hg : w.heap[g]? with
  | none => simp [hg] at h
  | some ob =>
    cases ob with
    | cells cs t fr => exact ⟨cs, t, fr, rfl⟩
    | _ => simp [hg] at h
theorem runM_keepm {b : Nat} {w w' : World} {a : Option Addr} {us : List Value} (h : RunM w a us) (k : Keep (· ≠ b) w w') {es : Array MapEntry} {cl : Nat} (hb : w.heap[b]? = some (.map es cl)) : RunM w' a us := by
  rcases h with h | ⟨g, off, ha, hg, hc⟩
  · exact Or.inl h
  · cases us with
    | nil => exact Or.inl rfl
    | cons u us =>
      obtain ⟨cs, t, fr, hgc⟩ := blk_of_cell (hc 0 u rfl)
      have hne : g ≠ b := fun e => by rw [e, hb] at hgc; cases hgc
      exact Or.inr ⟨g, off, ha, Nat.lt_of_lt_of_le hg k.size, fun j u hj => k.cell hne (hc j u hj)⟩
theorem getD_memI {X : List Int} {k : Nat} (hk : k < X.length) : X.getD k 0 ∈ X := by
  have e : X.getD k 0 = X[k] := by simp [List.getD_eq_getElem?_getD, List.getElem?_eq_getElem hk]
  rw [e]; exact List.getElem_mem hk
theorem int_bne0 {a : Int} (h : a ≠ 0) : (a == 0) = false := by simp [h]
section
variable {base tb mb N L : Nat} {T : TreeD} {A : Int → NodeA}
theorem TreeM.look_none {w : World} (h : TreeM w base tb mb N T A) {i : Int} (hi : i ∉ T.ids) (h1 : -9223372036854775808 ≤ i) (h2 : i ≤ 9223372036854775807) :
    (Instr.lookup 70 (.map (some mb)) (.int .i64 i) false).run Tryz.prog w = .ok (.pointer none) w := by
  rw [h.map.lookup int_keyedA Tryz.underlying70 (Tryz.zeroValue73 w) (key_int h1 h2)]
  unfold nodeF
  rw [if_neg hi]
  rfl
set_option maxRecDepth 100000 in
set_option maxHeartbeats 6400000 in
theorem tree_Reap (X : List Int) (ra : Option Addr) (rc : Nat) (w : World) (hT : TreeM w base tb mb N T A) (hX : RunM w ra (intV X)) (hr : ∀ x ∈ X, -9223372036854775808 ≤ x ∧ x ≤ 9223372036854775807) (hl : X.length ≤ 1099511627776) :
    Calls Tryz.prog 49 #[.pointer (some ⟨tb, 0, none⟩), .slice ra X.length rc] w fun e w' => e = .returned (.tuple #[]) ∧ TreeM w' base tb mb N (reapsT T X) A ∧ Keep (· ≠ mb) w w' := by
  obtain ⟨R, hR⟩ : ∃ R : Ending → World → Prop, R = fun e w' => e = .returned (.tuple #[]) ∧ TreeM w' base tb mb N (reapsT T X) A ∧ Keep (· ≠ mb) w w' := ⟨_, rfl⟩
  rw [← hR]
  have HR := Lib.hid hR; clear hR
  have HT := Lib.hid hT; clear hT
  have HXM := Lib.hid hX; clear hX
  have HRG := Lib.hid hr; clear hr
  obtain ⟨n, hn⟩ : ∃ n, n = X.length := ⟨_, rfl⟩
  rw [← hn] at hl ⊢
  have HN := Lib.hid hn; clear hn
  go_enter Tryz.func49, Tryz.ntmps49
  go_wp2_with fail
  go_loopw [9] (fun i wr => ∃ k : Nat, i = .int .i64 k ∧ k ≤ n ∧ Hid (TreeM wr base tb mb N (reapsT T (X.take k)) A) ∧ Hid (RunM wr ra (intV X)) ∧ Hid (Keep (· ≠ mb) w wr)) (fun i _ => n - (intOf i).toNat)
  case atStart => exact ⟨0, rfl, Nat.zero_le _, HT, HXM, Lib.hid (Keep.refl _ _)⟩
  case round =>
    clear HT HXM
    obtain ⟨k, rfl, hk, HT, HXM, HK⟩ := hrel
    by_cases hlt : k < n
    · have hkL : k < X.length := by have := HN.out; omega
      have hst := reapsT_take T hkL
      have hxr := HRG.out _ (getD_memI hkL)
      have HST := Lib.hid hst; clear hst
      have hce : ∃ g off, ra = some ⟨g, off, none⟩ ∧ wr.cell? ⟨g, off + k, none⟩ = some (.int .i64 (X.getD k 0)) := by
        rcases HXM.out with h | ⟨g, off, ha, _, hc⟩
        · have : X = [] := by unfold intV at h; simpa using h
          rw [this] at hkL; simp at hkL
        · refine ⟨g, off, ha, hc k _ ?_⟩
          unfold intV
          rw [List.getElem?_map, List.getElem?_eq_getElem hkL]
          simp [List.getD_eq_getElem?_getD, List.getElem?_eq_getElem hkL]
      obtain ⟨g, off, rfl, c0⟩ := hce
      generalize X.getD k 0 = x at c0 hxr HST
      generalize reapsT T (X.take k) = U at HT HST
      have c1 := blk_cell HT.out.top 0 (Value.map (some mb)) rfl
      by_cases hx : x ∈ U.ids
      · have hlk := HT.out.look hx hxr.1 hxr.2
        have c2 := blk_cell (HT.out.node x hx).1 1 (Value.int .i64 (U.node x).links) rfl
        have HXU := Lib.hid hx; clear hx
        by_cases h0 : (U.node x).links = 0
        · have hrp : reapT U x = delT U x := by unfold reapT; rw [if_pos ⟨HXU.out, h0⟩]
          have HRP := Lib.hid hrp; clear hrp
          rw [h0] at c2
          have hki := key_int hxr.1 hxr.2
          go_wp2_with (at_delete; refine wpList_delete_F rfl _ _ 70 rfl 73 int_keyedA Tryz.underlying70 mb N _ rfl HT.out.map keyI_inj _ x rfl hki ?_; intro w5 hm5 hk5; go_frame)
          have hT5 := HT.out.del x hk5 hm5
          obtain ⟨es, cl, hmb⟩ := HT.out.map.block
          have hX5 := runM_keepm HXM.out hk5 hmb
          have HT5 := Lib.hid hT5
          have HX5 := Lib.hid hX5
          have HK5 := Lib.hid (HK.out.andThen hk5 (fun j _ hj => hj))
          clear hm5 hk5 hT5 hX5 hmb
          go_roundw
          case rel => exact ⟨k + 1, by go_num, by omega, Lib.hid (by rw [HST.out, HRP.out]; exact HT5.out), HX5, HK5⟩
          case measure => simp [intOf]; omega
        · have hrp : reapT U x = U := by unfold reapT; rw [if_neg (fun e => h0 e.2)]
          have HRP := Lib.hid hrp; clear hrp
          have hb := int_bne0 h0
          go_wp2_with fail
          go_roundw
          case rel => exact ⟨k + 1, by go_num, by omega, Lib.hid (by rw [HST.out, HRP.out]; exact HT.out), HXM, HK⟩
          case measure => simp [intOf]; omega
      · have hlk := HT.out.look_none hx hxr.1 hxr.2
        have hrp : reapT U x = U := by unfold reapT; rw [if_neg (fun e => hx e.1)]
        have HRP := Lib.hid hrp; clear hrp hx
        go_wp2_with fail
        go_roundw
        case rel => exact ⟨k + 1, by go_num, by omega, Lib.hid (by rw [HST.out, HRP.out]; exact HT.out), HXM, HK⟩
        case measure => simp [intOf]; omega
    · have hXE : X.take k = X := List.take_of_length_le (by have := HN.out; omega)
      have HXE := Lib.hid hXE; clear hXE
      go_wp2_with fail
      go_end0
      rw [HR.out]
      refine ⟨rfl, ?_, HK.out⟩
      have := HT.out
      rwa [HXE.out] at this
end
end Go.Proofs.YtlpjmkkinlcbnaaGreatDoor
namespace Go.Proofs.YtlpjmkkinlcbnaaGreatDoor
open Go.RowKit
variable [Low]
theorem TreeM.keepT {ts : List TypeId} {w w' : World} {base tb mb K : Nat} {T : TreeD} {A : Int → NodeA} (h : TreeM w base tb mb K T A) (k : KeepT ts w w') (h1 : 5 ∉ ts) (h2 : 72 ∉ ts) (h3 : 76 ∉ ts) : TreeM w' base tb mb K T A := by
  obtain ⟨es, cl, hm⟩ := h.map.block
  refine h.keep k (KeepT.datas h1) (notTy_of h.top h2) (notTy_map hm) fun i hi => ⟨notTy_of (h.node i hi).1 h3, fun b hb => ?_⟩
  obtain ⟨es, cl, hg⟩ := (h.node i hi).2.2.2.block hb
  exact notTy_map hg
/-- All blocks of cells stand. -/
theorem LogC.keepC {S : Nat → Prop} {w w' : World} {lb db kb n : Nat} {img : Img} {C : List (Nat × List UInt8)} {L : LogD} (h : LogC w lb db kb n img C L) (k : Keep S w w') (hS : ∀ g cs t fr, w.heap[g]? = some (.cells cs t fr) → S g) : LogC w' lb db kb n img C L := by
  obtain ⟨⟨la, lc, ht, hr⟩, hd, hl⟩ := h
  exact ⟨⟨la, lc, k.heap (hS _ _ _ _ ht) ht, hr.keep k (fun g cs fr hg => hS g cs _ fr hg) (fun g cs fr hg => hS g cs _ fr hg)⟩, hd.keep k fun g cs t fr hg _ => hS g cs t fr hg, hl⟩
/-- What is kept: the tree, the log, what lies on the disk; which files are held, and how often. -/
structure VolD where
  T : TreeD
  L : LogD
  img : Img
  q : Int
  hd : Int → Option Nat
def heldV (hd : Int → Option Nat) : Int → Option Value := fun i => (hd i).map fun (k : Nat) => .int .i64 (k : Int)
def heldN (hd : Int → Option Nat) (i : Int) : Nat := (hd i).getD 0
def volV (tb lb hb : Nat) (q : Int) : Array Value := #[.pointer (some ⟨tb, 0, none⟩), .pointer (some ⟨lb, 0, none⟩), .int .i64 q, .map (some hb), .bool false]
/-- A volume in memory: its blocks; maps that are none of its own. -/
structure VolB (X : Nat → Prop) (w : World) (vb db kb n N tb lb hb mb : Nat) (A : Int → NodeA) (V : VolD) : Prop where
  top : w.heap[vb]? = some (.cells (volV tb lb hb V.q) 40 (0, 0))
  tree : TreeM w Low.low tb mb N V.T A
  log : LogM w lb db kb n V.img V.L
  held : MapF keyI w 3 hb N (heldV V.hd)
  ne : hb ≠ mb ∧ ∀ i ∈ V.T.ids, (A i).kb ≠ some hb
  good : GoodT V.T
  fit : FitT V.T N
  glog : GoodLog n V.img V.L
  out : ¬ X hb ∧ ¬ X mb ∧ ∀ g, X g → g < w.heap.size
  lows : Low.low ≤ vb ∧ Low.low ≤ hb
def VolM (X : Nat → Prop) (w : World) (vb db kb n N : Nat) (V : VolD) : Prop := ∃ tb lb hb mb A, VolB X w vb db kb n N tb lb hb mb A V
/-- What is left as it was: blocks of cells of other types, and some maps. -/
def CellX (ts : List TypeId) (X : Nat → Prop) (w : World) (g : Nat) : Prop := g < Low.low ∨ (X g ∧ ∃ es cl, w.heap[g]? = some (.map es cl)) ∨ ∃ cs t fr, w.heap[g]? = some (.cells cs t fr) ∧ t ∉ ts
def KeepX (ts : List TypeId) (X : Nat → Prop) (w w' : World) : Prop := Keep (CellX ts X w) w w'
theorem CellX.keep {ts : List TypeId} {X : Nat → Prop} {a b : World} {g : Nat} (h : CellX ts X a g) (k : KeepX ts X a b) : CellX ts X b g := by
  rcases h with hl | ⟨hx, es, cl, hg⟩ | ⟨cs, t, fr, hg, ht⟩
  · exact Or.inl hl
  · exact Or.inr (Or.inl ⟨hx, es, cl, Keep.heap k (Or.inr (Or.inl ⟨hx, es, cl, hg⟩)) hg⟩)
  · exact Or.inr (Or.inr ⟨cs, t, fr, Keep.heap k (Or.inr (Or.inr ⟨cs, t, fr, hg, ht⟩)) hg, ht⟩)
theorem KeepX.refl (ts : List TypeId) (X : Nat → Prop) (w : World) : KeepX ts X w w := Keep.refl _ _
theorem KeepX.trans {ts : List TypeId} {X : Nat → Prop} {a b c : World} (h : KeepX ts X a b) (k : KeepX ts X b c) : KeepX ts X a c :=
  ⟨k.os.trans h.os, k.tape.trans h.tape, k.output.trans h.output, Nat.le_trans h.size k.size, fun i hi hn => (k.block i (Nat.lt_of_lt_of_le hi h.size) (hn.keep h)).trans (h.block i hi hn)⟩
theorem KeepX.of_ext {ts : List TypeId} {X : Nat → Prop} {a b : World} (h : Ext a b) : KeepX ts X a b := Keep.of_ext h
theorem KeepX.of_keepT {ts us : List TypeId} {X : Nat → Prop} {a b : World} (h : KeepT us a b) (hs : us ⊆ ts) : KeepX ts X a b :=
  Keep.mono h fun g _ hg => by
    rcases hg with hl | ⟨_, es, cl, hg⟩ | ⟨cs, t, fr, hg, ht⟩
    · exact Or.inl hl
    · exact notTy_map hg
    · exact notTy_of hg fun e => ht (hs e)
theorem KeepX.of_map {ts : List TypeId} {X : Nat → Prop} {a b : World} {m : Nat} {es : Array MapEntry} {cl : Nat} (h : Keep (· ≠ m) a b) (hl : Low.low ≤ m) (hx : ¬ X m) (hm : a.heap[m]? = some (.map es cl)) : KeepX ts X a b :=
  Keep.mono h fun g _ hg e => by
    have e : g = m := e
    subst e
    rcases hg with hg | ⟨hg, _⟩ | ⟨cs, t, fr, hg, _⟩
    · omega
    · exact hx hg
    · rw [hm] at hg; cases hg
theorem KeepX.of_cells {ts : List TypeId} {X : Nat → Prop} {a b : World} {m : Nat} {cs : Array Value} {t : TypeId} {fr : Nat × Nat} (h : Keep (· ≠ m) a b) (hm : a.heap[m]? = some (.cells cs t fr)) (ht : t ∈ ts) (hl : Low.low ≤ m) : KeepX ts X a b :=
  Keep.mono h fun g _ hg e => by
    have e : g = m := e
    subst e
    rcases hg with hg | ⟨_, es, cl, hg⟩ | ⟨cs, t', fr', hg, ht'⟩
    · omega
    · rw [hm] at hg; cases hg
    · rw [hm] at hg
      injection (Option.some.inj hg) with _ h3
      exact ht' (h3 ▸ ht)
theorem KeepX.mono {ts us : List TypeId} {X Y : Nat → Prop} {a b : World} (h : KeepX ts X a b) (hs : ts ⊆ us) (hx : ∀ g, Y g → X g) : KeepX us Y a b :=
  Keep.mono h fun g _ hg => hg.imp id fun hg => hg.imp (fun ⟨h1, h2⟩ => ⟨hx g h1, h2⟩) fun ⟨cs, t, fr, h1, h2⟩ => ⟨cs, t, fr, h1, fun e => h2 (hs e)⟩
theorem KeepX.heap {ts : List TypeId} {X : Nat → Prop} {a b : World} (h : KeepX ts X a b) {g : Nat} {cs : Array Value} {t : TypeId} {fr : Nat × Nat} (hg : a.heap[g]? = some (.cells cs t fr)) (ht : t ∉ ts) : b.heap[g]? = some (.cells cs t fr) :=
  Keep.heap h (Or.inr (Or.inr ⟨cs, t, fr, hg, ht⟩)) hg
theorem KeepX.map {ts : List TypeId} {X : Nat → Prop} {a b : World} (h : KeepX ts X a b) {g : Nat} {es : Array MapEntry} {cl : Nat} (hg : a.heap[g]? = some (.map es cl)) (hx : X g) : b.heap[g]? = some (.map es cl) :=
  Keep.heap h (Or.inr (Or.inl ⟨hx, es, cl, hg⟩)) hg
/-- What a volume's functions turn. -/
def volT : List TypeId := [40, 72, 54, 83, 117, 81, 22]
omit [Low] in
theorem logT_vol : ∀ t ∈ logT, t ∈ volT := by decide
def KeepY (X : Nat → Prop) (w w' : World) : Prop := KeepX volT X w w'
theorem KeepY.refl (X : Nat → Prop) (w : World) : KeepY X w w := KeepX.refl _ _ _
theorem KeepY.trans {X : Nat → Prop} {a b c : World} (h : KeepY X a b) (k : KeepY X b c) : KeepY X a c := KeepX.trans h k
theorem KeepY.of_ext {X : Nat → Prop} {a b : World} (h : Ext a b) : KeepY X a b := KeepX.of_ext h
theorem KeepY.of_keepT {ts : List TypeId} {X : Nat → Prop} {a b : World} (h : KeepT ts a b) (hs : ts ⊆ volT) : KeepY X a b := KeepX.of_keepT h hs
theorem KeepY.of_map {X : Nat → Prop} {a b : World} {m : Nat} {es : Array MapEntry} {cl : Nat} (h : Keep (· ≠ m) a b) (hl : Low.low ≤ m) (hx : ¬ X m) (hm : a.heap[m]? = some (.map es cl)) : KeepY X a b := KeepX.of_map h hl hx hm
/-- What lies below stands. -/
theorem KeepY.low {X : Nat → Prop} {a b : World} (h : KeepY X a b) (hl : Low.low = a.heap.size) : Ext a b := (Keep.mono h (T := fun j => j < a.heap.size) fun g _ hg => Or.inl (by have hg : g < a.heap.size := hg; omega)).ext_lt
theorem KeepX.datas {ts : List TypeId} (X : Nat → Prop) (w : World) (h : 5 ∉ ts) : Datas (CellX ts X w) w := fun _ cs fr hg => Or.inr (Or.inr ⟨cs, _, fr, hg, h⟩)
theorem DataM.keepX {ts : List TypeId} {X : Nat → Prop} {w w' : World} {a : Option Addr} {l : By} (h : DataM w a l) (k : KeepX ts X w w') (ht : 5 ∉ ts) : DataM w' a l := h.keep k (KeepX.datas X w ht)
theorem DataM.keepY {X : Nat → Prop} {w w' : World} {a : Option Addr} {l : By} (h : DataM w a l) (k : KeepY X w w') : DataM w' a l := h.keepX k (by decide)
theorem Env.keepX {ts : List TypeId} {X : Nat → Prop} {w w' : World} (h : Env w) (k : KeepX ts X w w') (ht : 3 ∉ ts) : Env w' := by
  obtain ⟨m, cs, hh, hc⟩ := h.word
  exact ⟨m, cs, k.heap hh ht, hc⟩
theorem Env.keepY {X : Nat → Prop} {w w' : World} (h : Env w) (k : KeepY X w w') : Env w' := h.keepX k (by decide)
section
variable {X : Nat → Prop} {w w' : World} {vb db kb n N tb lb hb mb : Nat} {A : Int → NodeA} {V : VolD}
theorem VolB.ext (h : VolB X w vb db kb n N tb lb hb mb A V) (k : Ext w w') : VolB X w' vb db kb n N tb lb hb mb A V :=
  ⟨k.heap h.top, h.tree.ext k, h.log.ext k, h.held.ext k, h.ne, h.good, h.fit, h.glog, ⟨h.out.1, h.out.2.1, fun g hg => Nat.lt_of_lt_of_le (h.out.2.2 g hg) k.size⟩, h.lows⟩
theorem VolB.mono (h : VolB X w vb db kb n N tb lb hb mb A V) {M : Nat} (hM : N ≤ M) : VolB X w vb db kb n M tb lb hb mb A V :=
  ⟨h.top, h.tree.mono hM, h.log, h.held.mono hM, h.ne, h.good, h.fit.mono hM, h.glog, h.out, h.lows⟩
theorem VolM.ext (h : VolM X w vb db kb n N V) (k : Ext w w') : VolM X w' vb db kb n N V := by
  obtain ⟨tb, lb, hb, mb, A, h⟩ := h
  exact ⟨tb, lb, hb, mb, A, h.ext k⟩
/-- The map of what is held is turned. -/
theorem VolB.set_held (h : VolB X w vb db kb n N tb lb hb mb A V) (k : Keep (· ≠ hb) w w') {f : Int → Option Nat} {M : Nat} (hM : N ≤ M) (hm : MapF keyI w' 3 hb M (heldV f)) : VolB X w' vb db kb n M tb lb hb mb A { V with hd := f } := by
  obtain ⟨es, cl, hg⟩ := h.held.block
  have hc : ∀ g cs t fr, w.heap[g]? = some (.cells cs t fr) → g ≠ hb := fun g cs t fr hh e => by rw [e, hg] at hh; cases hh
  refine ⟨k.heap (hc _ _ _ _ h.top) h.top, (h.tree.mono hM).keep k (datas_map hg) (hc _ _ _ _ h.tree.top) (fun e => h.ne.1 e.symm) (fun i hi => ⟨hc _ _ _ _ (h.tree.node i hi).1, fun b hb e => h.ne.2 i hi (by rw [hb, e])⟩), ?_, hm, h.ne, h.good, h.fit.mono hM, h.glog, ⟨h.out.1, h.out.2.1, fun g hg => Nat.lt_of_lt_of_le (h.out.2.2 g hg) k.size⟩, h.lows⟩
  exact h.log.keepC k fun g cs t fr hh => hc g cs t fr hh
theorem VolM.mono (h : VolM X w vb db kb n N V) {M : Nat} (hM : N ≤ M) : VolM X w vb db kb n M V := by
  obtain ⟨tb, lb, hb, mb, A, h⟩ := h
  exact ⟨tb, lb, hb, mb, A, h.mono hM⟩
/-- A new map is none of the volume's own. -/
theorem VolM.more (h : VolM X w vb db kb n N V) (k : Ext w w') {Y : Nat → Prop} (hY : ∀ g, Y g → X g ∨ (w.heap.size ≤ g ∧ g < w'.heap.size)) : VolM Y w' vb db kb n N V := by
  obtain ⟨tb, lb, hb, mb, A, h⟩ := h
  have h2 := h.ext k
  obtain ⟨es, cl, hg1⟩ := h.held.block
  have hl1 := (Array.getElem?_eq_some_iff.1 hg1).1
  obtain ⟨es2, cl2, hg2⟩ := h.tree.map.block
  have hl2 := (Array.getElem?_eq_some_iff.1 hg2).1
  refine ⟨tb, lb, hb, mb, A, h2.top, h2.tree, h2.log, h2.held, h2.ne, h2.good, h2.fit, h2.glog, ⟨fun hy => ?_, fun hy => ?_, fun g hy => ?_⟩, h2.lows⟩
  · rcases hY _ hy with hx | hx
    · exact h.out.1 hx
    · omega
  · rcases hY _ hy with hx | hx
    · exact h.out.2.1 hx
    · omega
  · rcases hY _ hy with hx | hx
    · exact h2.out.2.2 _ hx
    · exact hx.2
/-- Blocks that are none of the volume's own are turned. -/
theorem VolB.keepT {ts : List TypeId} (h : VolB X w vb db kb n N tb lb hb mb A V) (k : KeepT ts w w') (ht : ∀ t ∈ ts, t ∉ 76 :: 5 :: volT) : VolB X w' vb db kb n N tb lb hb mb A V := by
  have h1 : 5 ∉ ts := fun e => ht _ e (by decide)
  have h2 : 72 ∉ ts := fun e => ht _ e (by decide)
  have h3 : 76 ∉ ts := fun e => ht _ e (by decide)
  have h4 : 40 ∉ ts := fun e => ht _ e (by decide)
  obtain ⟨es, cl, hm⟩ := h.held.block
  refine ⟨k.heap h.top h4, h.tree.keepT k h1 h2 h3, LogC.keepT h.log k (fun t h5 h6 => ht _ h6 (List.mem_cons_of_mem _ (List.mem_cons_of_mem _ (logT_vol t h5)))) h1, h.held.keep k (notTy_map hm), h.ne, h.good, h.fit, h.glog, ⟨h.out.1, h.out.2.1, fun g hg => Nat.lt_of_lt_of_le (h.out.2.2 g hg) k.size⟩, h.lows⟩
theorem VolM.keepT {ts : List TypeId} (h : VolM X w vb db kb n N V) (k : KeepT ts w w') (ht : ∀ t ∈ ts, t ∉ 76 :: 5 :: volT) : VolM X w' vb db kb n N V := by
  obtain ⟨tb, lb, hb, mb, A, h⟩ := h
  exact ⟨tb, lb, hb, mb, A, h.keepT k ht⟩
theorem vol_Held (h : VolM X w vb db kb n N V) (i : Int) (h1 : -9223372036854775808 ≤ i) (h2 : i ≤ 9223372036854775807) :
    Calls Tryz.prog 11 #[.pointer (some ⟨vb, 0, none⟩), .int .i64 i] w fun e w' => e = .returned (.int .i64 (heldN V.hd i : Nat)) ∧ w = w' := by
  obtain ⟨tb, lb, hb, mb, A, h⟩ := h
  have c3 := blk_cell h.top 3 (.map (some hb)) rfl
  have hlk := h.held.lookup int_keyedA Tryz.underlying38 (Tryz.zeroValue3 w) (key_int h1 h2)
  have e : ((heldV V.hd i).getD (.int .i64 0)) = .int .i64 (heldN V.hd i : Nat) := by unfold heldV heldN; cases V.hd i <;> rfl
  rw [e] at hlk
  clear h
  go_enter Tryz.func11, Tryz.ntmps11
  go_wp2_with fail
  all_goals (try go_ret)
  all_goals exact ⟨rfl, rfl⟩
omit [Low] in
theorem heldV_set (hd : Int → Option Nat) (i : Int) (k : Nat) : (fun z => if z = i then some (Value.int .i64 (k : Int)) else heldV hd z) = heldV (fun z => if z = i then some k else hd z) := by
  funext z
  unfold heldV
  by_cases h : z = i
  · simp [h]
  · simp [h]
omit [Low] in
theorem heldV_del (hd : Int → Option Nat) (i : Int) : (fun z => if z = i then none else heldV hd z) = heldV (fun z => if z = i then none else hd z) := by
  funext z
  unfold heldV
  by_cases h : z = i
  · simp [h]
  · simp [h]
/-- A file is held once more. -/
def holdV (V : VolD) (i : Int) : VolD := { V with hd := fun z => if z = i then some (heldN V.hd i + 1) else V.hd z }
set_option maxRecDepth 100000 in
set_option maxHeartbeats 3200000 in
theorem vol_Hold (hE : Env w) (h : VolM X w vb db kb n N V) (p : By) (i : Int) (hi : findT V.T p = i) (h0 : i ≠ 0) (hdir : (V.T.node i).dir = false) (hN : N + 1 ≤ 1000000000) (hk : heldN V.hd i ≤ 1000000) :
    Calls Tryz.prog 9 #[.pointer (some ⟨vb, 0, none⟩), .string (bs p)] w fun e w' => e = .returned (.tuple #[.int .i64 i, .int .i64 0]) ∧ VolM X w' vb db kb n (N + 1) (holdV V i) ∧ KeepY X w w' := by
  obtain ⟨Q, hQ⟩ : ∃ Q : Ending → World → Prop, Q = fun e w' => e = .returned (.tuple #[.int .i64 i, .int .i64 0]) ∧ VolM X w' vb db kb n (N + 1) (holdV V i) ∧ KeepY X w w' := ⟨_, rfl⟩
  rw [← hQ]
  have HQ := Lib.hid hQ; clear hQ
  obtain ⟨tb, lb, hb, mb, A, h⟩ := h
  have hmem := h.good.find_mem (p := p) (by rw [hi]; exact h0)
  rw [hi] at hmem
  have hbd : -9223372036854775808 ≤ i ∧ i ≤ 9223372036854775807 := by
    have h1 := h.good.low i hmem
    have h2 := h.fit.next
    omega
  have hfd := tree_Find p w hE h.tree h.good (by have := h.fit.next; omega)
  have hdr := fun W hx => tree_Dir p W (hE.ext hx) (h.tree.ext hx) h.good (by have := h.fit.next; omega)
  rw [hi] at hfd hdr
  have c0 := blk_cell h.top 0 (.pointer (some ⟨tb, 0, none⟩)) rfl
  have c3 := blk_cell h.top 3 (.map (some hb)) rfl
  have HFD := Lib.hid hfd; have HDR := Lib.hid hdr; have HV := Lib.hid h; have HB := Lib.hid hbd
  clear hfd hdr h
  have ed : decide (i ≠ 0) = true := decide_eq_true h0
  rw [ed] at HFD
  rw [ed, hdir] at HDR
  have hkn : ((heldV V.hd i).getD (.int .i64 0)) = .int .i64 (heldN V.hd i : Nat) := by unfold heldV heldN; cases V.hd i <;> rfl
  have HKN := Lib.hid hkn; clear hkn
  generalize hkk : heldN V.hd i = k at HKN hk
  have HKK := Lib.hid hkk; clear hkk ed
  go_enter Tryz.func9, Tryz.ntmps9
  go_wp2_with (first
    | (go_at_call 28; refine HFD.out.mono ?_; rintro e w1 ⟨rfl, hx1⟩; have c0 := hx1.cell c0; have c3 := hx1.cell c3; have HX1 := Lib.hid hx1; clear hx1)
    | (go_at_call 29; refine (HDR.out _ HX1.out).mono ?_; rintro e w2 ⟨rfl, hx2⟩; have c3 := hx2.cell c3; have HX2 := Lib.hid hx2; have HV2 := Lib.hid (HV.out.ext (HX1.out.trans hx2)); clear hx2)
    | (at_lookup; refine wpList_look_F rfl _ _ 38 rfl 3 int_keyedA Tryz.underlying38 _ (Tryz.zeroValue3 _) hb N (heldV V.hd) rfl HV2.out.held _ i rfl (key_int HB.out.1 HB.out.2) ?_; rw [HKN.out])
    | (at_mapUpdate; refine wpList_store_F rfl _ _ _ 38 rfl 3 int_keyedA Tryz.underlying38 hb N _ rfl HV2.out.held (by unfold maxLen; omega) keyI_inj _ (.int .i64 ((k + 1 : Nat) : Int)) i rfl rfl (key_int HB.out.1 HB.out.2) ?_; intro w3 hm3 hk3))
  rw [HQ.out]
  refine ⟨rfl, ⟨tb, lb, hb, mb, A, ?_⟩, ?_⟩
  · have := HV2.out.set_held (f := fun z => if z = i then some (k + 1) else V.hd z) (M := N + 1) hk3 (by omega) (by rw [← heldV_set]; exact hm3)
    unfold holdV
    rw [HKK.out]
    exact this
  · obtain ⟨es, cl, hg⟩ := HV2.out.held.block
    exact (KeepY.of_ext (HX1.out.trans HX2.out)).trans (KeepY.of_map hk3 HV2.out.lows.2 HV2.out.out.1 hg)
end
end Go.Proofs.YtlpjmkkinlcbnaaGreatDoor
