/- farrierref02.Of: the document's sum of bytes. -/
import Derived.Test.YtnclibfhbngkjaaGreatDoorCrcBits
import Derived.Test.YtnclibfhbngkjaaGreatDoorInts
import Derived.Outline
import Derived.IntWalk
import Derived.Deep.CutBlock
import Derived.RegionTactic
import Derived.BigRegion
namespace Go.Proofs.YtnclibfhbngkjaaGreatDoor
open Go.RowKit
def fT (l : List UInt8) (i : Nat) : Int := (b1 (tbit l i) : Int)
theorem fT_byte (l : List UInt8) (k j : Nat) (hj : j < 8) : ((l.getD k 0).toNat : Int) / 2 ^ j % 2 = fT l (8 * k + j) := by
  unfold fT tbit
  rw [show (8 * k + j) / 8 = k by omega, show (8 * k + j) % 8 = j by omega]
  generalize (l.getD k 0).toNat = x
  rw [Nat.testBit_eq_decide_div_mod_eq]
  have e : ((x : Int) / 2 ^ j % 2) = ((x / 2 ^ j % 2 : Nat) : Int) := by push_cast; rfl
  rw [e]
  congr 1
  unfold b1
  by_cases h : x / 2 ^ j % 2 = 1
  · rw [h]; rfl
  · rw [show x / 2 ^ j % 2 = 0 by omega]; rfl
theorem fT_far (l : List UInt8) (i : Nat) (h : 8 * l.length ≤ i) : fT l i = 0 := by
  unfold fT tbit
  rw [List.getD_eq_getElem?_getD, List.getElem?_eq_none (by omega)]
  simp [b1]
def fR (l : List UInt8) (k i : Nat) : Int := (b1 (rowB (tbit l) k i) : Int)
theorem fR_zero (l : List UInt8) (i : Nat) : (if i < 32 then 1 - fT l i else fT l i) = fR l 0 i := by
  unfold fR fT rowB rg
  rw [if_neg (show ¬ i < 0 by omega)]
  by_cases h : i < 32
  · rw [if_pos h, if_pos (show i < 0 + 32 by omega)]
    have : crc0.getLsbD (i - 0) = true := by
      rw [show crc0 = BitVec.allOnes 32 by decide, BitVec.getLsbD_allOnes]; simp; omega
    rw [this]
    cases tbit l i <;> rfl
  · rw [if_neg h, if_neg (show ¬ i < 0 + 32 by omega)]
theorem fR_01 (l : List UInt8) (k i : Nat) : fR l k i = 0 ∨ fR l k i = 1 := by
  unfold fR b1; split <;> simp
theorem fT_01 (l : List UInt8) (i : Nat) : fT l i = 0 ∨ fT l i = 1 := by
  unfold fT b1; split <;> simp
theorem fR_step (l : List UInt8) (k j : Nat) (hj : j ≤ 32) (h1 : fR l k k = 1) : fR l (k + 1) (k + j) = (fR l k (k + j) + (polyL.getD j 0 : Nat)).tmod 2 := by
  have h := rowB_step (tbit l) k j hj
  have hk : b1 (rowB (tbit l) k k) = 1 := by unfold fR at h1; omega
  rw [hk, Nat.one_mul] at h
  unfold fR
  rw [h]
  rw [Int.tmod_eq_emod_of_nonneg (by omega)]
  push_cast; rfl
theorem fR_stay (l : List UInt8) (k i : Nat) (h0 : fR l k k = 0) : fR l k i = fR l (k + 1) i := by
  have : rowB (tbit l) k k = false := by
    unfold fR b1 at h0
    cases h : rowB (tbit l) k k
    · rfl
    · rw [h] at h0; simp at h0
  unfold fR
  rw [rowB_stay _ _ _ this]
theorem fR_far (l : List UInt8) (k i : Nat) (h : i < k ∨ k + 32 < i) : fR l k i = fR l (k + 1) i := by
  unfold fR; rw [rowB_far _ _ _ h]
def polyV : Array Value := (polyL.map fun (n : Nat) => Value.int .i64 (n : Int)).toArray
theorem polyV_get {j : Nat} (hj : j ≤ 32) : polyV[j]? = some (.int .i64 ((polyL.getD j 0 : Nat) : Int)) := by
  have hl : j < polyL.length := by show j < 33; omega
  unfold polyV
  rw [List.getElem?_toArray, List.getElem?_map, List.getElem?_eq_getElem hl, List.getD_eq_getElem?_getD, List.getElem?_eq_getElem hl]
  rfl
theorem polyL_01 {j : Nat} (hj : j ≤ 32) : polyL.getD j 0 ≤ 1 := by
  have : ∀ j : Fin 33, polyL.getD j.val 0 ≤ 1 := by decide
  exact this ⟨j, by omega⟩
def fG (l : List UInt8) (k j i : Nat) : Int := if k ≤ i ∧ i < k + j then fR l (k + 1) i else fR l k i
/-- The last sum's step. -/
theorem out_bit (l : List UInt8) (j : Nat) (hj : j < 32) : 1 - fR l (8 * l.length) (8 * l.length + j) = (b1 ((crcL l).getLsbD j) : Int) := by
  have hT : tbit l (8 * l.length + j) = false := by
    have := fT_far l (8 * l.length + j) (by omega)
    unfold fT b1 at this
    cases h : tbit l (8 * l.length + j)
    · rfl
    · rw [h] at this; simp at this
  unfold fR rowB
  rw [if_neg (by omega), if_pos (by omega), hT, ← rg_all, show 8 * l.length + j - 8 * l.length = j by omega, BitVec.getLsbD_not]
  cases (rg (tbit l) (8 * l.length)).getLsbD j <;> simp [b1, hj]
set_option maxRecDepth 100000 in
set_option maxHeartbeats 3200000 in
theorem ref_sum (a : Option Addr) (c : Nat) (l : List UInt8) (w : World) (hb : Bytes w a l) (hl : l.length ≤ 100000) :
    Calls Tryz.prog 44 #[.slice a l.length c] w fun e w' => e = .returned (.int .u32 ((crcL l).toNat : Int)) ∧ Ext w w' := by
  have HB := Lib.hid hb; clear hb
  obtain ⟨Q, hQ⟩ : ∃ Q : Ending → World → Prop, Q = fun e w' => e = .returned (.int .u32 ((crcL l).toNat : Int)) ∧ Ext w w' := ⟨_, rfl⟩
  rw [← hQ]
  have HQ := Lib.hid hQ; clear hQ
  obtain ⟨n, hn⟩ : ∃ n, n = l.length := ⟨_, rfl⟩
  rw [← hn] at hl ⊢
  have HN := Lib.hid hn; clear hn
  go_enter Tryz.func44, Tryz.ntmps44
  go_wp2_with fail
  go_loopw [3, 4] (fun v i wr => ∃ (g cap k m : Nat), v = .slice (some ⟨g, 0, none⟩) m cap ∧ i = .int .i64 k ∧ k ≤ n ∧ Hid (m = 8 * k) ∧ Hid (OwnI wr w.heap.size g cap m (fT l)) ∧ Hid (Ext w wr)) (fun _ i _ => n - (intOf i).toNat)
  case atStart => exact ⟨w.heap.size, 0, 0, 0, rfl, rfl, Nat.zero_le _, Lib.hid rfl, Lib.hid (OwnI.empty w w.heap.size (Nat.le_refl _) _), Lib.hid (Ext.alloc _ _)⟩
  case round =>
    obtain ⟨g, cap, k, m, rfl, rfl, hk, hm, ho, hx⟩ := hrel
    by_cases hlt : k < n
    · go_wp2_with fail
      go_loopw [3, 5] (fun v i wr => ∃ (g cap j m : Nat), v = .slice (some ⟨g, 0, none⟩) m cap ∧ i = .int .i64 j ∧ j ≤ 8 ∧ m ≤ 900000 ∧ Hid (m = 8 * k + j) ∧ Hid (OwnI wr w.heap.size g cap m (fT l)) ∧ Hid (Ext w wr)) (fun _ i _ => 8 - (intOf i).toNat)
      case atStart => exact ⟨g, cap, 0, m, rfl, rfl, by omega, by have := hm.out; omega, Lib.hid (by rw [hm.out]; rfl), ho, hx⟩
      case round =>
        obtain ⟨g2, cap2, j, m2, rfl, rfl, hj, hmb, hm2, ho2, hx2⟩ := hrel
        by_cases hj8 : j < 8
        · obtain ⟨g0, o0, rfl, _, hc⟩ := HB.out.at (by intro e; rw [HN.out, e] at hlt; simp at hlt)
          have hcell := hx2.out.cell (hc k (by have := HN.out; omega))
          clear hc
          obtain ⟨x, hxx⟩ : ∃ x, x = fT l m2 := ⟨_, rfl⟩
          have hv : (wrap64 (byteAt l k : Int) / 2 ^ j).tmod 2 = x := by
            rw [hxx, hm2.out, ← fT_byte l k j hj8]
            have hb8 := (l.getD k 0).toNat_lt
            have e : wrap64 (byteAt l k : Int) = ((l.getD k 0).toNat : Int) := IntWalk.wrap64_in _ (by show -9223372036854775808 ≤ (((l.getD k 0).toNat : Nat) : Int) ∧ (((l.getD k 0).toNat : Nat) : Int) ≤ 9223372036854775807; omega)
            rw [e]
            exact Int.tmod_eq_emod_of_nonneg (Int.ediv_nonneg (by omega) (by exact Int.le_of_lt (Int.pow_pos (by decide))))
          have HV := Lib.hid hxx; clear hxx
          have hsz := hx2.out.size
          go_wp2_with (at_builtin; refine append_ints rfl (.tmp 24) (.tmp 34) rfl w.heap.size g2 cap2 m2 (fT l) x HV.out rfl ho2.out rfl (by omega) hsz ?_; intro g3 cap3 w3 hown3 hbl3; have HO3 := Lib.hid hown3; have HX3 := Lib.hid (show Ext w w3 from Below.trans hx2.out hbl3); clear hown3 hbl3)
          go_round
          case rel => exact ⟨g3, cap3, j + 1, m2 + 1, rfl, by go_num, by omega, by have := hm2.out; omega, Lib.hid (by rw [hm2.out]; rfl), HO3, HX3⟩
          case measure => simp [intOf]; omega
        · have h8 : j = 8 := by omega
          subst h8
          go_wp2_with fail
          go_round
          case rel => exact ⟨g2, cap2, k + 1, m2, rfl, by go_num, by omega, Lib.hid (by rw [hm2.out]; omega), ho2, hx2⟩
          case measure => simp [intOf]; omega
    · have hkn : k = n := by omega
      have hm8 : m = 8 * n := by rw [hm.out, hkn]
      subst hm8
      clear hm
      have HK := Lib.hid hkn; clear hkn
      go_wp2_with fail
      go_loopw [3, 6] (fun v i wr => ∃ (g cap j m : Nat), v = .slice (some ⟨g, 0, none⟩) m cap ∧ i = .int .i64 j ∧ j ≤ 32 ∧ m ≤ 900000 ∧ Hid (m = 8 * n + j) ∧ Hid (OwnI wr w.heap.size g cap m (fT l)) ∧ Hid (Ext w wr)) (fun _ i _ => 32 - (intOf i).toNat)
      case atStart => exact ⟨g, cap, 0, 8 * n, rfl, rfl, by omega, by omega, Lib.hid rfl, ho, hx⟩
      case round =>
        obtain ⟨g2, cap2, j, m2, rfl, rfl, hj, hmb, hm2, ho2, hx2⟩ := hrel
        by_cases hj8 : j < 32
        · have hsz := hx2.out.size
          have hz : (0 : Int) = fT l m2 := (fT_far l m2 (by rw [hm2.out, HN.out]; omega)).symm
          have HZ := Lib.hid hz; clear hz
          go_wp2_with (at_builtin; (refine append_ints rfl (.tmp 40) (.tmp 41) rfl w.heap.size g2 cap2 m2 (fT l) 0 HZ.out rfl ho2.out rfl (by omega) hsz ?_; intro g3 cap3 w3 hown3 hbl3; have HO3 := Lib.hid hown3; have HX3 := Lib.hid (show Ext w w3 from Below.trans hx2.out hbl3); clear hown3 hbl3))
          go_round
          case rel => exact ⟨g3, cap3, j + 1, m2 + 1, rfl, by go_num, by omega, by have := hm2.out; omega, Lib.hid (by rw [hm2.out]; rfl), HO3, HX3⟩
          case measure => simp [intOf]; omega
        · have h8 : j = 32 := by omega
          subst h8
          have hmN : m2 = 8 * n + 32 := hm2.out
          subst hmN
          clear hm2 hmb
          have hg2 := ho2.out.row.1
          go_wp2_with fail
          clear ho hx
          go_loopw [7] (fun i wr => ∃ (j : Nat), i = .int .i64 j ∧ j ≤ 32 ∧ Hid (OwnI wr w.heap.size g2 cap2 (8 * n + 32) (fun i => if i < j then 1 - fT l i else fT l i)) ∧ Hid (Ext w wr)) (fun i _ => 32 - (intOf i).toNat)
          case atStart => exact ⟨0, rfl, by omega, Lib.hid (ho2.out.congr (fun i _ => by rw [if_neg (by omega)])), hx2⟩
          case round =>
            obtain ⟨j, rfl, hj, ho3, hx3⟩ := hrel
            by_cases hj8 : j < 32
            · obtain ⟨y, hy⟩ : ∃ y, y = fT l j := ⟨_, rfl⟩
              have hcell : wr.cell? ⟨g2, j, none⟩ = some (.int .i64 y) := by
                have := ho3.out.cell (i := j) (by omega)
                rw [if_neg (by omega), ← hy] at this; exact this
              have hfz := ho3.out.free j
              have hgl := ho3.out.lt
              have hy01 : 0 ≤ y ∧ y ≤ 1 := by rcases fT_01 l j with h | h <;> rw [hy, h] <;> decide
              have HY := Lib.hid hy; clear hy
              go_wp2_with fail
              go_roundw
              case rel => exact ⟨j + 1, by go_num, by omega, Lib.hid ((ho3.out.set j (1 - y)).congr (fun i _ => by
                by_cases e : i = j
                · rw [if_pos e, e, if_pos (by omega), HY.out]
                · rw [if_neg e]
                  by_cases e2 : i < j
                  · rw [if_pos e2, if_pos (by omega)]
                  · rw [if_neg e2, if_neg (by omega)])), Lib.hid (show Ext w _ from Below.setCell hx3.out (show w.heap.size ≤ g2 from hg2) _)⟩
              case measure => simp [intOf]; omega
            · have h8 : j = 32 := by omega
              subst h8
              have ho4 := ho3.out.congr (fun i _ => fR_zero l i)
              have HO4 := Lib.hid ho4; clear ho4 ho3 ho2 hx2
              have hP := heap_alloc_new wr (.cells polyV 3)
              have hOa := HO4.out.ext (Ext.alloc wr (.cells polyV 3))
              have hXa := hx3.out.trans (Ext.alloc wr (.cells polyV 3))
              have hgP := HO4.out.lt
              have hPv : polyV = #[.int .i64 1, .int .i64 0, .int .i64 0, .int .i64 0, .int .i64 0, .int .i64 0, .int .i64 1, .int .i64 0, .int .i64 0, .int .i64 1, .int .i64 1, .int .i64 0, .int .i64 0, .int .i64 0, .int .i64 0, .int .i64 0, .int .i64 1, .int .i64 0, .int .i64 0, .int .i64 0, .int .i64 1, .int .i64 1, .int .i64 1, .int .i64 0, .int .i64 1, .int .i64 1, .int .i64 0, .int .i64 1, .int .i64 1, .int .i64 0, .int .i64 1, .int .i64 1, .int .i64 1] := rfl
              have HPV := Lib.hid hPv; clear hPv
              have HP := Lib.hid hP; clear hP
              have HO5 := Lib.hid hOa; clear hOa HO4
              have HX5 := Lib.hid hXa; clear hXa hx3
              have HGP := Lib.hid hgP; clear hgP
              go_wp2_with fail
              rw [← HPV.out]
              generalize wr.alloc (.cells polyV 3) = w5 at HP HO5 HX5 ⊢
              generalize wr.heap.size = P at HP HGP ⊢
              have hne : P ≠ g2 := by have := HGP.out; omega
              clear HPV HGP hj hj8
              go_loopw [9] (fun i wr => ∃ (q : Nat), i = .int .i64 q ∧ q ≤ 8 * n ∧ Hid (OwnI wr w.heap.size g2 cap2 (8 * n + 32) (fR l q)) ∧ Hid (wr.heap[P]? = some (.cells polyV 3)) ∧ Hid (Ext w wr)) (fun i _ => 8 * n - (intOf i).toNat)
              case atStart => exact ⟨0, rfl, by omega, HO5, HP, HX5⟩
              case round =>
                clear HO5 HP HX5
                obtain ⟨q, rfl, hq, ho6, hp6, hx6⟩ := hrel
                by_cases hq8 : q < 8 * n
                · have hq0 := ho6.out.cell (i := q) (by omega)
                  rcases fR_01 l q q with h0 | h1
                  · rw [h0] at hq0
                    have H0 := Lib.hid h0; clear h0
                    have hlen : decide ((q : Int) + 32 < ((8 * n + 32 : Nat) : Int)) = true := decide_eq_true (by omega)
                    go_wp2_with fail
                    go_roundw
                    case rel => exact ⟨q + 1, by go_num, by omega, Lib.hid (ho6.out.congr (fun i _ => fR_stay l q i H0.out)), hp6, hx6⟩
                    case measure => simp [intOf]; omega
                  · rw [h1] at hq0
                    have H1 := Lib.hid h1; clear h1
                    go_wp2_with fail
                    go_loopw [10] (fun i wr => ∃ (j : Nat), i = .int .i64 j ∧ j ≤ 33 ∧ Hid (OwnI wr w.heap.size g2 cap2 (8 * n + 32) (fG l q j)) ∧ Hid (wr.heap[P]? = some (.cells polyV 3)) ∧ Hid (Ext w wr)) (fun i _ => 33 - (intOf i).toNat)
                    case atStart => exact ⟨0, rfl, by omega, Lib.hid (ho6.out.congr (fun i _ => by unfold fG; rw [if_neg (by omega)])), hp6, hx6⟩
                    case round =>
                      clear hq0 ho6 hp6 hx6
                      obtain ⟨j, rfl, hj, ho7, hp7, hx7⟩ := hrel
                      by_cases hj8 : j ≤ 32
                      · have e1 : fG l q j (q + j) = fR l q (q + j) := by unfold fG; rw [if_neg (by omega)]
                        obtain ⟨y, hy⟩ : ∃ y, y = fR l q (q + j) := ⟨_, rfl⟩
                        obtain ⟨z, hz⟩ : ∃ z : Int, z = (polyL.getD j 0 : Nat) := ⟨_, rfl⟩
                        have hc1 : wr.cell? ⟨g2, q + j, none⟩ = some (.int .i64 y) := by
                          have := ho7.out.cell (i := q + j) (by omega)
                          rw [e1, ← hy] at this; exact this
                        have hc2 : wr.cell? ⟨P, j, none⟩ = some (.int .i64 z) := blk_cell hp7.out j _ (by rw [hz]; exact polyV_get hj8)
                        have hfz := ho7.out.free (q + j)
                        have hgl := ho7.out.lt
                        have hPl := lt_of_cell hc2
                        have hy01 : 0 ≤ y ∧ y ≤ 1 := by rcases fR_01 l q (q + j) with h | h <;> rw [hy, h] <;> decide
                        have hz01 : 0 ≤ z ∧ z ≤ 1 := by have := polyL_01 hj8; omega
                        have hv : fR l (q + 1) (q + j) = (y + z).tmod 2 := by rw [hy, hz]; exact fR_step l q j hj8 H1.out
                        have HV := Lib.hid hv; clear hv e1 hy hz
                        go_wp2_with fail
                        go_region
                        go_wp2_with fail
                        go_roundw
                        case rel => exact ⟨j + 1, by go_num, by omega, Lib.hid (OwnI.congr (World.ownsRow.drew (ho7.out.set (q + j) ((y + z) % 2))) (fun i hi => by
                          unfold fG
                          by_cases e : i = q + j
                          · rw [if_pos e, e, if_pos (by omega), HV.out, Int.tmod_eq_emod_of_nonneg (by omega)]
                          · rw [if_neg e]
                            by_cases e2 : q ≤ i ∧ i < q + j
                            · rw [if_pos e2, if_pos (by omega)]
                            · rw [if_neg e2, if_neg (by omega)])), Lib.hid (show _ = _ from (Below.heap_setCell wr ⟨g2, q + j, none⟩ _ P hne).trans hp7.out), Lib.hid (Ext.drew (show Ext w _ from Below.setCell hx7.out (show w.heap.size ≤ g2 from hg2) _))⟩
                        case measure => simp [intOf]; omega
                      · have h33 : j = 33 := by omega
                        subst h33
                        go_wp2_with fail
                        go_roundw
                        case rel => exact ⟨q + 1, by go_num, by omega, Lib.hid (ho7.out.congr (fun i _ => by
                          unfold fG
                          by_cases e : q ≤ i ∧ i < q + 33
                          · rw [if_pos e]
                          · rw [if_neg e]; exact fR_far l q i (by omega))), hp7, hx7⟩
                        case measure => simp [intOf]; omega
                · have hqn : q = 8 * n := by omega
                  subst hqn
                  clear hp6 hq
                  go_wp2_with fail
                  go_loopw [11, 12] (fun v i wr => ∃ (j x : Nat), i = .int .i64 j ∧ v = .int .u32 x ∧ j ≤ 32 ∧ Hid (x = outN (crcL l) j) ∧ Hid (OwnI wr w.heap.size g2 cap2 (8 * n + 32) (fR l (8 * n))) ∧ Hid (Ext w wr)) (fun _ i _ => 32 - (intOf i).toNat)
                  case atStart => exact ⟨0, 0, rfl, rfl, by omega, Lib.hid (by simp [outN]; omega), ho6, hx6⟩
                  case round =>
                    clear ho6 hx6
                    obtain ⟨j, x, rfl, rfl, hj, hxx, ho8, hx8⟩ := hrel
                    by_cases hj8 : j < 32
                    · obtain ⟨y, hy⟩ : ∃ y, y = fR l (8 * n) (8 * n + j) := ⟨_, rfl⟩
                      have hc1 : wr.cell? ⟨g2, 8 * n + j, none⟩ = some (.int .i64 y) := by
                        have := ho8.out.cell (i := 8 * n + j) (by omega)
                        rw [← hy] at this; exact this
                      have hgl := ho8.out.lt
                      have hy01 : 0 ≤ y ∧ y ≤ 1 := by rcases fR_01 l (8 * n) (8 * n + j) with h | h <;> rw [hy, h] <;> decide
                      have hv : ((x : Int) + (1 - y) * 2 ^ j % 4294967296) % 4294967296 = ((outN (crcL l) (j + 1) : Nat) : Int) := by
                        rw [hy, HN.out, out_bit l j hj8, outN_succ, hxx.out]
                        have h1 : outN (crcL l) j < 2 ^ j := Nat.mod_lt _ (Nat.pow_pos (by decide))
                        have h2 : (2 : Nat) ^ j ≤ 2 ^ 31 := Nat.pow_le_pow_right (by decide) (by omega)
                        have h3 : b1 ((crcL l).getLsbD j) ≤ 1 := by unfold b1; split <;> omega
                        have h4 : ((2 : Int) ^ j) = ((2 ^ j : Nat) : Int) := by push_cast; rfl
                        rw [h4]
                        generalize 2 ^ j = e at *
                        generalize outN (crcL l) j = o at *
                        have h5 : b1 ((crcL l).getLsbD j) * e ≤ e := by
                          have := Nat.mul_le_mul_right e h3
                          omega
                        have h6 : ((b1 ((crcL l).getLsbD j) : Nat) : Int) * (e : Int) = ((b1 ((crcL l).getLsbD j) * e : Nat) : Int) := by push_cast; rfl
                        rw [h6]
                        generalize b1 ((crcL l).getLsbD j) * e = t at *
                        omega
                      have HV := Lib.hid hv; clear hv hy
                      go_wp2_with fail
                      go_roundw
                      case rel => exact ⟨j + 1, outN (crcL l) (j + 1), by go_num, by rw [HV.out], by omega, Lib.hid rfl, ho8, hx8⟩
                      case measure => simp [intOf]; omega
                    · have h32 : j = 32 := by omega
                      subst h32
                      go_wp2_with fail
                      rw [HQ.out]
                      refine ⟨?_, hx8.out⟩
                      rw [hxx.out, outN_full]
                      rfl
end Go.Proofs.YtnclibfhbngkjaaGreatDoor
