/- Several texts of mine, one behind the other: Ref08Ask, Ref08Turn, ProcGet, Open08. -/
import Derived.Test.YtefpllpichhojaaGreatDoorRef08Lists
import Derived.Test.YtefpllpichhojaaGreatDoorProcSet
import Derived.Test.YtefpllpichhojaaGreatDoorM7
import Derived.Test.YtefpllpichhojaaGreatDoorMapKeysI
import Derived.Shelf.SlIterI.Nil
import Derived.Shelf.SlIterI.Sorted
import Derived.Shelf.AbstractIn
import Derived.Test.YtefpllpichhojaaGreatDoorM12
import Derived.Test.YtefpllpichhojaaGreatDoorM5
import Derived.Lib.SmallJoins
namespace Go.Proofs.YtefpllpichhojaaGreatDoor
open Go.RowKit
theorem ref_Find8 (L : List PlayD) (a : Option Addr) (c : Nat) (x : Int) (w : World) (hE : PlR w a L) (hl : L.length ≤ 1000000) :
 Calls Tryz.prog 13 #[.slice a L.length c, .int .i64 x] w fun e w' => w = w' ∧ ((e = .returned (.int .i64 (-1)) ∧ ∀ p ∈ L, p.1.pid ≠ x) ∨ ∃ k, ∃ h : k < L.length, e = .returned (.int .i64 k) ∧ L[k].1.pid = x) := by
 obtain ⟨R, hR⟩ : ∃ R : Ending → World → Prop, R = fun e w' => w = w' ∧ ((e = .returned (.int .i64 (-1)) ∧ ∀ p ∈ L, p.1.pid ≠ x) ∨ ∃ k, ∃ h : k < L.length, e = .returned (.int .i64 k) ∧ L[k].1.pid = x) := ⟨_, rfl⟩
 rw [← hR]
 have HR := Lib.hid hR; clear hR
 have HE := Lib.hid hE; clear hE
 obtain ⟨n, hn⟩ : ∃ n, n = L.length := ⟨_, rfl⟩
 rw [← hn] at hl ⊢
 have HN := Lib.hid hn
 clear hn
 go_enter Tryz.func13, Tryz.ntmps13
 go_wp2_with fail
 go_loopw [5] (fun i wr => ∃ k : Nat, i = .int .i64 k ∧ k ≤ n ∧ Hid (wr = w) ∧ Hid (∀ j (h : j < L.length), j < k → L[j].1.pid ≠ x)) (fun i _ => n - (intOf i).toNat)
 case atStart => exact ⟨0, rfl, Nat.zero_le _, Lib.hid rfl, Lib.hid fun j _ h => absurd h (Nat.not_lt_zero j)⟩
 case round =>
  obtain ⟨k, rfl, hk, hw, HB⟩ := hrel
  obtain rfl := hw.out
  by_cases hlt : k < n
  · have hkL : k < L.length := by have := HN.out; omega
    obtain ⟨g, off, rfl, h0⟩ := HE.out.at hkL
    have c0 := h0.2.1
    clear h0
    by_cases hx : L[k].1.pid = x
    · have HX : Hid (∃ k', ∃ h : k' < L.length, k = k' ∧ L[k'].1.pid = x) := Lib.hid ⟨k, hkL, rfl, hx⟩
      rw [hx] at c0
      have hxx : (x == x) = true := by simp
      clear hx hkL
      go_wp2_with fail
      rw [HR.out]
      obtain ⟨k', h, rfl, h2⟩ := HX.out
      exact ⟨rfl, Or.inr ⟨k, h, rfl, h2⟩⟩
    · have hne : (L[k].1.pid == x) = false := by simpa using hx
      have HB2 : Hid (∀ j (h : j < L.length), j < k + 1 → L[j].1.pid ≠ x) := Lib.hid fun j h hj => by
       by_cases e : j = k
       · subst e; exact hx
       · exact HB.out j h (by omega)
      clear hx HB
      generalize L[k].1.pid = y at c0 hne
      clear hkL
      go_wp2_with fail
      go_roundw
      case rel => exact ⟨k + 1, by go_num, by omega, Lib.hid trivial, HB2⟩
      case measure => simp [intOf]; omega
  · go_wp2_with fail
    rw [HR.out]
    refine ⟨rfl, Or.inl ⟨rfl, fun p hp => ?_⟩⟩
    obtain ⟨j, hj, rfl⟩ := List.getElem_of_mem hp
    exact HB.out j hj (by have := HN.out; omega)
def cntL (L : List PlayD) (i : Int) : Nat := (L.map fun x => cntM x.1.maps i).sum
theorem cntL_snoc (L : List PlayD) (x : PlayD) (i : Int) : cntL (L ++ [x]) i = cntL L i + cntM x.1.maps i := by simp [cntL]
theorem cntM_snoc (X : List Int) (x i : Int) : cntM (X ++ [x]) i = cntM X i + if x = i then 1 else 0 := by
 unfold cntM
 rw [List.countP_append, List.countP_singleton]
 simp
theorem take_succ_L {α : Type} (L : List α) {k : Nat} (h : k < L.length) : L.take (k + 1) = L.take k ++ [L[k]] := by
 rw [List.take_add_one, List.getElem?_eq_getElem h]; rfl
theorem ref_Count8 (L : List PlayD) (a : Option Addr) (c : Nat) (x : Int) (w : World) (hE : PlR w a L) (hM : ∀ p ∈ L, RunM w p.2.1 (intV p.1.maps)) (h8 : ∀ p ∈ L, p.1.maps.length ≤ 8) (hl : L.length ≤ 1000000) :
 Calls Tryz.prog 81 #[.slice a L.length c, .int .i64 x] w fun e w' => w = w' ∧ e = .returned (.int .i64 (cntL L x)) := by
 obtain ⟨R, hR⟩ : ∃ R : Ending → World → Prop, R = fun e w' => w = w' ∧ e = .returned (.int .i64 (cntL L x)) := ⟨_, rfl⟩
 rw [← hR]
 have HR := Lib.hid hR; clear hR
 have HE := Lib.hid hE; have HM := Lib.hid hM; have H8 := Lib.hid h8; clear hE hM h8
 obtain ⟨n, hn⟩ : ∃ n, n = L.length := ⟨_, rfl⟩
 rw [← hn] at hl ⊢
 have HN := Lib.hid hn
 clear hn
 go_enter Tryz.func81, Tryz.ntmps81
 go_wp2_with fail
 go_loopw [5, 6] (fun s i wr => ∃ k m : Nat, s = .int .i64 m ∧ i = .int .i64 k ∧ k ≤ n ∧ m ≤ 8 * k ∧ Hid (wr = w) ∧ Hid (cntL (L.take k) x = m)) (fun _ i _ => n - (intOf i).toNat)
 case atStart => exact ⟨0, 0, rfl, rfl, Nat.zero_le _, Nat.zero_le _, Lib.hid rfl, Lib.hid rfl⟩
 case round =>
  obtain ⟨k, m, rfl, rfl, hk, hm, hw, HC⟩ := hrel
  obtain rfl := hw.out
  by_cases hlt : k < n
  · have hkL : k < L.length := by have := HN.out; omega
    obtain ⟨g, off, rfl, h0⟩ := HE.out.at hkL
    have c2 := h0.2.2.2.1
    clear h0
    have hrow := HM.out _ (List.getElem_mem hkL)
    have h8 := H8.out _ (List.getElem_mem hkL)
    have HS : Hid (cntL (L.take (k + 1)) x = m + cntM L[k].1.maps x) := Lib.hid (by rw [take_succ_L L hkL, cntL_snoc, HC.out])
    clear HC
    generalize L[k].2.2 = rc at c2
    generalize L[k].2.1 = ra at c2 hrow
    generalize L[k].1.maps = Z at c2 hrow h8 HS
    have HZ := Lib.hid hrow
    obtain ⟨z, hz⟩ : ∃ z, z = Z.length := ⟨_, rfl⟩
    rw [← hz] at c2 h8
    have HZL := Lib.hid hz
    clear hrow hkL hz
    go_wp2_with fail
    go_loopw [5, 7] (fun s i wr' => ∃ j m' : Nat, s = .int .i64 m' ∧ i = .int .i64 j ∧ j ≤ z ∧ m' ≤ m + j ∧ Hid (wr' = wr) ∧ Hid (m + cntM (Z.take j) x = m')) (fun _ i _ => z - (intOf i).toNat)
    case atStart => exact ⟨0, m, rfl, rfl, Nat.zero_le _, Nat.le_refl _, Lib.hid rfl, Lib.hid rfl⟩
    case round =>
     obtain ⟨j, m', rfl, rfl, hj, hm', hw2, HC⟩ := hrel
     obtain rfl := hw2.out
     by_cases hjl : j < z
     · have hjZ : j < Z.length := by have := HZL.out; omega
       rcases HZ.out with h | ⟨g2, o2, rfl, h1⟩
       · have : Z = [] := by unfold intV at h; simpa using h
         rw [this] at hjZ; simp at hjZ
       have c3 := h1.2 j (.int .i64 Z[j]) (by simp [intV, List.getElem?_eq_getElem hjZ])
       clear h1
       have HC2 : Hid (m + cntM (Z.take (j + 1)) x = m' + if Z[j] = x then 1 else 0) := Lib.hid (by rw [take_succ_L Z hjZ, cntM_snoc, ← HC.out]; omega)
       clear HC
       by_cases hx : Z[j] = x
       · rw [if_pos hx] at HC2
         rw [hx] at c3
         have hxx : (x == x) = true := by simp
         clear hx hjZ
         go_wp2_with fail
         go_roundw
         case rel => exact ⟨j + 1, m' + 1, by go_num, by go_num, by omega, by omega, Lib.hid trivial, HC2⟩
         case measure => simp [intOf]; omega
       · rw [if_neg hx] at HC2
         have hne : (Z[j] == x) = false := by simpa using hx
         clear hx
         generalize Z[j] = y at c3 hne
         clear hjZ
         go_wp2_with fail
         go_roundw
         case rel => exact ⟨j + 1, m', by go_num, by go_num, by omega, by omega, Lib.hid trivial, HC2⟩
         case measure => simp [intOf]; omega
     · have hd : cntL (L.take (k + 1)) x = m' := by
        rw [HS.out, ← HC.out, List.take_of_length_le (by have := HZL.out; omega)]
       have HD := Lib.hid hd
       clear hd HC HS
       go_wp2_with fail
       go_roundw
       case rel => exact ⟨k + 1, m', by go_num, by go_num, by omega, by omega, Lib.hid trivial, HD⟩
       case measure => simp [intOf]; omega
  · have hd : cntL L x = m := by rw [← HC.out, List.take_of_length_le (by have := HN.out; omega)]
    have HD := Lib.hid hd
    clear hd HC
    go_wp2_with fail
    rw [HR.out, HD.out]
    exact ⟨rfl, rfl⟩
end Go.Proofs.YtefpllpichhojaaGreatDoor
namespace Go.Proofs.YtefpllpichhojaaGreatDoor
open Go.RowKit
attribute [local go_sem ↓] Go.wp_at_zero Go.wp_at_succ
theorem plV_set : ∀ (Z : List PlayD) (i : Nat) (x : PlayD), i < Z.length → ((((Z.flatMap plV).set (i * 4) (.int .i64 x.1.pid)).set (i * 4 + 1) (.string (bs x.1.unit))).set (i * 4 + 2) (.slice x.2.1 x.1.maps.length x.2.2)).set (i * 4 + 3) (.bool x.1.ending) = (Z.set i x).flatMap plV
 | [], _, _, h => by simp at h
 | z :: Z, 0, x, _ => by simp [plV]
 | z :: Z, i + 1, x, h => by
   have ih := plV_set Z i x (by simpa using h)
   rw [List.set_cons_succ, List.flatMap_cons, List.flatMap_cons, ← ih]
   have hl : (plV z).length = 4 := rfl
   rw [List.set_append_right _ _ (by rw [hl]; omega), List.set_append_right _ _ (by rw [hl]; omega), List.set_append_right _ _ (by rw [hl]; omega), List.set_append_right _ _ (by rw [hl]; omega), hl]
   have e1 : (i + 1) * 4 - 4 = i * 4 := by omega
   have e2 : (i + 1) * 4 + 1 - 4 = i * 4 + 1 := by omega
   have e3 : (i + 1) * 4 + 2 - 4 = i * 4 + 2 := by omega
   have e4 : (i + 1) * 4 + 3 - 4 = i * 4 + 3 := by omega
   rw [e1, e2, e3, e4]
theorem own_set4 {w : World} {base : Nat} {a : Option Addr} {n c : Nat} {Z : List PlayD} (h : w.ownsRow base 36 4 (.slice a n c) n (Z.flatMap plV)) {i : Nat} (hz : i < Z.length) (x : PlayD) :
 ∃ g cur, a = some ⟨g, 0, none⟩ ∧ base ≤ g ∧ w.heap[g]? = some (.cells cur 36 (0, 0)) ∧ g < w.heap.size ∧ (∃ u, w.cell? ⟨g, i * 4, none⟩ = some u) ∧ (∃ u, w.cell? ⟨g, i * 4 + 1, none⟩ = some u) ∧ (∃ u, w.cell? ⟨g, i * 4 + 2, none⟩ = some u) ∧ (∃ u, w.cell? ⟨g, i * 4 + 3, none⟩ = some u) ∧
   w.frozen? ⟨g, i * 4, none⟩ = false ∧ w.frozen? ⟨g, i * 4 + 1, none⟩ = false ∧ w.frozen? ⟨g, i * 4 + 2, none⟩ = false ∧ w.frozen? ⟨g, i * 4 + 3, none⟩ = false ∧
   ((((w.setCell ⟨g, i * 4, none⟩ (.int .i64 x.1.pid)).setCell ⟨g, i * 4 + 1, none⟩ (.string (bs x.1.unit))).setCell ⟨g, i * 4 + 2, none⟩ (.slice x.2.1 x.1.maps.length x.2.2)).setCell ⟨g, i * 4 + 3, none⟩ (.bool x.1.ending)).ownsRow base 36 4 (.slice a n c) n ((Z.set i x).flatMap plV) ∧
   But g w ((((w.setCell ⟨g, i * 4, none⟩ (.int .i64 x.1.pid)).setCell ⟨g, i * 4 + 1, none⟩ (.string (bs x.1.unit))).setCell ⟨g, i * 4 + 2, none⟩ (.slice x.2.1 x.1.maps.length x.2.2)).setCell ⟨g, i * 4 + 3, none⟩ (.bool x.1.ending)) := by
 have hl := h.1
 rw [pls_len] at hl
 have hcell := run_of_row h
 obtain ⟨a', c', hv, _, hrun, _⟩ := hcell
 cases hv
 rcases h.2 with ⟨h1, h2⟩ | ⟨g, c', cur, h1, hbg, hg, hn, hm, hs, ht⟩
 · omega
 · obtain ⟨rfl, rfl⟩ : a = some ⟨g, 0, none⟩ ∧ c = c' := by cases h1; exact ⟨rfl, rfl⟩
   have hc := of_runM (m := 4) (F := plV) (fun _ => rfl) (by omega) hrun
   rcases hc with hc | ⟨g', off, hga, _, hc⟩
   · rw [hc] at hz; simp at hz
   · cases hga
     have c0 := hc i hz 0 _ (by omega) rfl
     have c1 := hc i hz 1 _ (by omega) rfl
     have c2 := hc i hz 2 _ (by omega) rfl
     have c3 := hc i hz 3 _ (by omega) rfl
     simp only [Nat.zero_add, Nat.add_zero] at c0 c1 c2 c3
     refine ⟨g, cur, rfl, hbg, hg, (Array.getElem?_eq_some_iff.1 hg).1, ⟨_, c0⟩, ⟨_, c1⟩, ⟨_, c2⟩, ⟨_, c3⟩, blk_free hg _, blk_free hg _, blk_free hg _, blk_free hg _, ⟨?_, Or.inr ⟨g, c, (((cur.setIfInBounds (i * 4) (.int .i64 x.1.pid)).setIfInBounds (i * 4 + 1) (.string (bs x.1.unit))).setIfInBounds (i * 4 + 2) (.slice x.2.1 x.1.maps.length x.2.2)).setIfInBounds (i * 4 + 3) (.bool x.1.ending), rfl, hbg, setCell_row (setCell_row (setCell_row (setCell_row hg _) _) _) _, hn, hm, by simpa using hs, ?_⟩⟩, ((((But.refl g w).setCell _ _).setCell _ _).setCell _ _).setCell _ _⟩
     · rw [pls_len, List.length_set]; exact hl
     · rw [← plV_set Z i x hz, ← ht]
       simp only [Array.toList_setIfInBounds, List.take_set]
set_option maxHeartbeats 3200000 in
theorem ref_Turn8 (L : List PlayD) (a : Option Addr) (c k : Nat) (x : PlayD) (w : World) (hE : PlR w a L) (hk : k < L.length) (hl : L.length ≤ 1000000) :
 Calls Tryz.prog 17 #[.slice a L.length c, .int .i64 k, .agg #[.int .i64 x.1.pid, .string (bs x.1.unit), .slice x.2.1 x.1.maps.length x.2.2, .bool x.1.ending]] w (NewPls (L.set k x) w) := by
 obtain ⟨R, hR⟩ : ∃ R, R = NewPls (L.set k x) w := ⟨_, rfl⟩
 rw [← hR]
 have HR := Lib.hid hR; clear hR
 have HE := Lib.hid hE; have HK := Lib.hid hk; clear hE
 obtain ⟨n, hn⟩ : ∃ n, n = L.length := ⟨_, rfl⟩
 rw [← hn] at hl hk ⊢
 have HN := Lib.hid hn
 have h10 := fun (w' : World) (a' : Option Addr) (n' c' : Nat) h => own_set4 (w := w') (base := w.heap.size) (a := a') (n := n') (c := c') (Z := L) (i := k) h HK.out x
 have H10 := Lib.hid h10
 clear hn h10
 obtain ⟨xp, hxp⟩ : ∃ xp, xp = x.1.pid := ⟨_, rfl⟩
 obtain ⟨xu, hxu⟩ : ∃ xu, xu = bs x.1.unit := ⟨_, rfl⟩
 obtain ⟨xl, hxl⟩ : ∃ xl, xl = x.1.maps.length := ⟨_, rfl⟩
 obtain ⟨xa, hxa⟩ : ∃ xa, xa = x.2.1 := ⟨_, rfl⟩
 obtain ⟨xc, hxc⟩ : ∃ xc, xc = x.2.2 := ⟨_, rfl⟩
 obtain ⟨xe, hxe⟩ : ∃ xe, xe = x.1.ending := ⟨_, rfl⟩
 simp only [← hxp, ← hxu, ← hxl, ← hxa, ← hxc, ← hxe] at H10 ⊢
 clear hxp hxu hxl hxa hxc hxe
 go_enter Tryz.func17, Tryz.ntmps17
 go_wp2_with (at_builtin; refine Hid.out ?_)
 refine Lib.hid ?_
 have hx1 := Ext.alloc w (.cells #[.int .i64 xp, .string xu, .slice xa xl xc, .bool xe] 36)
 have hb1 := heap_alloc_new w (.cells #[.int .i64 xp, .string xu, .slice xa xl xc, .bool xe] 36)
 have hz1 : (w.alloc (.cells #[.int .i64 xp, .string xu, .slice xa xl xc, .bool xe] 36)).heap.size = w.heap.size + 1 := by simp
 generalize w.alloc (.cells #[.int .i64 xp, .string xu, .slice xa xl xc, .bool xe] 36) = w1 at hx1 hb1 hz1 ⊢
 have hx2 := Ext.alloc w1 (.cells #[] 36)
 have hb2 := heap_alloc_new w1 (.cells #[] 36)
 generalize w1.alloc (.cells #[] 36) = w2 at hx2 hb2 ⊢
 have hs1 := hx1.size
 have hs2 := hx2.size
 have hs3 := (Array.getElem?_eq_some_iff.1 hb1).1
 rw [hz1] at hb2 hs1 hs2 hs3
 refine wpList_append_any rfl _ _ 28 36 (.agg #[.int .i64 0, .string ⟨#[]⟩, .slice none 0 0, .bool false]) 4 56 rfl Tryz.underlying28 info_pl08 rfl (by decide) (w.heap.size + 1) (some ⟨w.heap.size + 1, 0, none⟩) 0 0 [] rfl (row_zero hb2 (by omega)) a n c (L.flatMap plV) rfl (by rw [pls_len, HN.out]) (HE.out.ext (hx1.trans hx2)) (plV_one L) (by omega) (by decide) (by omega) n (by omega) ?_
 intro a3 c3 w3 hown hkp hbl
 rw [List.nil_append] at hown
 have hown : w3.ownsRow w.heap.size 36 4 (.slice a3 n c3) n (L.flatMap plV) := ⟨hown.1, hown.2.imp id fun ⟨g, cp, cu, h1, h2, h3⟩ => ⟨g, cp, cu, h1, by omega, h3⟩⟩
 obtain ⟨g, cur, rfl, hgb, hgh, hgl, ⟨q0, d0⟩, ⟨q1, d1⟩, ⟨q2, d2⟩, ⟨q3, d3⟩, f0, f1, f2, f3, hset⟩ := H10.out _ _ _ _ hown
 have hx3 : Ext w w3 := ((Keep.of_ext (S := fun j => j < w.heap.size) (hx1.trans hx2)).andThen (Keep.of_below hbl) (fun j hj _ => by show j < w.heap.size + 1; omega)).ext_lt
 have hbx := ((Keep.of_ext (S := fun j => j < w.heap.size + 1) hx2).andThen (Keep.of_below hbl) (fun j _ hj => hj)).heap (by show w.heap.size < w.heap.size + 1; omega) hb1
 have e0 := blk_cell hbx 0 _ rfl
 have e1 := blk_cell hbx 1 _ rfl
 have e2 := blk_cell hbx 2 _ rfl
 have e3 := blk_cell hbx 3 _ rfl
 have HSET := Lib.hid hset; have HX3 := Lib.hid hx3; have HGB := Lib.hid hgb
 have hkn : (k : Int) < (n : Int) := by omega
 have hk0 : (0 : Int) ≤ (k : Int) := by omega
 clear hown hkp hbl hset hx1 hx2 hb1 hb2 hs1 hs2 hs3 hz1 hx3 hgb hbx H10
 go_wp2_with fail
 rw [HR.out]
 obtain ⟨hs1, hs2⟩ := HSET.out
 have hll : (L.set k x).length = n := by rw [List.length_set, HN.out]
 obtain ⟨a', c', hv, hcc, _, _⟩ := run_of_row hs1
 cases hv
 have hx4 := But.ext HX3.out hs2 HGB.out
 refine ⟨some ⟨g, 0, none⟩, c3, by rw [hll]; rfl, by rw [hll]; exact hcc, ?_, hx4⟩
 rw [hll]
 exact hs1
end Go.Proofs.YtefpllpichhojaaGreatDoor
namespace Go.Proofs.YtefpllpichhojaaGreatDoor
open Go.RowKit Go.Maps Go.Sort Go.Shelf
variable [Low]
omit [Low] in
theorem sorts_ints (m : Nat) : AnyZI.SortsIn Tryz.prog Tryz.sorted_int_ren Fence.wide m :=
 ⟨fun blk off cap ss W hH hblk hsz => callsIn_wide.2 (AnyM.slices_Sort_int Tryz.sort_int blk off cap ss W hH hblk hsz),
  fun p cap W => callsIn_wide.2 (AnyM.slices_Sort_int_none Tryz.sort_int p cap W)⟩
section
variable {X : Nat → Prop} {w w' : World} {tb pm vb db kb n N off top : Nat} {q : Int} {F : FileS} {P : TabD} {A : Int → ProcA}
def pidsP (P : TabD) : List Int := P.list.map ProcD.pid
theorem ProcB.sorted (h : ProcB X w tb pm vb N P A) : (pidsP P).Pairwise (fun x y => x < y) := List.pairwise_map.2 h.good.sorted
set_option maxRecDepth 100000 in
set_option maxHeartbeats 3200000 in
theorem proc_List (h : SysP X w tb vb db kb n N off top q F P) (hN : N ≤ 1000000000) :
 Calls Tryz.prog 55 #[.pointer (some ⟨tb, 0, none⟩)] w fun e w' => ∃ a c, e = .returned (.slice a (pidsP P).length c) ∧ OwnIs w' w.heap.size a c (pidsP P) ∧ Ext w w' := by
 obtain ⟨R, hR⟩ : ∃ R : Ending → World → Prop, R = fun e w' => ∃ a c, e = .returned (.slice a (pidsP P).length c) ∧ OwnIs w' w.heap.size a c (pidsP P) ∧ Ext w w' := ⟨_, rfl⟩
 rw [← hR]
 have HR := Lib.hid hR; clear hR
 obtain ⟨pm, A, hb, hv, hh⟩ := h
 have c1 := blk_cell hb.top 1 (.map (some pm)) rfl
 obtain ⟨D, h1, h2, h3⟩ := hb.map
 have hsz := h1.size_le
 have hbl := h1.lt
 refine (callsIn_wide (n := 6)).1 ?_
 have cK : ∀ mb W, CallsIn Fence.wide 5 Tryz.prog 99 #[.map mb] W fun e w' => e = .returned (.func (.func 143) #[] #[.pointer (some ⟨W.heap.size, 0, none⟩)]) ∧ w' = W.alloc (.cells #[.map mb] 133) := fun mb W => AnyZI.keys_in Tryz.keysI_proc_Proc Fence.wide 5 trivial rfl mb W
 have hseq : SeqGives Fence.wide 2 Tryz.prog 143 #[.pointer (some ⟨w.heap.size, 0, none⟩)] encZ (fun ss => ss.Perm (intKeys D)) (Maps.size D) (w.alloc (.cells #[.map (some pm)] 133)) :=
  AnyZI.keys_gives (ρ := Tryz.keysI_proc_Proc_ren) { Tryz.keysI_proc_Proc with } Fence.wide _ trivial rfl (by omega) w.heap.size pm N D _ (by simp) (by simp) (by
   obtain ⟨es, clock, hb, Ft, hs, hD⟩ := h1
   exact ⟨es, clock, (Below.heap_alloc _ _ pm hbl).trans hb, Ft, hs, hD⟩)
 have cS := AnyZI.sorted_in Tryz.sorted_int Fence.wide 5 trivial trivial trivial trivial rfl (by omega) (sorts_ints _) (enters_of Tryz.func142 (by kernel_rfl) rfl) 143 #[.pointer (some ⟨w.heap.size, 0, none⟩)] trivial (enters_of Tryz.func143 (by kernel_rfl) rfl) _ _ (by unfold maxLen; omega) (by omega) _ hseq
 change CallsIn _ _ Tryz.prog 98 _ _ _ at cS
 have hfK : Fence.wide.fn 99 := trivial
 have hfS : Fence.wide.fn 98 := trivial
 have hint : ∀ ss : List Int, ss.Perm (intKeys D) → ss.mergeSort leI = pidsP P := fun ss hp => by
  obtain ⟨g1, g2, g3⟩ := sorted_ints h1 (f := procF P A) (fun x => (h3 x).2) hp
  have hs := hb.sorted
  refine List.Perm.eq_of_pairwise (le := fun a b : Int => a ≤ b) (fun a b _ _ h1 h2 => by omega) g1 (hs.imp fun {a b} hab => by omega) ?_
  refine (List.perm_ext_iff_of_nodup g2 (hs.imp fun {a b} hab e => by omega)).2 fun x => ?_
  rw [g3 x]
  unfold pidsP procF
  cases hg : getP P x with
  | none =>
    simp only [Option.map_none, Option.isSome_none, Bool.false_eq_true, false_iff]
    intro h5
    obtain ⟨p, hp, e⟩ := List.mem_map.1 h5
    exact getP_none hg p hp e
  | some p =>
    obtain ⟨h4, h5⟩ := getP_some hg
    simp only [Option.map_some, Option.isSome_some, true_iff]
    exact List.mem_map.2 ⟨p, h4, h5⟩
 have HI := Lib.hid hint; clear hint
 clear h1 h2 h3 hsz hbl hseq hb hv hh
 refine callsIn_of_wp Tryz.func55 rfl trivial ?_ rfl
 simp only [Tryz.ntmps55, List.size_toArray, List.length_cons, List.length_nil, Nat.reduceAdd, Nat.reduceSub, Array.replicate_succ, Array.replicate_zero, List.push_toArray, List.append_toArray, List.nil_append, List.cons_append]
 gi_wp2_with (first
  | (gi_at_call 99; refine (cK _ _).mono ?_; rintro e w' ⟨rfl, rfl⟩)
  | (gi_at_call 98; refine cS.mono ?_; rintro e w' ⟨v, ss, rfl, hS, hrow, hnil, hb⟩))
 rw [HR.out]
 have hrow' := ownsRow_base_a (base' := w.heap.size) hrow (by simp)
 have hbb : Ext w w' := ((Below.refl _ w).alloc (Nat.le_refl _) _).trans (hb.mono (by simp))
 have hi := HI.out ss hS
 have hl : ss.length = (pidsP P).length := by rw [← hi]; exact (List.mergeSort_perm ss _).length_eq.symm
 have hi2 : (ss.mergeSort fun x y => decide (x ≤ y)) = pidsP P := hi
 rw [hi2, hl] at hrow'
 have hv : ∃ a c, v = .slice a (pidsP P).length c := by
  rcases hrow'.2 with ⟨q1, q2⟩ | ⟨g, c, cur, q1, _⟩
  · exact ⟨none, 0, by rw [q1, q2]⟩
  · exact ⟨_, c, q1⟩
 obtain ⟨a, c, rfl⟩ := hv
 exact ⟨a, c, rfl, hrow', hbb⟩
def GotR (P : TabD) (i : Int) (w : World) (e : Ending) (w' : World) : Prop :=
 (match getP P i with
 | none => e = .returned (.tuple #[.agg #[.int .i64 0, .string ⟨#[]⟩, .slice none 0 0, .bool false], .bool false])
 | some p => ∃ a c, e = .returned (.tuple #[.agg #[.int .i64 p.pid, .string (bs p.unit), .slice a p.maps.length c, .bool p.ending], .bool true]) ∧ OwnIs w' w.heap.size a c p.maps) ∧ Ext w w'
set_option maxRecDepth 100000 in
set_option maxHeartbeats 6400000 in
theorem proc_Get (h : SysP X w tb vb db kb n N off top q F P) (i : Int) (h1 : -9223372036854775808 ≤ i) (h2 : i ≤ 9223372036854775807) :
 Calls Tryz.prog 68 #[.pointer (some ⟨tb, 0, none⟩), .int .i64 i] w (GotR P i w) := by
 obtain ⟨R, hR⟩ : ∃ R : Ending → World → Prop, R = GotR P i w := ⟨_, rfl⟩
 rw [← hR]
 have HR := Lib.hid hR; clear hR
 obtain ⟨pm, A, hb, hv, hh⟩ := h
 have hx := Ext.alloc w (.cells #[.int .i64 0, .string ⟨#[]⟩, .slice none 0 0, .bool false] 128)
 have c1 := blk_cell (hx.heap hb.top) 1 (.map (some pm)) rfl
 have hlk := (hb.map.ext hx).lookup int_keyedA Tryz.underlying133 (Tryz.zeroValue139 _) (key_int h1 h2)
 cases hg : getP P i with
 | none =>
   rw [procF_none hg] at hlk
   have HG := Lib.hid hg; have HX := Lib.hid hx
   clear hb hv hh hg hx
   dsimp only [Option.getD] at hlk
   go_enter Tryz.func68, Tryz.ntmps68
   go_wp2_with fail
   have hz := heap_alloc_new w (.cells #[.int .i64 0, .string ⟨#[]⟩, .slice none 0 0, .bool false] 128)
   have d0 := blk_cell hz 0 _ rfl
   have d1 := blk_cell hz 1 _ rfl
   have d2 := blk_cell hz 2 _ rfl
   have d3 := blk_cell hz 3 _ rfl
   refine bodyPost_ret (v := .tuple #[.agg #[.int .i64 0, .string ⟨#[]⟩, .slice none 0 0, .bool false], .bool false]) (by simp [results, Tryz.results68, go_sem, d0, d1, d2, d3]) rfl ?_
   rw [HR.out]
   unfold GotR
   rw [HG.out]
   exact ⟨rfl, HX.out⟩
 | some p =>
   rw [procF_some hg] at hlk
   obtain ⟨hp, rfl⟩ := getP_some hg
   have hpr := hb.proc p hp
   have hx2 : Ext w ((w.alloc (.cells #[.int .i64 0, .string ⟨#[]⟩, .slice none 0 0, .bool false] 128)).alloc (.cells (procV p (A p.pid)) 128)) := hx.trans (Ext.alloc _ _)
   have hm8 := hb.good.maps p hp
   generalize A p.pid = Ap at hlk hpr hx2
   obtain ⟨pb, ma, mc⟩ := Ap
   have hcl := fun W (k : Ext w W) => clone_i ma mc p.maps W (OwnIs.runI (hpr.2.keep (Keep.of_ext (S := fun _ => True) k) fun _ _ _ _ => trivial)) (by omega)
   have e0 := blk_cell (hx.heap hpr.1) 0 (.int .i64 p.pid) rfl
   have e1 := blk_cell (hx.heap hpr.1) 1 (.string (bs p.unit)) rfl
   have e2 := blk_cell (hx.heap hpr.1) 2 (.slice ma p.maps.length mc) rfl
   have e3 := blk_cell (hx.heap hpr.1) 3 (.bool p.ending) rfl
   have e4 := blk_cell (hx2.heap hpr.1) 2 (.slice ma p.maps.length mc) rfl
   have HG := Lib.hid hg; have HX2 := Lib.hid hx2; have HCL := Lib.hid hcl
   have hszw : pb < w.heap.size := (Array.getElem?_eq_some_iff.1 hpr.1).1
   clear hb hv hh hg hx hx2 hcl hpr hm8 hp
   dsimp only [Option.getD] at hlk
   go_enter Tryz.func68, Tryz.ntmps68
   go_wp2_with (go_at_call 115; refine Hid.out ?_)
   refine Lib.hid ?_
   refine (HCL.out _ HX2.out).mono ?_
   rintro e w3 ⟨a', c', rfl, hO, hx3⟩
   have hz := hx3.heap ((Ext.alloc (w.alloc (.cells #[.int .i64 0, .string ⟨#[]⟩, .slice none 0 0, .bool false] 128)) (.cells (procV p ⟨pb, ma, mc⟩) 128)).heap (heap_alloc_new w (.cells #[.int .i64 0, .string ⟨#[]⟩, .slice none 0 0, .bool false] 128)))
   have hn := hx3.heap (heap_alloc_new (w.alloc (.cells #[.int .i64 0, .string ⟨#[]⟩, .slice none 0 0, .bool false] 128)) (.cells (procV p ⟨pb, ma, mc⟩) 128))
   simp only [World.size_alloc] at hn
   have hz3 := hx3.size
   have g0 := blk_cell hn 0 (.int .i64 p.pid) rfl
   have g1 := blk_cell hn 1 (.string (bs p.unit)) rfl
   have g2 := blk_cell hn 2 (.slice ma p.maps.length mc) rfl
   have g3 := blk_cell hn 3 (.bool p.ending) rfl
   have k2 := blk_free hn 2
   have d0 := blk_cell hz 0 (.int .i64 0) rfl
   have d1 := blk_cell hz 1 (.string ⟨#[]⟩) rfl
   have d2 := blk_cell hz 2 (.slice none 0 0) rfl
   have d3 := blk_cell hz 3 (.bool false) rfl
   have q0 := blk_free hz 0
   have q1 := blk_free hz 1
   have q2 := blk_free hz 2
   have q3 := blk_free hz 3
   have HO := Lib.hid hO; have HZ := Lib.hid hz; have HN := Lib.hid hn
   have HX3 := Lib.hid (HX2.out.trans hx3)
   clear hO hx3 hz hn e0 e1 e2 e3 e4 hlk c1
   have HS2 : Hid (w.heap.size + 2 ≤ ((w.alloc (.cells #[.int .i64 0, .string ⟨#[]⟩, .slice none 0 0, .bool false] 128)).alloc (.cells (procV p ⟨pb, ma, mc⟩) 128)).heap.size) := Lib.hid (by simp)
   generalize ((w.alloc (.cells #[.int .i64 0, .string ⟨#[]⟩, .slice none 0 0, .bool false] 128)).alloc (.cells (procV p ⟨pb, ma, mc⟩) 128)).heap.size = s2 at HO HS2
   generalize hsz : w.heap.size = s at *
   have HSZ := Lib.hid hsz; clear hsz
   go_wp2_with fail
   have hk1 : Keep (· ≠ s + 1) w3 (w3.setCell ⟨s + 1, 2, none⟩ (.slice a' p.maps.length c')) := (Keep.refl _ _).setCell (fun _ h => h) _ _
   have hz1 := hk1.heap (show s ≠ s + 1 by omega) HZ.out
   generalize w3.setCell ⟨s + 1, 2, none⟩ (.slice a' p.maps.length c') = w4 at hk1 hz1 ⊢
   have hz2 := setCell_row (setCell_row (setCell_row (setCell_row hz1 (i := 0) (.int .i64 p.pid)) (i := 1) (.string (bs p.unit))) (i := 2) (.slice a' p.maps.length c')) (i := 3) (.bool p.ending)
   have hk2 : Keep (· ≠ s) w4 ((((w4.setCell ⟨s, 0, none⟩ (.int .i64 p.pid)).setCell ⟨s, 1, none⟩ (.string (bs p.unit))).setCell ⟨s, 2, none⟩ (.slice a' p.maps.length c')).setCell ⟨s, 3, none⟩ (.bool p.ending)) := ((((Keep.refl _ _).setCell (fun _ h => h) _ _).setCell (fun _ h => h) _ _).setCell (fun _ h => h) _ _).setCell (fun _ h => h) _ _
   generalize ((((w4.setCell ⟨s, 0, none⟩ (.int .i64 p.pid)).setCell ⟨s, 1, none⟩ (.string (bs p.unit))).setCell ⟨s, 2, none⟩ (.slice a' p.maps.length c')).setCell ⟨s, 3, none⟩ (.bool p.ending)) = wf at hz2 hk2 ⊢
   clear d0 d1 d2 d3 q0 q1 q2 q3 g0 g1 g2 g3 k2
   have d0 := blk_cell hz2 0 (.int .i64 p.pid) rfl
   have d1 := blk_cell hz2 1 (.string (bs p.unit)) rfl
   have d2 := blk_cell hz2 2 (.slice a' p.maps.length c') rfl
   have d3 := blk_cell hz2 3 (.bool p.ending) rfl
   refine bodyPost_ret (v := .tuple #[.agg #[.int .i64 p.pid, .string (bs p.unit), .slice a' p.maps.length c', .bool p.ending], .bool true]) (by simp [results, Tryz.results68, go_sem, d0, d1, d2, d3]) rfl ?_
   rw [HR.out]
   unfold GotR
   rw [HG.out]
   have hs2 := HS2.out
   have hsz := HSZ.out
   refine ⟨⟨a', c', rfl, ?_⟩, ?_⟩
   · refine OwnIs.low ?_ (by omega : w.heap.size ≤ s2)
     have h1 := HO.out.keep hk1 fun x cs hx _ => by have := (HO.out.block hx).1; show x.block ≠ s + 1; omega
     exact h1.keep hk2 fun x cs hx _ => by have := (HO.out.block hx).1; show x.block ≠ s; omega
   · exact (((Keep.of_ext (S := fun j => j < w.heap.size) HX3.out).andThen hk1 fun j _ hj => by have hj : j < w.heap.size := hj; show j ≠ s + 1; omega).andThen hk2 fun j _ hj => by have hj : j < w.heap.size := hj; show j ≠ s; omega).ext_lt
end
end Go.Proofs.YtefpllpichhojaaGreatDoor
namespace Go.Proofs.YtefpllpichhojaaGreatDoor
open Go.RowKit
variable [Low]
def tree08 : RefD := ⟨[rootE, ⟨[47, 97], 2, false⟩, ⟨[47, 98], 3, false⟩, ⟨[47, 100], 4, true⟩, ⟨[47, 100, 47, 99], 5, false⟩], [⟨2, [97]⟩, ⟨3, []⟩, ⟨5, []⟩], 6, 2000⟩
def file08 : FileS := ⟨tree08, fun _ => 0⟩
omit [Low] in
theorem do08 : doM (newM 2000) [⟨2, [47, 97], [], [97]⟩, ⟨2, [47, 98], [], []⟩, ⟨0, [47, 100], [], []⟩, ⟨2, [47, 100, 47, 99], [], []⟩] = (tree08, 0) := by
 rfl
omit [Low] in
theorem sweep08 : sweepM tree08 (fun _ => 0) = tree08 := (sweepM_eq _ _).trans rfl
section
variable {X : Nat → Prop}
set_option maxRecDepth 100000 in
set_option maxHeartbeats 12800000 in
theorem open08 (w : World) (hE : EnvL w) (hlw : Low.low ≤ w.heap.size) (hX : ∀ g, X g → g < w.heap.size) : Calls Tryz.prog 11 #[] w fun e w' => ∃ vb db kb, e = .returned (.pointer (some ⟨vb, 0, none⟩)) ∧ VolK X w' vb db kb 500 200010 2 1 2000 file08.m file08.hd ∧ KeepY X w w' := by
 obtain ⟨R, hR⟩ : ∃ R : Ending → World → Prop, R = fun e w' => ∃ vb db kb, e = .returned (.pointer (some ⟨vb, 0, none⟩)) ∧ VolK X w' vb db kb 500 200010 2 1 2000 file08.m file08.hd ∧ KeepY X w w' := ⟨_, rfl⟩
 rw [← hR]
 have HR := Lib.hid hR; clear hR
 have HE := Lib.hid hE.env; have HXS := Lib.hid hX; have HLW := Lib.hid hlw; clear hE hX hlw
 have kc := fun (w : World) (C : Array Value) (n c : Nat) => Lib.run_convert_bytes_const (P := Tryz.prog) w 50 5 C n c Tryz.underlying50 Tryz.underlying5
 go_enter Tryz.func11, Tryz.ntmps11
 go_upto_region 1 with (go_at_call 63; refine (disk_New 500 (by decide) (by decide) w HLW.out).mono ?_; rintro E w1 ⟨db, kb, rfl, hd, hx⟩; have HD := Lib.hid hd; have HX := Lib.hid hx; clear hd hx)
 go_upto_region 2 with (first
  | (go_at_call 63; refine (disk_New 500 (by decide) (by decide) w HLW.out).mono ?_; rintro E w1 ⟨db, kb, rfl, hd, hx⟩; have HD := Lib.hid hd; have HX := Lib.hid hx; clear hd hx)
  | (go_at_call 64; refine (at_vNew (X := X) (fun g hg => Nat.lt_of_lt_of_le (HXS.out g hg) HX.out.size) HD.out (by decide) 2000).mono ?_; rintro E w2 ⟨vb, rfl, hv, hk⟩; have HV := Lib.hid hv; have HY := Lib.hid ((KeepY.of_ext (X := X) HX.out).trans hk); clear hv hk))
 clear HX HD
 obtain ⟨tb, T0, c0, _, _⟩ := HV.out.tree
 go_upto_region 4 with fail
 clear c0
 go_upto_region 5 with (go_at_call 24; refine Hid.out ?_)
 refine Lib.hid ?_
 have hx_w3 : Ext w2 ((w2.alloc (.cells #[.int .u8 97] 5 (1, 2))).alloc (.cells #[.int .i64 2, .string ⟨#[47, 97]⟩, .string ⟨#[]⟩, .slice (some ⟨w2.heap.size, 0, none⟩) 1 1, .int .i64 2, .string ⟨#[47, 98]⟩, .string ⟨#[]⟩, .slice none 0 0, .int .i64 0, .string ⟨#[47, 100]⟩, .string ⟨#[]⟩, .slice none 0 0, .int .i64 2, .string ⟨#[47, 100, 47, 99]⟩, .string ⟨#[]⟩, .slice none 0 0] 52)) := ((Ext.alloc w2 (.cells #[.int .u8 97] 5 (1, 2))).trans (Ext.alloc (w2.alloc (.cells #[.int .u8 97] 5 (1, 2))) (.cells #[.int .i64 2, .string ⟨#[47, 97]⟩, .string ⟨#[]⟩, .slice (some ⟨w2.heap.size, 0, none⟩) 1 1, .int .i64 2, .string ⟨#[47, 98]⟩, .string ⟨#[]⟩, .slice none 0 0, .int .i64 0, .string ⟨#[47, 100]⟩, .string ⟨#[]⟩, .slice none 0 0, .int .i64 2, .string ⟨#[47, 100, 47, 99]⟩, .string ⟨#[]⟩, .slice none 0 0] 52)))
 have ho := heap_alloc_new (w2.alloc (.cells #[.int .u8 97] 5 (1, 2))) (.cells #[.int .i64 2, .string ⟨#[47, 97]⟩, .string ⟨#[]⟩, .slice (some ⟨w2.heap.size, 0, none⟩) 1 1, .int .i64 2, .string ⟨#[47, 98]⟩, .string ⟨#[]⟩, .slice none 0 0, .int .i64 0, .string ⟨#[47, 100]⟩, .string ⟨#[]⟩, .slice none 0 0, .int .i64 2, .string ⟨#[47, 100, 47, 99]⟩, .string ⟨#[]⟩, .slice none 0 0] 52)
 simp only [World.size_alloc] at ho
 have hd_0 := (Ext.alloc (w2.alloc (.cells #[.int .u8 97] 5 (1, 2))) (.cells #[.int .i64 2, .string ⟨#[47, 97]⟩, .string ⟨#[]⟩, .slice (some ⟨w2.heap.size, 0, none⟩) 1 1, .int .i64 2, .string ⟨#[47, 98]⟩, .string ⟨#[]⟩, .slice none 0 0, .int .i64 0, .string ⟨#[47, 100]⟩, .string ⟨#[]⟩, .slice none 0 0, .int .i64 2, .string ⟨#[47, 100, 47, 99]⟩, .string ⟨#[]⟩, .slice none 0 0] 52)).heap (heap_alloc_new w2 (.cells #[.int .u8 97] 5 (1, 2)))
 generalize ((w2.alloc (.cells #[.int .u8 97] 5 (1, 2))).alloc (.cells #[.int .i64 2, .string ⟨#[47, 97]⟩, .string ⟨#[]⟩, .slice (some ⟨w2.heap.size, 0, none⟩) 1 1, .int .i64 2, .string ⟨#[47, 98]⟩, .string ⟨#[]⟩, .slice none 0 0, .int .i64 0, .string ⟨#[47, 100]⟩, .string ⟨#[]⟩, .slice none 0 0, .int .i64 2, .string ⟨#[47, 100, 47, 99]⟩, .string ⟨#[]⟩, .slice none 0 0] 52)) = w3 at ho hx_w3 hd_0 ⊢
 have hops : OpsL w3 (some ⟨w2.heap.size + 1, 0, none⟩) ([(⟨2, [47, 97], [], [97]⟩, ⟨some ⟨w2.heap.size, 0, none⟩, 1⟩), (⟨2, [47, 98], [], []⟩, ⟨none, 0⟩), (⟨0, [47, 100], [], []⟩, ⟨none, 0⟩), (⟨2, [47, 100, 47, 99], [], []⟩, ⟨none, 0⟩)] : List (OpD × OpA)) := ops_blk ho (by
  intro z hz
  simp only [List.mem_cons, List.not_mem_nil, or_false] at hz
  rcases hz with rfl | rfl | rfl | rfl
  · exact bytes_blk (l := [97]) hd_0
  · exact Or.inl rfl
  · exact Or.inl rfl
  · exact Or.inl rfl)
 have hvd := at_vDoL (HE.out.keepY (HY.out.trans (KeepY.of_ext hx_w3))) (HV.out.ext hx_w3) (c := 4) hops (ops := [⟨2, [47, 97], [], [97]⟩, ⟨2, [47, 98], [], []⟩, ⟨0, [47, 100], [], []⟩, ⟨2, [47, 100, 47, 99], [], []⟩]) rfl (k := 4) rfl do08 (m2 := tree08) sweep08 (fit_all (by decide)) (by decide) (off' := 2) (by decide) (by decide) (by decide) (N' := 200010) (by decide) (by decide)
 refine hvd.mono ?_
 rintro E w4 ⟨rfl, hV, hk⟩
 have hy := (HY.out.trans (KeepY.of_ext hx_w3)).trans hk
 replace HV := Lib.hid hV
 replace HY := Lib.hid hy
 clear hV hk hy hx_w3 ho hops hvd hd_0
 go_wp2_with fail
 rw [HR.out]
 exact ⟨vb, db, kb, rfl, HV.out, HY.out⟩
end
end Go.Proofs.YtefpllpichhojaaGreatDoor
