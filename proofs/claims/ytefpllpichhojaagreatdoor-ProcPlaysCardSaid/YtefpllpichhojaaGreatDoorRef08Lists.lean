/- farrierref08.Exit, Without: lists anew. -/
import Derived.Test.YtefpllpichhojaaGreatDoorM7
import Derived.Test.YtefpllpichhojaaGreatDoorM10
import Derived.Deep.DrawnRows
namespace Go.Proofs.YtefpllpichhojaaGreatDoor
open Go.RowKit
attribute [local go_sem ↓] Go.wp_at_zero Go.wp_at_succ
abbrev PlayD := ProcD × (Option Addr × Nat)
def plV (x : PlayD) : List Value := [.int .i64 x.1.pid, .string (bs x.1.unit), .slice x.2.1 x.1.maps.length x.2.2, .bool x.1.ending]
def PlR (w : World) (a : Option Addr) (L : List PlayD) : Prop := RunM w a (L.flatMap plV)
theorem info_pl08 : (Tryz.prog.info? 36).map (fun i => (i.zero, i.size, i.bytes)) = some (some (.agg #[.int .i64 0, .string ⟨#[]⟩, .slice none 0 0, .bool false]), 4, 56) := by kernel_rfl
theorem ext_below8 {a b c : World} (h : Ext a b) (h2 : Below a.heap.size b c) : Ext a c :=
 ((Keep.of_ext (S := fun j => j < a.heap.size) h).trans ((Keep.of_below h2).mono (fun _ _ hj => hj))).ext_lt
def NewPls (L : List PlayD) (w : World) (e : Ending) (w' : World) : Prop := ∃ a c, e = .returned (.slice a L.length c) ∧ L.length ≤ c ∧ w'.ownsRow w.heap.size 36 4 (.slice a L.length c) L.length (L.flatMap plV) ∧ Ext w w'
def NewInts (L : List Int) (w : World) (e : Ending) (w' : World) : Prop := ∃ a c, e = .returned (.slice a L.length c) ∧ OwnIs w' w.heap.size a c L ∧ Ext w w'
theorem pls_len (L : List PlayD) : (L.flatMap plV).length = L.length * 4 := flat_lenm (m := 4) (fun _ => rfl) L
theorem plV_one (L : List PlayD) : ∀ u ∈ L.flatMap plV, u.oneCell' = true := by
 intro u hu
 obtain ⟨x, _, hx⟩ := List.mem_flatMap.1 hu
 simp only [plV, List.mem_cons, List.not_mem_nil, or_false] at hx
 rcases hx with rfl | rfl | rfl | rfl <;> rfl
theorem PlR.at {w : World} {a : Option Addr} {L : List PlayD} (h : PlR w a L) {i : Nat} (hi : i < L.length) :
 ∃ g off, a = some ⟨g, off, none⟩ ∧ g < w.heap.size ∧ w.cell? ⟨g, off + i * 4, none⟩ = some (.int .i64 L[i].1.pid) ∧ w.cell? ⟨g, off + i * 4 + 1, none⟩ = some (.string (bs L[i].1.unit)) ∧ w.cell? ⟨g, off + i * 4 + 2, none⟩ = some (.slice L[i].2.1 L[i].1.maps.length L[i].2.2) ∧ w.cell? ⟨g, off + i * 4 + 3, none⟩ = some (.bool L[i].1.ending) := by
 rcases of_runM (m := 4) (fun _ => rfl) (by omega) h with h | ⟨g, off, ha, hg, hc⟩
 · rw [h] at hi; simp at hi
 · exact ⟨g, off, ha, hg, hc i hi 0 _ (by omega) rfl, hc i hi 1 _ (by omega) rfl, hc i hi 2 _ (by omega) rfl, hc i hi 3 _ (by omega) rfl⟩
theorem PlR.take {w : World} {a : Option Addr} {L : List PlayD} (h : PlR w a L) (k : Nat) : PlR w a (L.take k) := by
 rcases h with h | ⟨g, off, ha, hg, hc⟩
 · left
   have h0 : L = [] := by
    have := pls_len L; rw [h] at this; simp at this
    exact List.eq_nil_of_length_eq_zero (by omega)
   rw [h0]; simp
 · refine Or.inr ⟨g, off, ha, hg, fun j u hj => hc j u ?_⟩
   have e : L.flatMap plV = (L.take k).flatMap plV ++ (L.drop k).flatMap plV := by rw [← List.flatMap_append, List.take_append_drop]
   rw [e, List.getElem?_append_left (List.getElem?_eq_some_iff.1 hj).1]
   exact hj
theorem PlR.drop {w : World} {g off : Nat} {L : List PlayD} (h : PlR w (some ⟨g, off, none⟩) L) {k : Nat} (hk : k ≤ L.length) : PlR w (some ⟨g, off + k * 4, none⟩) (L.drop k) := by
 rcases h with h | ⟨g', off', ha, hg, hc⟩
 · left
   have h0 : L = [] := by
    have := pls_len L; rw [h] at this; simp at this
    exact List.eq_nil_of_length_eq_zero (by omega)
   rw [h0]; simp
 · cases ha
   refine Or.inr ⟨g, off + k * 4, rfl, hg, fun j u hj => ?_⟩
   have e : L.flatMap plV = (L.take k).flatMap plV ++ (L.drop k).flatMap plV := by rw [← List.flatMap_append, List.take_append_drop]
   have hl : ((L.take k).flatMap plV).length = k * 4 := by rw [pls_len, List.length_take]; congr 1; omega
   have := hc (k * 4 + j) u (by rw [e, List.getElem?_append_right (by omega), hl, Nat.add_sub_cancel_left]; exact hj)
   rwa [← Nat.add_assoc] at this
theorem ints_len (L : List Int) : (intV L).length = L.length * 1 := by simp [intV]
theorem ints_take {w : World} {a : Option Addr} {L : List Int} (h : RunM w a (intV L)) (k : Nat) : RunM w a (intV (L.take k)) := by
 rcases h with h | ⟨g, off, ha, hg, hc⟩
 · left
   have h0 : L = [] := by unfold intV at h; simpa using h
   rw [h0]; simp [intV]
 · refine Or.inr ⟨g, off, ha, hg, fun j u hj => hc j u ?_⟩
   unfold intV at hj ⊢
   rw [List.map_take, List.getElem?_take] at hj
   split at hj
   · exact hj
   · cases hj
theorem ints_drop {w : World} {g off : Nat} {L : List Int} (h : RunM w (some ⟨g, off, none⟩) (intV L)) (k : Nat) : RunM w (some ⟨g, off + k * 1, none⟩) (intV (L.drop k)) := by
 rcases h with h | ⟨g', off', ha, hg, hc⟩
 · left
   have h0 : L = [] := by unfold intV at h; simpa using h
   rw [h0]; simp [intV]
 · cases ha
   refine Or.inr ⟨g, off + k * 1, rfl, hg, fun j u hj => ?_⟩
   unfold intV at hj
   rw [List.map_drop, List.getElem?_drop] at hj
   have := hc (k + j) u hj
   rwa [Nat.mul_one, Nat.add_assoc]
set_option maxRecDepth 100000 in
set_option maxHeartbeats 3200000 in
theorem ref_Exit8 (L : List PlayD) (a : Option Addr) (c k : Nat) (w : World) (hE : PlR w a L) (hc : L.length ≤ c) (hk : k < L.length) (hl : L.length ≤ 1000000) :
 Calls Tryz.prog 23 #[.slice a L.length c, .int .i64 k] w (NewPls (L.take k ++ L.drop (k + 1)) w) := by
 obtain ⟨R, hR⟩ : ∃ R, R = NewPls (L.take k ++ L.drop (k + 1)) w := ⟨_, rfl⟩
 rw [← hR]
 have HR := Lib.hid hR; clear hR
 obtain ⟨g, off, rfl, hg, _⟩ := hE.at hk
 have HT := Lib.hid (hE.take k)
 obtain ⟨ad, had⟩ : ∃ x : Addr, x = if c = k + 1 then ⟨g, off, none⟩ else ⟨g, off + (k + 1) * 4, none⟩ := ⟨_, rfl⟩
 have hdr : PlR w (some ad) (L.drop (k + 1)) := by
  rw [had]
  split
  · rw [List.drop_eq_nil_of_le (by omega)]; exact Or.inl rfl
  · exact hE.drop (k := k + 1) (by omega)
 have hif : (if c = k + 1 then some (⟨g, off, none⟩ : Addr) else some ⟨g, off + (k + 1) * 4, none⟩) = some ad := by
  rw [had]; split <;> rfl
 clear had
 have HD := Lib.hid hdr; clear hdr
 have hw1 : IntKind.i64.wrap ((k : Int) + 1) = ((k + 1 : Nat) : Int) := by rw [IntWalk.i64_in _ (by omega)]; rfl
 have ht : (L.take k).length = k := by rw [List.length_take]; omega
 have hd : (L.drop (k + 1)).length = L.length - (k + 1) := by rw [List.length_drop]
 have HTL := Lib.hid ht; have HDL := Lib.hid hd; clear ht hd
 clear hE
 generalize L.take k = L1 at HT HTL HR
 generalize L.drop (k + 1) = L2 at HD HDL HR
 obtain ⟨n, hn⟩ : ∃ n, n = L.length := ⟨_, rfl⟩
 rw [← hn] at hl hk hc HDL ⊢
 clear hn
 have HK := Lib.hid (Ext.refl w).drew
 have b1 : (0 : Int) ≤ (k : Int) := by omega
 have b2 : (k : Int) ≤ (c : Int) := by omega
 have b3 : (k : Int) + 1 ≤ (n : Int) := by omega
 have b4 : (0 : Int) ≤ (k : Int) + 1 := by omega
 have b5 : (n : Int) ≤ (c : Int) := by omega
 go_enter Tryz.func23, Tryz.ntmps23
 go_upto_region 1 with fail
 refine wp_region_noPanic ?_
 refine wp_region_held_drew (S := (fun _ => True)) (by kernel_rfl) trivial (fun hHeld => ?_)
 clear hHeld
 generalize w.drew = wc at HK ⊢
 refine wpAnyH_take (i := 1) (v := ?_) rfl (by kernel_rfl) (by kernel_rfl) (by kernel_rfl) (fun _ _ _ h => h) (Or.inl ⟨by kernel_rfl, ?_⟩) trivial ?_
 rotate_left
 · (intro wq _; first | (go_simp; done) | (go_simp; with_reducible rfl))
 try simp only [List.getElem_toArray, List.getElem_cons_zero, List.getElem_cons_succ, Act.put, List.setIfInBounds_toArray, List.set_cons_zero, List.set_cons_succ]
 refine wpAnyH_take (i := 2) (v := ?_) rfl (by kernel_rfl) (by kernel_rfl) (by kernel_rfl) (fun _ _ _ h => h) (Or.inl ⟨by kernel_rfl, ?_⟩) trivial ?_
 rotate_left
 · (intro wq _; first | (go_simp; done) | (go_simp; with_reducible rfl))
 try simp only [List.getElem_toArray, List.getElem_cons_zero, List.getElem_cons_succ, Act.put, List.setIfInBounds_toArray, List.set_cons_zero, List.set_cons_succ]
 refine wpAnyH_take (i := 3) (v := ?_) rfl (by kernel_rfl) (by kernel_rfl) (by kernel_rfl) (fun _ _ _ h => h) (Or.inl ⟨by kernel_rfl, ?_⟩) trivial ?_
 rotate_left
 · (intro wq _; first | (go_simp; done) | (go_simp; with_reducible rfl))
 try simp only [List.getElem_toArray, List.getElem_cons_zero, List.getElem_cons_succ, Act.put, List.setIfInBounds_toArray, List.set_cons_zero, List.set_cons_succ]
 refine wpAnyH_take (i := 5) (v := ?_) rfl (by kernel_rfl) (by kernel_rfl) (by kernel_rfl) (fun _ _ _ h => h) (Or.inl ⟨by kernel_rfl, ?_⟩) trivial ?_
 rotate_left
 · (intro wq _; first | (go_simp; done) | (go_simp; with_reducible rfl))
 try simp only [List.getElem_toArray, List.getElem_cons_zero, List.getElem_cons_succ, Act.put, List.setIfInBounds_toArray, List.set_cons_zero, List.set_cons_succ]
 refine wpAnyH_take (i := 6) (v := ?_) rfl (by kernel_rfl) (by kernel_rfl) (by kernel_rfl) (fun _ _ _ h => h) (Or.inl ⟨by kernel_rfl, ?_⟩) trivial ?_
 rotate_left
 · (intro wq _; first | (go_simp; done) | (go_simp; with_reducible rfl))
 try simp only [List.getElem_toArray, List.getElem_cons_zero, List.getElem_cons_succ, Act.put, List.setIfInBounds_toArray, List.set_cons_zero, List.set_cons_succ]
 refine wpAnyH_take (i := 7) (v := ?_) rfl (by kernel_rfl) (by kernel_rfl) (by kernel_rfl) (fun _ _ _ h => h) (Or.inl ⟨by kernel_rfl, ?_⟩) trivial ?_
 rotate_left
 · (intro wq _; first | (go_simp; done) | (go_simp; with_reducible rfl))
 try simp only [List.getElem_toArray, List.getElem_cons_zero, List.getElem_cons_succ, Act.put, List.setIfInBounds_toArray, List.set_cons_zero, List.set_cons_succ]
 refine wpAnyH_take (i := 8) (v := ?_) rfl (by kernel_rfl) (by kernel_rfl) (by kernel_rfl) (fun _ _ _ h => h) (Or.inl ⟨by kernel_rfl, ?_⟩) trivial ?_
 rotate_left
 · (intro wq _; first | (go_simp; done) | (go_simp; with_reducible rfl))
 try simp only [List.getElem_toArray, List.getElem_cons_zero, List.getElem_cons_succ, Act.put, List.setIfInBounds_toArray, List.set_cons_zero, List.set_cons_succ]
 all_goals (
  first
   | refine wpAnyH_ready (rs := [0]) (by decide +kernel) (by simp) ?_
  repeat' (first | exact AllReadyH.nil | (refine AllReadyH.cons rfl (fun K hK => ?_) ?_)))
 all_goals (
  first
   | (go_simp
      first
       | (have hx := Ext.alloc wc (.cells #[] 36)
          have hbn := heap_alloc_new wc (.cells #[] 36)
          have hle := HK.out.size
          refine hK.out _ (wc.alloc (.cells #[] 36)) trivial (fun _ => ?_)
          clear hK K
          replace HK := Lib.hid (HK.out.trans hx)
          obtain ⟨G0, hB⟩ : ∃ x, x = wc.heap.size := ⟨_, rfl⟩
          rw [← hB] at hbn hle ⊢
          have HO := Lib.hid (row_zero (base := w.heap.size) (E := 36) (size := 4) hbn hle)
          clear hbn hB hle hx
          generalize wc.alloc (.cells #[] 36) = wc at *
          try simp only [List.getElem_toArray, List.getElem_cons_zero, List.getElem_cons_succ, Act.put, List.setIfInBounds_toArray, List.set_cons_zero, List.set_cons_succ])))
 all_goals (
  first
   | refine wpAnyH_ready (rs := [4]) (by decide +kernel) (by simp) ?_
  repeat' (first | exact AllReadyH.nil | (refine AllReadyH.cons rfl (fun K hK => ?_) ?_)))
 all_goals (
  first
   | (refine step_append_any (by rfl) _ _ 28 36 (.agg #[.int .i64 0, .string ⟨#[]⟩, .slice none 0 0, .bool false]) 4 56 (by rfl) Tryz.underlying28 info_pl08 rfl (by decide) w.heap.size (some ⟨G0, 0, none⟩) 0 0 ([]) (by simp [Act.eval]) HO.out (some ⟨g, off, none⟩) k c (L1.flatMap plV) (by simp [Act.eval]) (by rw [pls_len, HTL.out]) (RunM.ext HT.out HK.out) (plV_one L1) (by omega) (by decide) HK.out.size (k) (by omega) ?_
      intro a4 c4 wn hown hkp hbl
      replace HK := Lib.hid (ext_below8 HK.out hbl)
      replace HO := Lib.hid hown
      clear hown hkp hbl
      refine hK.out _ _ trivial (fun _ => ?_)
      clear hK K
      obtain ⟨wc, rfl⟩ : ∃ x : World, x = wn := ⟨_, rfl⟩
      try simp only [List.getElem_toArray, List.getElem_cons_zero, List.getElem_cons_succ, Act.put, List.setIfInBounds_toArray, List.set_cons_zero, List.set_cons_succ]))
 all_goals (
  first
   | refine wpAnyH_ready (rs := [9]) (by decide +kernel) (by simp) ?_
  repeat' (first | exact AllReadyH.nil | (refine AllReadyH.cons rfl (fun K hK => ?_) ?_)))
 all_goals (
  first
   | (refine step_append_any (by rfl) _ _ 28 36 (.agg #[.int .i64 0, .string ⟨#[]⟩, .slice none 0 0, .bool false]) 4 56 (by rfl) Tryz.underlying28 info_pl08 rfl (by decide) w.heap.size a4 k c4 ([] ++ L1.flatMap plV) (by simp [Act.eval]) HO.out (some ad) (n - (k + 1)) (c - (k + 1)) (L2.flatMap plV) (by simp [Act.eval]) (by rw [pls_len, HDL.out]) (RunM.ext HD.out HK.out) (plV_one L2) (by omega) (by decide) HK.out.size (n - 1) (by omega) ?_
      intro a9 c9 wn hown hkp hbl
      replace HK := Lib.hid (ext_below8 HK.out hbl)
      replace HO := Lib.hid hown
      clear hown hkp hbl
      refine hK.out _ _ trivial (fun _ => ?_)
      clear hK K
      obtain ⟨wc, rfl⟩ : ∃ x : World, x = wn := ⟨_, rfl⟩
      try simp only [List.getElem_toArray, List.getElem_cons_zero, List.getElem_cons_succ, Act.put, List.setIfInBounds_toArray, List.set_cons_zero, List.set_cons_succ]
      refine wpAnyH_take (i := 10) (v := ?_) rfl (by kernel_rfl) (by kernel_rfl) (by kernel_rfl) (fun _ _ _ h => h) (Or.inl ⟨by kernel_rfl, ?_⟩) trivial ?_
      rotate_left
      · (intro wq _; first | (go_simp; done) | (go_simp; with_reducible rfl))
      try simp only [List.getElem_toArray, List.getElem_cons_zero, List.getElem_cons_succ, Act.put, List.setIfInBounds_toArray, List.set_cons_zero, List.set_cons_succ]))
 all_goals (
  refine wpAnyH_done (by kernel_rfl) ?_ _
  refine NoPanic.normal ?_
  go_wp2_with fail
  rw [HR.out]
  obtain ⟨a', c', hv, hcc, hrun, hfr⟩ := run_of_row HO.out
  cases hv
  have hll : (L1 ++ L2).length = n - 1 := by rw [List.length_append, HTL.out, HDL.out]; omega
  refine ⟨a9, c9, by rw [hll]; rfl, by rw [hll]; exact hcc, ?_, HK.out⟩
  rw [hll, List.flatMap_append]
  simpa using HO.out)
set_option maxRecDepth 100000 in
set_option maxHeartbeats 6400000 in
theorem ref_Without8_none (L : List Int) (a : Option Addr) (c : Nat) (x : Int) (w : World) (hE : RunM w a (intV L)) (hl : L.length ≤ 1000000) (hx : x ∉ L) :
 Calls Tryz.prog 18 #[.slice a L.length c, .int .i64 x] w fun e w' => e = .returned (.slice a L.length c) ∧ w = w' := by
 obtain ⟨R, hR⟩ : ∃ R : Ending → World → Prop, R = fun e w' => e = .returned (.slice a L.length c) ∧ w = w' := ⟨_, rfl⟩
 rw [← hR]
 have HR := Lib.hid hR; clear hR
 have HE := Lib.hid hE; have HX := Lib.hid hx; clear hE hx
 obtain ⟨n, hn⟩ : ∃ n, n = L.length := ⟨_, rfl⟩
 rw [← hn] at hl ⊢
 have HN := Lib.hid hn
 rw [← hn] at HR
 clear hn
 go_enter Tryz.func18, Tryz.ntmps18
 go_wp2_with fail
 go_loopw [5] (fun i wr => ∃ k : Nat, i = .int .i64 k ∧ k ≤ n ∧ Hid (wr = w)) (fun i _ => n - (intOf i).toNat)
 case atStart => exact ⟨0, rfl, Nat.zero_le _, Lib.hid rfl⟩
 case round =>
  obtain ⟨k, rfl, hk, hw⟩ := hrel
  obtain rfl := hw.out
  by_cases hlt : k < n
  · have hkL : k < L.length := by have := HN.out; omega
    rcases HE.out with h | ⟨g, off, rfl, _, hc⟩
    · have : L = [] := by unfold intV at h; simpa using h
      rw [this] at hkL; simp at hkL
    have c0 := hc k (.int .i64 L[k]) (by simp [intV, List.getElem?_eq_getElem hkL])
    have hne : (L[k] == x) = false := by
     have : L[k] ≠ x := fun e => HX.out (e ▸ List.getElem_mem hkL)
     simpa using this
    clear hc
    generalize L[k] = y at c0 hne
    clear hkL
    go_wp2_with fail
    go_roundw
    case rel => exact ⟨k + 1, by go_num, by omega, Lib.hid trivial⟩
    case measure => simp [intOf]; omega
  · go_wp2_with fail
    rw [HR.out]
    exact ⟨rfl, rfl⟩
set_option maxRecDepth 100000 in
set_option maxHeartbeats 6400000 in
theorem ref_Without8 (L : List Int) (a : Option Addr) (c k : Nat) (x : Int) (w : World) (hE : RunM w a (intV L)) (hc : L.length ≤ c) (hk : k < L.length) (hl : L.length ≤ 1000000) (hx : L[k] = x) (hne : ∀ j, j < k → L.getD j 0 ≠ x) :
 Calls Tryz.prog 18 #[.slice a L.length c, .int .i64 x] w (NewInts (L.take k ++ L.drop (k + 1)) w) := by
 obtain ⟨R, hR⟩ : ∃ R, R = NewInts (L.take k ++ L.drop (k + 1)) w := ⟨_, rfl⟩
 rw [← hR]
 have HR := Lib.hid hR; clear hR
 rcases hE with h | ⟨g, off, rfl, hg, hcc⟩
 · have : L = [] := by unfold intV at h; simpa using h
   rw [this] at hk; simp at hk
 have hE : RunM w (some ⟨g, off, none⟩) (intV L) := Or.inr ⟨g, off, rfl, hg, hcc⟩
 have hall : ∀ j (h : j < L.length), w.cell? ⟨g, off + j, none⟩ = some (.int .i64 L[j]) := fun j h => hcc j _ (by simp [intV, List.getElem?_eq_getElem h])
 have HALL := Lib.hid hall; have HNE := Lib.hid hne; have HX := Lib.hid hx; have HKL := Lib.hid hk
 have HT := Lib.hid (ints_take hE k)
 obtain ⟨ad, had⟩ : ∃ x : Addr, x = if c = k + 1 then ⟨g, off, none⟩ else ⟨g, off + (k + 1) * 1, none⟩ := ⟨_, rfl⟩
 have hdr : RunM w (some ad) (intV (L.drop (k + 1))) := by
  rw [had]
  split
  · rw [List.drop_eq_nil_of_le (by omega)]; exact Or.inl rfl
  · exact ints_drop hE (k + 1)
 have hif : (if c = k + 1 then some (⟨g, off, none⟩ : Addr) else some ⟨g, off + (k + 1) * 1, none⟩) = some ad := by
  rw [had]; split <;> rfl
 rw [Nat.mul_one] at hif
 clear had
 have HD := Lib.hid hdr; clear hdr
 have hw1 : IntKind.i64.wrap ((k : Int) + 1) = ((k + 1 : Nat) : Int) := by rw [IntWalk.i64_in _ (by omega)]; rfl
 have ht : (L.take k).length = k := by rw [List.length_take]; omega
 have hd : (L.drop (k + 1)).length = L.length - (k + 1) := by rw [List.length_drop]
 have HTL := Lib.hid ht; have HDL := Lib.hid hd; clear ht hd
 clear hE hall hne hx hcc
 generalize L.take k = L1 at HT HTL HR
 generalize L.drop (k + 1) = L2 at HD HDL HR
 obtain ⟨n, hn⟩ : ∃ n, n = L.length := ⟨_, rfl⟩
 have HN := Lib.hid hn
 rw [← hn] at hl hk hc HDL ⊢
 clear hn
 have HK := Lib.hid (Ext.refl w).drew
 have b1 : (0 : Int) ≤ (k : Int) := by omega
 have b2 : (k : Int) ≤ (c : Int) := by omega
 have b3 : (k : Int) + 1 ≤ (n : Int) := by omega
 have b4 : (0 : Int) ≤ (k : Int) + 1 := by omega
 have b5 : (n : Int) ≤ (c : Int) := by omega
 go_enter Tryz.func18, Tryz.ntmps18
 go_wp2_with fail
 go_loopw [5] (fun i wr => ∃ j : Nat, i = .int .i64 j ∧ j ≤ k ∧ Hid (wr = w)) (fun i _ => n - (intOf i).toNat)
 case atStart => exact ⟨0, rfl, Nat.zero_le _, Lib.hid rfl⟩
 case round =>
  obtain ⟨j, rfl, hj, hw⟩ := hrel
  obtain rfl := hw.out
  have hjL : j < L.length := by have := HN.out; omega
  have c0 := HALL.out j hjL
  by_cases hlt : j < k
  · have hjn : j < n := by omega
    have hne : (L[j] == x) = false := by
     have := HNE.out j hlt
     rw [List.getD_eq_getElem?_getD, List.getElem?_eq_getElem hjL] at this
     simpa using this
    generalize L[j] = y at c0 hne
    clear hjL hw1 b3 b4
    go_wp2_with fail
    go_roundw
    case rel => exact ⟨j + 1, by go_num, by omega, Lib.hid trivial⟩
    case measure => simp [intOf]; omega
  · obtain rfl : k = j := by omega
    rw [HX.out] at c0
    have hxx : (x == x) = true := by simp
    clear hjL hj hlt
    go_upto_region 5 with fail
    refine wp_region_noPanic ?_
    refine wp_region_held_drew (S := (fun _ => True)) (by kernel_rfl) trivial (fun hHeld => ?_)
    clear hHeld
    generalize wr.drew = wc at HK ⊢
    refine wpAnyH_take (i := 1) (v := ?_) rfl (by kernel_rfl) (by kernel_rfl) (by kernel_rfl) (fun _ _ _ h => h) (Or.inl ⟨by kernel_rfl, ?_⟩) trivial ?_
    rotate_left
    · (intro wq _; first | (go_simp; done) | (go_simp; with_reducible rfl))
    try simp only [List.getElem_toArray, List.getElem_cons_zero, List.getElem_cons_succ, Act.put, List.setIfInBounds_toArray, List.set_cons_zero, List.set_cons_succ]
    refine wpAnyH_take (i := 2) (v := ?_) rfl (by kernel_rfl) (by kernel_rfl) (by kernel_rfl) (fun _ _ _ h => h) (Or.inl ⟨by kernel_rfl, ?_⟩) trivial ?_
    rotate_left
    · (intro wq _; first | (go_simp; done) | (go_simp; with_reducible rfl))
    try simp only [List.getElem_toArray, List.getElem_cons_zero, List.getElem_cons_succ, Act.put, List.setIfInBounds_toArray, List.set_cons_zero, List.set_cons_succ]
    refine wpAnyH_take (i := 3) (v := ?_) rfl (by kernel_rfl) (by kernel_rfl) (by kernel_rfl) (fun _ _ _ h => h) (Or.inl ⟨by kernel_rfl, ?_⟩) trivial ?_
    rotate_left
    · (intro wq _; first | (go_simp; done) | (go_simp; with_reducible rfl))
    try simp only [List.getElem_toArray, List.getElem_cons_zero, List.getElem_cons_succ, Act.put, List.setIfInBounds_toArray, List.set_cons_zero, List.set_cons_succ]
    refine wpAnyH_take (i := 5) (v := ?_) rfl (by kernel_rfl) (by kernel_rfl) (by kernel_rfl) (fun _ _ _ h => h) (Or.inl ⟨by kernel_rfl, ?_⟩) trivial ?_
    rotate_left
    · (intro wq _; first | (go_simp; done) | (go_simp; with_reducible rfl))
    try simp only [List.getElem_toArray, List.getElem_cons_zero, List.getElem_cons_succ, Act.put, List.setIfInBounds_toArray, List.set_cons_zero, List.set_cons_succ]
    refine wpAnyH_take (i := 6) (v := ?_) rfl (by kernel_rfl) (by kernel_rfl) (by kernel_rfl) (fun _ _ _ h => h) (Or.inl ⟨by kernel_rfl, ?_⟩) trivial ?_
    rotate_left
    · (intro wq _; first | (go_simp; done) | (go_simp; with_reducible rfl))
    try simp only [List.getElem_toArray, List.getElem_cons_zero, List.getElem_cons_succ, Act.put, List.setIfInBounds_toArray, List.set_cons_zero, List.set_cons_succ]
    refine wpAnyH_take (i := 7) (v := ?_) rfl (by kernel_rfl) (by kernel_rfl) (by kernel_rfl) (fun _ _ _ h => h) (Or.inl ⟨by kernel_rfl, ?_⟩) trivial ?_
    rotate_left
    · (intro wq _; first | (go_simp; done) | (go_simp; with_reducible rfl))
    try simp only [List.getElem_toArray, List.getElem_cons_zero, List.getElem_cons_succ, Act.put, List.setIfInBounds_toArray, List.set_cons_zero, List.set_cons_succ]
    refine wpAnyH_take (i := 8) (v := ?_) rfl (by kernel_rfl) (by kernel_rfl) (by kernel_rfl) (fun _ _ _ h => h) (Or.inl ⟨by kernel_rfl, ?_⟩) trivial ?_
    rotate_left
    · (intro wq _; first | (go_simp; done) | (go_simp; with_reducible rfl))
    try simp only [List.getElem_toArray, List.getElem_cons_zero, List.getElem_cons_succ, Act.put, List.setIfInBounds_toArray, List.set_cons_zero, List.set_cons_succ]
    all_goals (
     first
      | refine wpAnyH_ready (rs := [0]) (by decide +kernel) (by simp) ?_
     repeat' (first | exact AllReadyH.nil | (refine AllReadyH.cons rfl (fun K hK => ?_) ?_)))
    all_goals (
     first
      | (go_simp
         first
          | (have hx := Ext.alloc wc (.cells #[] 3)
             have hbn := heap_alloc_new wc (.cells #[] 3)
             have hle := HK.out.size
             refine hK.out _ (wc.alloc (.cells #[] 3)) trivial (fun _ => ?_)
             clear hK K
             replace HK := Lib.hid (HK.out.trans hx)
             obtain ⟨G0, hB⟩ : ∃ x, x = wc.heap.size := ⟨_, rfl⟩
             rw [← hB] at hbn hle ⊢
             have HO := Lib.hid (row_zero (base := wr.heap.size) (E := 3) (size := 1) hbn hle)
             clear hbn hB hle hx
             generalize wc.alloc (.cells #[] 3) = wc at *
             try simp only [List.getElem_toArray, List.getElem_cons_zero, List.getElem_cons_succ, Act.put, List.setIfInBounds_toArray, List.set_cons_zero, List.set_cons_succ])))
    all_goals (
     first
      | refine wpAnyH_ready (rs := [4]) (by decide +kernel) (by simp) ?_
     repeat' (first | exact AllReadyH.nil | (refine AllReadyH.cons rfl (fun K hK => ?_) ?_)))
    all_goals (
     first
      | (refine step_append_any (by rfl) _ _ 34 3 (.int .i64 0) 1 8 (by rfl) Tryz.underlying34 info_intL rfl (by decide) wr.heap.size (some ⟨G0, 0, none⟩) 0 0 ([]) (by simp [Act.eval]) HO.out (some ⟨g, off, none⟩) k c (intV L1) (by simp [Act.eval]) (by rw [ints_len, HTL.out]) (RunM.ext HT.out HK.out) (intV_one L1) (by omega) (by decide) HK.out.size (k) (by omega) ?_
         intro a4 c4 wn hown hkp hbl
         replace HK := Lib.hid (ext_below8 HK.out hbl)
         replace HO := Lib.hid hown
         clear hown hkp hbl
         refine hK.out _ _ trivial (fun _ => ?_)
         clear hK K
         obtain ⟨wc, rfl⟩ : ∃ x : World, x = wn := ⟨_, rfl⟩
         try simp only [List.getElem_toArray, List.getElem_cons_zero, List.getElem_cons_succ, Act.put, List.setIfInBounds_toArray, List.set_cons_zero, List.set_cons_succ]))
    all_goals (
     first
      | refine wpAnyH_ready (rs := [9]) (by decide +kernel) (by simp) ?_
     repeat' (first | exact AllReadyH.nil | (refine AllReadyH.cons rfl (fun K hK => ?_) ?_)))
    all_goals (
     first
      | (refine step_append_any (by rfl) _ _ 34 3 (.int .i64 0) 1 8 (by rfl) Tryz.underlying34 info_intL rfl (by decide) wr.heap.size a4 k c4 (([] ++ intV L1)) (by simp [Act.eval]) HO.out (some ad) (n - (k + 1)) (c - (k + 1)) (intV L2) (by simp [Act.eval]) (by rw [ints_len, HDL.out]) (RunM.ext HD.out HK.out) (intV_one L2) (by omega) (by decide) HK.out.size (n - 1) (by omega) ?_
         intro a9 c9 wn hown hkp hbl
         replace HK := Lib.hid (ext_below8 HK.out hbl)
         replace HO := Lib.hid hown
         clear hown hkp hbl
         refine hK.out _ _ trivial (fun _ => ?_)
         clear hK K
         obtain ⟨wc, rfl⟩ : ∃ x : World, x = wn := ⟨_, rfl⟩
         try simp only [List.getElem_toArray, List.getElem_cons_zero, List.getElem_cons_succ, Act.put, List.setIfInBounds_toArray, List.set_cons_zero, List.set_cons_succ]
         refine wpAnyH_take (i := 10) (v := ?_) rfl (by kernel_rfl) (by kernel_rfl) (by kernel_rfl) (fun _ _ _ h => h) (Or.inl ⟨by kernel_rfl, ?_⟩) trivial ?_
         rotate_left
         · (intro wq _; first | (go_simp; done) | (go_simp; with_reducible rfl))
         try simp only [List.getElem_toArray, List.getElem_cons_zero, List.getElem_cons_succ, Act.put, List.setIfInBounds_toArray, List.set_cons_zero, List.set_cons_succ]))
    all_goals (
     refine wpAnyH_done (by kernel_rfl) ?_ _
     refine NoPanic.normal ?_
     go_wp2_with fail
     rw [HR.out]
     obtain ⟨a', c', hv, hcc, hrun, hfr⟩ := run_of_row HO.out
     cases hv
     have hll : (L1 ++ L2).length = n - 1 := by rw [List.length_append, HTL.out, HDL.out]; omega
     refine ⟨a9, c9, by rw [hll], ?_, HK.out⟩
     unfold OwnIs
     rw [hll]
     unfold intV
     rw [List.map_append]
     simpa [intV] using HO.out)
end Go.Proofs.YtefpllpichhojaaGreatDoor
