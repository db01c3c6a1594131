/- farrierref06.without, with: lists of entries anew. -/
import Derived.Test.YtldgpcmnmegioaaGreatDoorRefMem
import Derived.Deep.DrawnRows
namespace Go.Proofs.YtldgpcmnmegioaaGreatDoor
open Go.RowKit
attribute [local go_sem ↓] Go.wp_at_zero Go.wp_at_succ
theorem info_ent06 : (Tryz.prog.info? 48).map (fun i => (i.zero, i.size, i.bytes)) = some (some (.agg #[.string ⟨#[]⟩, .int .i64 0, .bool false]), 3, 32) := by kernel_rfl
theorem ext_below' {a b c : World} (h : Ext a b) (h2 : Below a.heap.size b c) : Ext a c :=
  ((Keep.of_ext (S := fun j => j < a.heap.size) h).trans ((Keep.of_below h2).mono (fun _ _ hj => hj))).ext_lt
/-- A list of entries that a call made. -/
def NewEnts (L : List EntD) (w : World) (e : Ending) (w' : World) : Prop := ∃ a c, e = .returned (.slice a L.length c) ∧ L.length ≤ c ∧ EntsR w' a L ∧ Fresh w.heap.size a ∧ Ext w w'
theorem ents_len (L : List EntD) : (L.flatMap entV).length = L.length * 3 := flat_lenm (m := 3) (fun _ => rfl) L
theorem EntsR.take {w : World} {a : Option Addr} {L : List EntD} (h : EntsR w a L) (k : Nat) : EntsR w a (L.take k) := by
  rcases h with h | ⟨g, off, ha, hg, hc⟩
  · left
    have h0 : L = [] := by
      have := ents_len L; rw [h] at this; simp at this
      exact List.eq_nil_of_length_eq_zero (by omega)
    rw [h0]; simp
  · refine Or.inr ⟨g, off, ha, hg, fun j u hj => hc j u ?_⟩
    have e : L.flatMap entV = (L.take k).flatMap entV ++ (L.drop k).flatMap entV := by rw [← List.flatMap_append, List.take_append_drop]
    rw [e, List.getElem?_append_left (List.getElem?_eq_some_iff.1 hj).1]
    exact hj
theorem EntsR.drop {w : World} {g off : Nat} {L : List EntD} (h : EntsR w (some ⟨g, off, none⟩) L) {k : Nat} (hk : k ≤ L.length) : EntsR w (some ⟨g, off + k * 3, none⟩) (L.drop k) := by
  rcases h with h | ⟨g', off', ha, hg, hc⟩
  · left
    have h0 : L = [] := by
      have := ents_len L; rw [h] at this; simp at this
      exact List.eq_nil_of_length_eq_zero (by omega)
    rw [h0]; simp
  · cases ha
    refine Or.inr ⟨g, off + k * 3, rfl, hg, fun j u hj => ?_⟩
    have e : L.flatMap entV = (L.take k).flatMap entV ++ (L.drop k).flatMap entV := by rw [← List.flatMap_append, List.take_append_drop]
    have hl : ((L.take k).flatMap entV).length = k * 3 := by rw [ents_len, List.length_take]; congr 1; omega
    have := hc (k * 3 + j) u (by rw [e, List.getElem?_append_right (by omega), hl, Nat.add_sub_cancel_left]; exact hj)
    rwa [← Nat.add_assoc] at this
set_option maxRecDepth 100000 in
set_option maxHeartbeats 3200000 in
theorem ref_without (L : List EntD) (a : Option Addr) (c k : Nat) (w : World) (hE : EntsR w a L) (hc : L.length ≤ c) (hk : k < L.length) (hl : L.length ≤ 1099511627776) :
    Calls Tryz.prog 29 #[.slice a L.length c, .int .i64 k] w (NewEnts (L.take k ++ L.drop (k + 1)) w) := by
  obtain ⟨R, hR⟩ : ∃ R, R = NewEnts (L.take k ++ L.drop (k + 1)) w := ⟨_, rfl⟩
  rw [← hR]
  have HR := Lib.hid hR; clear hR
  obtain ⟨g, off, rfl, hg, _⟩ := hE.at hk
  have HT := Lib.hid (hE.take k)
  obtain ⟨ad, had⟩ : ∃ x : Addr, x = if c = k + 1 then ⟨g, off, none⟩ else ⟨g, off + (k + 1) * 3, none⟩ := ⟨_, rfl⟩
  have hdr : EntsR w (some ad) (L.drop (k + 1)) := by
    rw [had]
    split
    · rw [List.drop_eq_nil_of_le (by omega)]; exact Or.inl rfl
    · exact hE.drop (k := k + 1) (by omega)
  have hif : (if c = k + 1 then some (⟨g, off, none⟩ : Addr) else some ⟨g, off + (k + 1) * 3, none⟩) = some ad := by
    rw [had]; split <;> rfl
  clear had
  have HD := Lib.hid hdr; clear hdr
  have hw1 : IntKind.i64.wrap ((k : Int) + 1) = ((k + 1 : Nat) : Int) := by rw [IntWalk.i64_in _ (by omega)]; rfl
  have ht : (L.take k).length = k := by rw [List.length_take]; omega
  have hd : (L.drop (k + 1)).length = L.length - (k + 1) := by rw [List.length_drop]
  have HTL := Lib.hid ht; have HDL := Lib.hid hd; clear ht hd hE
  generalize L.take k = L1 at HT HTL HR
  generalize L.drop (k + 1) = L2 at HD HDL HR
  obtain ⟨n, hn⟩ : ∃ n, n = L.length := ⟨_, rfl⟩
  rw [← hn] at hl hk hc HDL ⊢
  clear hn
  have HK := Lib.hid (Ext.refl w).drew
  have b1 : (0 : Int) ≤ (k : Int) := by omega
  have b2 : (k : Int) ≤ (c : Int) := by omega
  have b3 : (k : Int) + 1 ≤ (n : Int) := by omega
  have b4 : (0 : Int) ≤ (k : Int) + 1 := by omega
  have b5 : (n : Int) ≤ (c : Int) := by omega
  go_enter Tryz.func29, Tryz.ntmps29
  go_upto_region 1 with fail
  refine wp_region_noPanic ?_
  refine wp_region_held_drew (S := (fun _ => True)) (by kernel_rfl) trivial (fun hHeld => ?_)
  clear hHeld
  generalize w.drew = wc at HK ⊢
  refine wpAnyH_take (i := 1) (v := ?_) rfl (by kernel_rfl) (by kernel_rfl) (by kernel_rfl) (fun _ _ _ h => h) (Or.inl ⟨by kernel_rfl, ?_⟩) trivial ?_
  rotate_left
  · (intro wq _; first | (go_simp; done) | (go_simp; with_reducible rfl))
  try simp only [List.getElem_toArray, List.getElem_cons_zero, List.getElem_cons_succ, Act.put, List.setIfInBounds_toArray, List.set_cons_zero, List.set_cons_succ]
  refine wpAnyH_take (i := 2) (v := ?_) rfl (by kernel_rfl) (by kernel_rfl) (by kernel_rfl) (fun _ _ _ h => h) (Or.inl ⟨by kernel_rfl, ?_⟩) trivial ?_
  rotate_left
  · (intro wq _; first | (go_simp; done) | (go_simp; with_reducible rfl))
  try simp only [List.getElem_toArray, List.getElem_cons_zero, List.getElem_cons_succ, Act.put, List.setIfInBounds_toArray, List.set_cons_zero, List.set_cons_succ]
  refine wpAnyH_take (i := 3) (v := ?_) rfl (by kernel_rfl) (by kernel_rfl) (by kernel_rfl) (fun _ _ _ h => h) (Or.inl ⟨by kernel_rfl, ?_⟩) trivial ?_
  rotate_left
  · (intro wq _; first | (go_simp; done) | (go_simp; with_reducible rfl))
  try simp only [List.getElem_toArray, List.getElem_cons_zero, List.getElem_cons_succ, Act.put, List.setIfInBounds_toArray, List.set_cons_zero, List.set_cons_succ]
  refine wpAnyH_take (i := 5) (v := ?_) rfl (by kernel_rfl) (by kernel_rfl) (by kernel_rfl) (fun _ _ _ h => h) (Or.inl ⟨by kernel_rfl, ?_⟩) trivial ?_
  rotate_left
  · (intro wq _; first | (go_simp; done) | (go_simp; with_reducible rfl))
  try simp only [List.getElem_toArray, List.getElem_cons_zero, List.getElem_cons_succ, Act.put, List.setIfInBounds_toArray, List.set_cons_zero, List.set_cons_succ]
  refine wpAnyH_take (i := 6) (v := ?_) rfl (by kernel_rfl) (by kernel_rfl) (by kernel_rfl) (fun _ _ _ h => h) (Or.inl ⟨by kernel_rfl, ?_⟩) trivial ?_
  rotate_left
  · (intro wq _; first | (go_simp; done) | (go_simp; with_reducible rfl))
  try simp only [List.getElem_toArray, List.getElem_cons_zero, List.getElem_cons_succ, Act.put, List.setIfInBounds_toArray, List.set_cons_zero, List.set_cons_succ]
  refine wpAnyH_take (i := 7) (v := ?_) rfl (by kernel_rfl) (by kernel_rfl) (by kernel_rfl) (fun _ _ _ h => h) (Or.inl ⟨by kernel_rfl, ?_⟩) trivial ?_
  rotate_left
  · (intro wq _; first | (go_simp; done) | (go_simp; with_reducible rfl))
  try simp only [List.getElem_toArray, List.getElem_cons_zero, List.getElem_cons_succ, Act.put, List.setIfInBounds_toArray, List.set_cons_zero, List.set_cons_succ]
  refine wpAnyH_take (i := 8) (v := ?_) rfl (by kernel_rfl) (by kernel_rfl) (by kernel_rfl) (fun _ _ _ h => h) (Or.inl ⟨by kernel_rfl, ?_⟩) trivial ?_
  rotate_left
  · (intro wq _; first | (go_simp; done) | (go_simp; with_reducible rfl))
  try simp only [List.getElem_toArray, List.getElem_cons_zero, List.getElem_cons_succ, Act.put, List.setIfInBounds_toArray, List.set_cons_zero, List.set_cons_succ]
  all_goals (
    first
      | refine wpAnyH_ready (rs := [0]) (by decide +kernel) (by simp) ?_
    repeat' (first | exact AllReadyH.nil | (refine AllReadyH.cons rfl (fun K hK => ?_) ?_)))
  all_goals (
    first
      | (go_simp
         first
           | (have hx := Ext.alloc wc (.cells #[] 48)
              have hbn := heap_alloc_new wc (.cells #[] 48)
              have hle := HK.out.size
              refine hK.out _ (wc.alloc (.cells #[] 48)) trivial (fun _ => ?_)
              clear hK K
              replace HK := Lib.hid (HK.out.trans hx)
              obtain ⟨G0, hB⟩ : ∃ x, x = wc.heap.size := ⟨_, rfl⟩
              rw [← hB] at hbn hle ⊢
              have HO := Lib.hid (row_zero (base := w.heap.size) (size := 3) hbn hle)
              clear hbn hB hle hx
              generalize wc.alloc (.cells #[] 48) = wc at *
              try simp only [List.getElem_toArray, List.getElem_cons_zero, List.getElem_cons_succ, Act.put, List.setIfInBounds_toArray, List.set_cons_zero, List.set_cons_succ])))
  all_goals (
    first
      | refine wpAnyH_ready (rs := [4]) (by decide +kernel) (by simp) ?_
    repeat' (first | exact AllReadyH.nil | (refine AllReadyH.cons rfl (fun K hK => ?_) ?_)))
  all_goals (
    first
      | (refine step_append_any (by rfl) _ _ 27 48 (.agg #[.string ⟨#[]⟩, .int .i64 0, .bool false]) 3 32 (by rfl) Tryz.underlying27 info_ent06 rfl (by decide) w.heap.size (some ⟨G0, 0, none⟩) 0 0 ([]) (by simp [Act.eval]) HO.out (some ⟨g, off, none⟩) k c (L1.flatMap entV) (by simp [Act.eval]) (by rw [ents_len, HTL.out]) (RunM.ext HT.out HK.out) (entV_one L1) (by omega) (by decide) HK.out.size (k) (by omega) ?_
         intro a4 c4 wn hown hkp hbl
         replace HK := Lib.hid (ext_below' HK.out hbl)
         replace HO := Lib.hid hown
         clear hown hkp hbl
         refine hK.out _ _ trivial (fun _ => ?_)
         clear hK K
         obtain ⟨wc, rfl⟩ : ∃ x : World, x = wn := ⟨_, rfl⟩
         try simp only [List.getElem_toArray, List.getElem_cons_zero, List.getElem_cons_succ, Act.put, List.setIfInBounds_toArray, List.set_cons_zero, List.set_cons_succ]))
  all_goals (
    first
      | refine wpAnyH_ready (rs := [9]) (by decide +kernel) (by simp) ?_
    repeat' (first | exact AllReadyH.nil | (refine AllReadyH.cons rfl (fun K hK => ?_) ?_)))
  all_goals (
    first
      | (refine step_append_any (by rfl) _ _ 27 48 (.agg #[.string ⟨#[]⟩, .int .i64 0, .bool false]) 3 32 (by rfl) Tryz.underlying27 info_ent06 rfl (by decide) w.heap.size a4 k c4 ([] ++ L1.flatMap entV) (by simp [Act.eval]) HO.out (some ad) (n - (k + 1)) (c - (k + 1)) (L2.flatMap entV) (by simp [Act.eval]) (by rw [ents_len, HDL.out]) (RunM.ext HD.out HK.out) (entV_one L2) (by omega) (by decide) HK.out.size (n - 1) (by omega) ?_
         intro a9 c9 wn hown hkp hbl
         replace HK := Lib.hid (ext_below' HK.out hbl)
         replace HO := Lib.hid hown
         clear hown hkp hbl
         refine hK.out _ _ trivial (fun _ => ?_)
         clear hK K
         obtain ⟨wc, rfl⟩ : ∃ x : World, x = wn := ⟨_, rfl⟩
         try simp only [List.getElem_toArray, List.getElem_cons_zero, List.getElem_cons_succ, Act.put, List.setIfInBounds_toArray, List.set_cons_zero, List.set_cons_succ]
         refine wpAnyH_take (i := 10) (v := ?_) rfl (by kernel_rfl) (by kernel_rfl) (by kernel_rfl) (fun _ _ _ h => h) (Or.inl ⟨by kernel_rfl, ?_⟩) trivial ?_
         rotate_left
         · (intro wq _; first | (go_simp; done) | (go_simp; with_reducible rfl))
         try simp only [List.getElem_toArray, List.getElem_cons_zero, List.getElem_cons_succ, Act.put, List.setIfInBounds_toArray, List.set_cons_zero, List.set_cons_succ]))
  all_goals (
    refine wpAnyH_done (by kernel_rfl) ?_ _
    refine NoPanic.normal ?_
    go_wp2_with fail
    rw [HR.out]
    obtain ⟨a', c', hv, hcc, hrun, hfr⟩ := run_of_row HO.out
    cases hv
    have hll : (L1 ++ L2).length = n - 1 := by rw [List.length_append, HTL.out, HDL.out]; omega
    refine ⟨a9, c9, by rw [hll]; rfl, by rw [hll]; exact hcc, ?_, hfr, HK.out⟩
    show RunM wc a9 ((L1 ++ L2).flatMap entV)
    simpa [List.flatMap_append] using hrun)
set_option maxRecDepth 100000 in
set_option maxHeartbeats 6400000 in
theorem ref_with (L : List EntD) (a : Option Addr) (c : Nat) (e : EntD) (w : World) (hE : EntsR w a L) (hl : L.length ≤ 1099511627776) :
    Calls Tryz.prog 28 #[.slice a L.length c, .agg #[.string (bs e.path), .int .i64 e.id, .bool e.dir]] w (NewEnts (L ++ [e]) w) := by
  obtain ⟨R, hR⟩ : ∃ R, R = NewEnts (L ++ [e]) w := ⟨_, rfl⟩
  rw [← hR]
  have HR := Lib.hid hR; clear hR
  obtain ⟨n, hn⟩ : ∃ n, n = L.length := ⟨_, rfl⟩
  rw [← hn] at hl ⊢
  have HN := Lib.hid hn; clear hn
  have HRU := Lib.hid hE; clear hE
  obtain ⟨ep, ei, ed⟩ := e
  simp only at ⊢
  go_enter Tryz.func28, Tryz.ntmps28
  go_upto_region 1 with fail
  have hx1 := Ext.alloc w (.cells #[.string (bs ep), .int .i64 ei, .bool ed] 48)
  have hf1 := heap_alloc_new w (.cells #[.string (bs ep), .int .i64 ei, .bool ed] 48)
  generalize w.alloc (.cells #[.string (bs ep), .int .i64 ei, .bool ed] 48) = w2 at hx1 hf1 ⊢
  generalize w.heap.size = B at hf1 ⊢
  have hcs : ∀ W, Ext w2 W → (W.cell? ⟨B, 0, none⟩ = some (.string (bs ep)) ∧ W.cell? ⟨B, 1, none⟩ = some (.int .i64 ei) ∧ W.cell? ⟨B, 2, none⟩ = some (.bool ed)) := fun W k => ⟨blk_cell (k.heap hf1) 0 _ rfl, blk_cell (k.heap hf1) 1 _ rfl, blk_cell (k.heap hf1) 2 _ rfl⟩
  have HCS := Lib.hid hcs; clear hcs
  have HX := Lib.hid hx1; clear hx1 hf1
  have HRU2 := Lib.hid (HRU.out.ext HX.out); clear HRU
  have HK := Lib.hid (Ext.refl w2).drew
  refine wp_region_noPanic ?_
  refine wp_region_held_drew (S := (fun W => W.cell? ⟨B, 0, none⟩ = some (.string (bs ep)) ∧ W.cell? ⟨B, 1, none⟩ = some (.int .i64 ei) ∧ W.cell? ⟨B, 2, none⟩ = some (.bool ed))) (by kernel_rfl) (HCS.out _ HK.out) (fun hHeld => ?_)
  clear hHeld
  generalize w2.drew = wc at HK ⊢
  refine wpAnyH_take (i := 1) (v := ?_) rfl (by kernel_rfl) (by kernel_rfl) (by kernel_rfl) (fun _ _ _ h => h) (Or.inl ⟨by kernel_rfl, ?_⟩) (HCS.out _ HK.out) ?_
  rotate_left
  · (intro wq _; first | (go_simp; done) | (go_simp; with_reducible rfl))
  try simp only [List.getElem_toArray, List.getElem_cons_zero, List.getElem_cons_succ, Act.put, List.setIfInBounds_toArray, List.set_cons_zero, List.set_cons_succ]
  refine wpAnyH_take (i := 3) (v := ?_) rfl (by kernel_rfl) (by kernel_rfl) (by kernel_rfl) (fun _ _ _ h => h) (Or.inl ⟨by kernel_rfl, ?_⟩) (HCS.out _ HK.out) ?_
  rotate_left
  · (intro wq hSw; (try dsimp only at hSw); first | (go_simp; done) | (go_simp; with_reducible rfl))
  try simp only [List.getElem_toArray, List.getElem_cons_zero, List.getElem_cons_succ, Act.put, List.setIfInBounds_toArray, List.set_cons_zero, List.set_cons_succ]
  all_goals (
    first
      | refine wpAnyH_ready (rs := [0, 4]) (by decide +kernel) (by simp) ?_
    repeat' (first | exact AllReadyH.nil | (refine AllReadyH.cons rfl (fun K hK => ?_) ?_)))
  all_goals (
    first
      | (go_simp
         first
           | (have hx := Ext.alloc wc (.cells #[] 48)
              have hbn := heap_alloc_new wc (.cells #[] 48)
              have hle := HK.out.size
              refine hK.out _ (wc.alloc (.cells #[] 48)) (HCS.out _ (HK.out.trans hx)) (fun _ => ?_)
              clear hK K
              try replace HG0 := Lib.hid (hx.heap HG0.out)
              try replace HG := Lib.hid (hx.heap HG.out)
              try replace HO := Lib.hid (ownsRow_keep HO.out (Keep.of_ext (S := fun _ => True) hx) (fun _ _ _ _ _ => trivial))
              replace HK := Lib.hid (HK.out.trans hx)
              obtain ⟨G0, hB⟩ : ∃ x, x = wc.heap.size := ⟨_, rfl⟩
              rw [← hB] at hbn hle ⊢
              have HG0 := Lib.hid hbn
              have LHG0 := Lib.hid hle
              clear hbn hB hle hx
              generalize wc.alloc (.cells #[] 48) = wc at *
              try simp only [List.getElem_toArray, List.getElem_cons_zero, List.getElem_cons_succ, Act.put, List.setIfInBounds_toArray, List.set_cons_zero, List.set_cons_succ])
           | (have hx := Ext.alloc wc (.cells #[.string (bs ep), .int .i64 ei, .bool ed] 48)
              have hbn := heap_alloc_new wc (.cells #[.string (bs ep), .int .i64 ei, .bool ed] 48)
              have hle := HK.out.size
              refine hK.out _ (wc.alloc (.cells #[.string (bs ep), .int .i64 ei, .bool ed] 48)) (HCS.out _ (HK.out.trans hx)) (fun _ => ?_)
              clear hK K
              try replace HG0 := Lib.hid (hx.heap HG0.out)
              try replace HG := Lib.hid (hx.heap HG.out)
              try replace HO := Lib.hid (ownsRow_keep HO.out (Keep.of_ext (S := fun _ => True) hx) (fun _ _ _ _ _ => trivial))
              replace HK := Lib.hid (HK.out.trans hx)
              obtain ⟨G, hB⟩ : ∃ x, x = wc.heap.size := ⟨_, rfl⟩
              rw [← hB] at hbn hle ⊢
              have HG := Lib.hid hbn
              have LHG := Lib.hid hle
              clear hbn hB hle hx
              generalize wc.alloc (.cells #[.string (bs ep), .int .i64 ei, .bool ed] 48) = wc at *
              try simp only [List.getElem_toArray, List.getElem_cons_zero, List.getElem_cons_succ, Act.put, List.setIfInBounds_toArray, List.set_cons_zero, List.set_cons_succ])))
  all_goals (
    first
      | refine wpAnyH_ready (rs := [2, 4]) (by decide +kernel) (by simp) ?_
      | refine wpAnyH_ready (rs := [0]) (by decide +kernel) (by simp) ?_
    repeat' (first | exact AllReadyH.nil | (refine AllReadyH.cons rfl (fun K hK => ?_) ?_)))
  all_goals (
    first
      | (refine step_append_any (by rfl) _ _ 27 48 (.agg #[.string ⟨#[]⟩, .int .i64 0, .bool false]) 3 32 (by rfl) Tryz.underlying27 info_ent06 rfl (by decide) w2.heap.size (some ⟨G0, 0, none⟩) 0 0 [] (by simp [Act.eval]) (row_zero HG0.out LHG0.out) a n c (L.flatMap entV) (by simp [Act.eval]) (by rw [ents_len, HN.out]) (RunM.ext HRU2.out HK.out) (entV_one L) (by omega) (by decide) HK.out.size n (by omega) ?_
         intro ad1 cap1 wn hown hkp hbl
         try have hgn : wn.heap[G]? = some (.cells #[.string (bs ep), .int .i64 ei, .bool ed] 48 (0, 0)) := hkp.heap (by intro e; have e := Option.some.inj e; subst e; have h := HG.out; rw [HG0.out] at h; cases h) HG.out
         try replace HG := Lib.hid hgn
         replace HK := Lib.hid (ext_below' HK.out hbl)
         have HO := Lib.hid hown
         try clear hgn
         clear hown hkp hbl HG0 LHG0
         refine hK.out _ _ (HCS.out _ HK.out) (fun _ => ?_)
         clear hK K
         obtain ⟨wc, rfl⟩ : ∃ x : World, x = wn := ⟨_, rfl⟩
         try simp only [List.getElem_toArray, List.getElem_cons_zero, List.getElem_cons_succ, Act.put, List.setIfInBounds_toArray, List.set_cons_zero, List.set_cons_succ])
      | (go_simp
         first
           | (have hx := Ext.alloc wc (.cells #[] 48)
              have hbn := heap_alloc_new wc (.cells #[] 48)
              have hle := HK.out.size
              refine hK.out _ (wc.alloc (.cells #[] 48)) (HCS.out _ (HK.out.trans hx)) (fun _ => ?_)
              clear hK K
              try replace HG0 := Lib.hid (hx.heap HG0.out)
              try replace HG := Lib.hid (hx.heap HG.out)
              try replace HO := Lib.hid (ownsRow_keep HO.out (Keep.of_ext (S := fun _ => True) hx) (fun _ _ _ _ _ => trivial))
              replace HK := Lib.hid (HK.out.trans hx)
              obtain ⟨G0, hB⟩ : ∃ x, x = wc.heap.size := ⟨_, rfl⟩
              rw [← hB] at hbn hle ⊢
              have HG0 := Lib.hid hbn
              have LHG0 := Lib.hid hle
              clear hbn hB hle hx
              generalize wc.alloc (.cells #[] 48) = wc at *
              try simp only [List.getElem_toArray, List.getElem_cons_zero, List.getElem_cons_succ, Act.put, List.setIfInBounds_toArray, List.set_cons_zero, List.set_cons_succ])
           | (have hx := Ext.alloc wc (.cells #[.string (bs ep), .int .i64 ei, .bool ed] 48)
              have hbn := heap_alloc_new wc (.cells #[.string (bs ep), .int .i64 ei, .bool ed] 48)
              have hle := HK.out.size
              refine hK.out _ (wc.alloc (.cells #[.string (bs ep), .int .i64 ei, .bool ed] 48)) (HCS.out _ (HK.out.trans hx)) (fun _ => ?_)
              clear hK K
              try replace HG0 := Lib.hid (hx.heap HG0.out)
              try replace HG := Lib.hid (hx.heap HG.out)
              try replace HO := Lib.hid (ownsRow_keep HO.out (Keep.of_ext (S := fun _ => True) hx) (fun _ _ _ _ _ => trivial))
              replace HK := Lib.hid (HK.out.trans hx)
              obtain ⟨G, hB⟩ : ∃ x, x = wc.heap.size := ⟨_, rfl⟩
              rw [← hB] at hbn hle ⊢
              have HG := Lib.hid hbn
              have LHG := Lib.hid hle
              clear hbn hB hle hx
              generalize wc.alloc (.cells #[.string (bs ep), .int .i64 ei, .bool ed] 48) = wc at *
              try simp only [List.getElem_toArray, List.getElem_cons_zero, List.getElem_cons_succ, Act.put, List.setIfInBounds_toArray, List.set_cons_zero, List.set_cons_succ])))
  all_goals (
    first
      | refine wpAnyH_ready (rs := [4]) (by decide +kernel) (by simp) ?_
      | refine wpAnyH_ready (rs := [2]) (by decide +kernel) (by simp) ?_
    repeat' (first | exact AllReadyH.nil | (refine AllReadyH.cons rfl (fun K hK => ?_) ?_)))
  all_goals (
    first
      | (refine step_append_any (by rfl) _ _ 27 48 (.agg #[.string ⟨#[]⟩, .int .i64 0, .bool false]) 3 32 (by rfl) Tryz.underlying27 info_ent06 rfl (by decide) w2.heap.size (some ⟨G0, 0, none⟩) 0 0 [] (by simp [Act.eval]) (row_zero HG0.out LHG0.out) a n c (L.flatMap entV) (by simp [Act.eval]) (by rw [ents_len, HN.out]) (RunM.ext HRU2.out HK.out) (entV_one L) (by omega) (by decide) HK.out.size n (by omega) ?_
         intro ad1 cap1 wn hown hkp hbl
         try have hgn : wn.heap[G]? = some (.cells #[.string (bs ep), .int .i64 ei, .bool ed] 48 (0, 0)) := hkp.heap (by intro e; have e := Option.some.inj e; subst e; have h := HG.out; rw [HG0.out] at h; cases h) HG.out
         try replace HG := Lib.hid hgn
         replace HK := Lib.hid (ext_below' HK.out hbl)
         have HO := Lib.hid hown
         try clear hgn
         clear hown hkp hbl HG0 LHG0
         refine hK.out _ _ (HCS.out _ HK.out) (fun _ => ?_)
         clear hK K
         obtain ⟨wc, rfl⟩ : ∃ x : World, x = wn := ⟨_, rfl⟩
         try simp only [List.getElem_toArray, List.getElem_cons_zero, List.getElem_cons_succ, Act.put, List.setIfInBounds_toArray, List.set_cons_zero, List.set_cons_succ])
      | (go_simp
         first
           | (have hx := Ext.alloc wc (.cells #[.string (bs ep), .int .i64 ei, .bool ed] 48)
              have hbn := heap_alloc_new wc (.cells #[.string (bs ep), .int .i64 ei, .bool ed] 48)
              have hle := HK.out.size
              refine hK.out _ (wc.alloc (.cells #[.string (bs ep), .int .i64 ei, .bool ed] 48)) (HCS.out _ (HK.out.trans hx)) (fun _ => ?_)
              clear hK K
              try replace HG0 := Lib.hid (hx.heap HG0.out)
              try replace HG := Lib.hid (hx.heap HG.out)
              try replace HO := Lib.hid (ownsRow_keep HO.out (Keep.of_ext (S := fun _ => True) hx) (fun _ _ _ _ _ => trivial))
              replace HK := Lib.hid (HK.out.trans hx)
              obtain ⟨G, hB⟩ : ∃ x, x = wc.heap.size := ⟨_, rfl⟩
              rw [← hB] at hbn hle ⊢
              have HG := Lib.hid hbn
              have LHG := Lib.hid hle
              clear hbn hB hle hx
              generalize wc.alloc (.cells #[.string (bs ep), .int .i64 ei, .bool ed] 48) = wc at *
              try simp only [List.getElem_toArray, List.getElem_cons_zero, List.getElem_cons_succ, Act.put, List.setIfInBounds_toArray, List.set_cons_zero, List.set_cons_succ])))
  all_goals (
    first
      | refine wpAnyH_ready (rs := [5]) (by decide +kernel) (by simp) ?_
    repeat' (first | exact AllReadyH.nil | (refine AllReadyH.cons rfl (fun K hK => ?_) ?_)))
  all_goals (
    first
      | (refine step_append_any (by rfl) _ _ 27 48 (.agg #[.string ⟨#[]⟩, .int .i64 0, .bool false]) 3 32 (by rfl) Tryz.underlying27 info_ent06 rfl (by decide) w2.heap.size ad1 n cap1 ([] ++ L.flatMap entV) (by simp [Act.eval]) HO.out (some ⟨G, 0, none⟩) 1 1 [.string (bs ep), .int .i64 ei, .bool ed] (by simp [Act.eval]) (by rfl) (run_blk HG.out) (by intro u hu; simp only [List.mem_cons, List.not_mem_nil, or_false] at hu; rcases hu with rfl | rfl | rfl <;> rfl) (by omega) (by decide) HK.out.size (n + 1) rfl ?_
         intro ad2 cap2 wn hown hkp hbl
         replace HK := Lib.hid (ext_below' HK.out hbl)
         have HO2 := Lib.hid hown
         clear hown hkp hbl
         refine hK.out _ _ (HCS.out _ HK.out) (fun _ => ?_)
         clear hK K
         obtain ⟨wc, rfl⟩ : ∃ x : World, x = wn := ⟨_, rfl⟩
         try simp only [List.getElem_toArray, List.getElem_cons_zero, List.getElem_cons_succ, Act.put, List.setIfInBounds_toArray, List.set_cons_zero, List.set_cons_succ]
         refine wpAnyH_take (i := 6) (v := ?_) rfl (by kernel_rfl) (by kernel_rfl) (by kernel_rfl) (fun _ _ _ h => h) (Or.inl ⟨by kernel_rfl, ?_⟩) (HCS.out _ HK.out) ?_
         rotate_left
         · (intro wq _; first | (go_simp; done) | (go_simp; with_reducible rfl))
         try simp only [List.getElem_toArray, List.getElem_cons_zero, List.getElem_cons_succ, Act.put, List.setIfInBounds_toArray, List.set_cons_zero, List.set_cons_succ]))
  all_goals (
    refine wpAnyH_done (by kernel_rfl) ?_ _
    refine NoPanic.normal ?_
    go_wp2_with fail
    rw [HR.out]
    obtain ⟨a', c', hv, hcc, hrun, hfr⟩ := run_of_row HO2.out
    cases hv
    have hll : (L ++ [(⟨ep, ei, ed⟩ : EntD)]).length = n + 1 := by rw [List.length_append, HN.out]; rfl
    refine ⟨ad2, cap2, by rw [hll]; rfl, by rw [hll]; exact hcc, ?_, fun ad h => Nat.le_trans HX.out.size (hfr ad h), HX.out.trans HK.out⟩
    show RunM wc ad2 ((L ++ [(⟨ep, ei, ed⟩ : EntD)]).flatMap entV)
    simpa [List.flatMap_append, entV] using hrun)
end Go.Proofs.YtldgpcmnmegioaaGreatDoor
