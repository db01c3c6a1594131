/- farrierref06.Links, Nodes, Used, Data: loops that only read. -/
import Derived.Test.YtldgpcmnmegioaaGreatDoorRef06Find
namespace Go.Proofs.YtldgpcmnmegioaaGreatDoor
open Go.RowKit
def linksL (L : List EntD) (i : Int) : Nat := L.countP fun e => decide (e.id = i)
def dirsL (L : List EntD) : Nat := L.countP fun e => e.dir
def usedF (F : List (FilD × OpA)) : Nat := (F.map fun x => x.1.data.length).sum
theorem links_take {L : List EntD} {k : Nat} (hk : k < L.length) (i : Int) : linksL (L.take (k + 1)) i = linksL (L.take k) i + if (L.getD k ez06).id = i then 1 else 0 := by
  unfold linksL; rw [take_getD hk ez06, List.countP_append, List.countP_cons, List.countP_nil]; simp
theorem dirs_take {L : List EntD} {k : Nat} (hk : k < L.length) : dirsL (L.take (k + 1)) = dirsL (L.take k) + if (L.getD k ez06).dir = true then 1 else 0 := by
  unfold dirsL; rw [take_getD hk ez06, List.countP_append, List.countP_cons, List.countP_nil]; simp
theorem links_le (L : List EntD) (k : Nat) (i : Int) : linksL (L.take k) i ≤ k := by
  unfold linksL; exact Nat.le_trans List.countP_le_length (by rw [List.length_take]; omega)
theorem dirs_le (L : List EntD) (k : Nat) : dirsL (L.take k) ≤ k := by
  unfold dirsL; exact Nat.le_trans List.countP_le_length (by rw [List.length_take]; omega)
theorem used_take {F : List (FilD × OpA)} {k : Nat} (hk : k < F.length) : usedF (F.take (k + 1)) = usedF (F.take k) + (F.getD k fz06).1.data.length := by
  unfold usedF; rw [take_getD hk fz06, List.map_append, List.sum_append]; simp
theorem usedF_le (F : List (FilD × OpA)) (h : ∀ x ∈ F, x.1.data.length ≤ 3500) : ∀ k, usedF (F.take k) ≤ k * 3500 := by
  intro k
  induction k with
  | zero => simp [usedF]
  | succ k ih =>
    by_cases hk : k < F.length
    · rw [used_take hk]
      have := h _ (getD_mem hk fz06)
      omega
    · have e : F.take (k + 1) = F.take k := by rw [List.take_of_length_le (by omega), List.take_of_length_le (by omega)]
      rw [e]
      exact Nat.le_trans ih (Nat.mul_le_mul_right _ (Nat.le_succ k))
/-- The bytes of a file in a list of files. -/
def dataL (L : List FilD) (i : Int) : By := match L.find? fun f => decide (f.id = i) with
  | some f => f.data
  | none => []
theorem dataL_hit {F : List (FilD × OpA)} {i : Int} {k : Nat} (hk : k < F.length) (h0 : ∀ j, j < k → (F.getD j fz06).1.id ≠ i) (h1 : (F.getD k fz06).1.id = i) : dataL (F.map Prod.fst) i = (F.getD k fz06).1.data := by
  have e : (F.map Prod.fst).find? (fun f => decide (f.id = i)) = some (F.getD k fz06).1 := by
    rw [List.find?_eq_some_iff_getElem]
    refine ⟨decide_eq_true h1, k, by simpa using hk, ?_, fun j hj => ?_⟩
    · simp [List.getD_eq_getElem?_getD, List.getElem?_eq_getElem hk]
    · have hj2 : j < F.length := by omega
      have := h0 j hj
      simp [List.getD_eq_getElem?_getD, List.getElem?_eq_getElem hj2] at this
      simp [this]
  unfold dataL; rw [e]
theorem dataL_miss {F : List (FilD × OpA)} {i : Int} (h0 : ∀ j, j < F.length → (F.getD j fz06).1.id ≠ i) : dataL (F.map Prod.fst) i = [] := by
  have e : (F.map Prod.fst).find? (fun f => decide (f.id = i)) = none := by
    rw [List.find?_eq_none]
    intro f hf
    obtain ⟨x, hx, rfl⟩ := List.mem_map.1 hf
    obtain ⟨j, hj, rfl⟩ := List.getElem_of_mem hx
    have := h0 j hj
    simp [List.getD_eq_getElem?_getD, List.getElem?_eq_getElem hj] at this
    simp [this]
  unfold dataL; rw [e]
theorem int_beq {a b : Int} (h : a = b) : (a == b) = true := by simp [h]
theorem int_bne {a b : Int} (h : a ≠ b) : (a == b) = false := by simp [h]
set_option maxRecDepth 100000 in
set_option maxHeartbeats 3200000 in
theorem ref_links (L : List EntD) (la : Option Addr) (lc : Nat) (fa : Option Addr) (fn fc : Nat) (nx q : Int) (id : Int) (w : World) (hE : EntsR w la L) (hl : L.length ≤ 1099511627776) :
    Calls Tryz.prog 33 #[.agg #[.slice la L.length lc, .slice fa fn fc, .int .i64 nx, .int .i64 q], .int .i64 id] w fun e w' => e = .returned (.int .i64 (linksL L id : Nat)) ∧ Ext w w' := by
  obtain ⟨R, hR⟩ : ∃ R : Ending → World → Prop, R = fun e w' => e = .returned (.int .i64 (linksL L id : Nat)) ∧ Ext w w' := ⟨_, rfl⟩
  rw [← hR]
  have HR := Lib.hid hR; clear hR
  have HE := Lib.hid hE; clear hE
  obtain ⟨n, hn⟩ : ∃ n, n = L.length := ⟨_, rfl⟩
  rw [← hn] at hl ⊢
  have HN := Lib.hid hn; clear hn
  go_enter Tryz.func33, Tryz.ntmps33
  go_upto_region 1 with fail
  have hx1 := Ext.alloc w (.cells #[.slice la n lc, .slice fa fn fc, .int .i64 nx, .int .i64 q] 30)
  have hf1 := heap_alloc_new w (.cells #[.slice la n lc, .slice fa fn fc, .int .i64 nx, .int .i64 q] 30)
  generalize w.alloc (.cells #[.slice la n lc, .slice fa fn fc, .int .i64 nx, .int .i64 q] 30) = w1 at hx1 hf1 ⊢
  generalize w.heap.size = B at hf1 ⊢
  have d0 := blk_cell hf1 0 (Value.slice la n lc) rfl
  have HX := Lib.hid hx1; clear hx1 hf1
  go_wp2_with fail
  go_loopw [5, 6] (fun s i wr => ∃ k z : Nat, s = .int .i64 z ∧ i = .int .i64 k ∧ k ≤ n ∧ z ≤ k ∧ Hid (z = linksL (L.take k) id) ∧ Hid (wr = w1)) (fun _ i _ => n - (intOf i).toNat)
  case atStart => exact ⟨0, 0, rfl, rfl, Nat.zero_le _, Nat.zero_le _, Lib.hid (by simp [linksL]), Lib.hid rfl⟩
  case round =>
    obtain ⟨k, z, rfl, rfl, hk, hz, HZ, hw⟩ := hrel
    obtain rfl := hw.out
    clear hw
    by_cases hlt : k < n
    · have hkL : k < L.length := by have := HN.out; omega
      obtain ⟨g, off, rfl, _, _, c1, _⟩ := (HE.out.ext HX.out).at hkL
      have HT := Lib.hid (links_take hkL id)
      generalize (L.getD k ez06).id = y at c1 HT
      by_cases he : y = id
      · have hb := int_beq he
        have HH := Lib.hid he; clear he
        go_wp2_with fail
        go_roundw
        case rel => exact ⟨k + 1, z + 1, by go_num, by go_num, by omega, by omega, Lib.hid (by rw [HT.out, ← HZ.out, if_pos HH.out]), Lib.hid (by trivial)⟩
        case measure => simp [intOf]; omega
      · have hb := int_bne he
        have HH := Lib.hid he; clear he
        go_wp2_with fail
        go_roundw
        case rel => exact ⟨k + 1, z, rfl, by go_num, by omega, by omega, Lib.hid (by rw [HT.out, ← HZ.out, if_neg HH.out]; rfl), Lib.hid (by trivial)⟩
        case measure => simp [intOf]; omega
    · go_wp2_with fail
      rw [HR.out]
      refine ⟨?_, HX.out⟩
      have h1 := HZ.out
      rw [List.take_of_length_le (by have := HN.out; omega)] at h1
      rw [h1]; rfl
set_option maxRecDepth 100000 in
set_option maxHeartbeats 3200000 in
theorem ref_nodes (L : List EntD) (la : Option Addr) (lc : Nat) (fa : Option Addr) (fn fc : Nat) (nx q : Int) (w : World) (hE : EntsR w la L) (hl : L.length ≤ 1099511627776) (hfn : fn ≤ 1099511627776) :
    Calls Tryz.prog 10 #[.agg #[.slice la L.length lc, .slice fa fn fc, .int .i64 nx, .int .i64 q]] w fun e w' => e = .returned (.int .i64 (fn + dirsL L : Nat)) ∧ Ext w w' := by
  obtain ⟨R, hR⟩ : ∃ R : Ending → World → Prop, R = fun e w' => e = .returned (.int .i64 (fn + dirsL L : Nat)) ∧ Ext w w' := ⟨_, rfl⟩
  rw [← hR]
  have HR := Lib.hid hR; clear hR
  have HE := Lib.hid hE; clear hE
  obtain ⟨n, hn⟩ : ∃ n, n = L.length := ⟨_, rfl⟩
  rw [← hn] at hl ⊢
  have HN := Lib.hid hn; clear hn
  go_enter Tryz.func10, Tryz.ntmps10
  go_upto_region 1 with fail
  have hx1 := Ext.alloc w (.cells #[.slice la n lc, .slice fa fn fc, .int .i64 nx, .int .i64 q] 30)
  have hf1 := heap_alloc_new w (.cells #[.slice la n lc, .slice fa fn fc, .int .i64 nx, .int .i64 q] 30)
  generalize w.alloc (.cells #[.slice la n lc, .slice fa fn fc, .int .i64 nx, .int .i64 q] 30) = w1 at hx1 hf1 ⊢
  generalize w.heap.size = B at hf1 ⊢
  have d0 := blk_cell hf1 0 (Value.slice la n lc) rfl
  have d1 := blk_cell hf1 1 (Value.slice fa fn fc) rfl
  have HX := Lib.hid hx1; clear hx1 hf1
  go_wp2_with fail
  go_loopw [3, 4] (fun s i wr => ∃ k z : Nat, s = .int .i64 z ∧ i = .int .i64 k ∧ k ≤ n ∧ z ≤ fn + k ∧ Hid (z = fn + dirsL (L.take k)) ∧ Hid (wr = w1)) (fun _ i _ => n - (intOf i).toNat)
  case atStart => exact ⟨0, fn, rfl, rfl, Nat.zero_le _, Nat.le_refl _, Lib.hid (by simp [dirsL]), Lib.hid rfl⟩
  case round =>
    obtain ⟨k, z, rfl, rfl, hk, hz, HZ, hw⟩ := hrel
    obtain rfl := hw.out
    clear hw
    by_cases hlt : k < n
    · have hkL : k < L.length := by have := HN.out; omega
      obtain ⟨g, off, rfl, _, _, _, c2⟩ := (HE.out.ext HX.out).at hkL
      have HT := Lib.hid (dirs_take hkL)
      generalize (L.getD k ez06).dir = y at c2 HT
      cases y with
      | true =>
        go_wp2_with fail
        go_roundw
        case rel => exact ⟨k + 1, z + 1, by go_num, by go_num, by omega, by omega, Lib.hid (by have h1 := HT.out; rw [if_pos rfl] at h1; have h2 := HZ.out; omega), Lib.hid (by trivial)⟩
        case measure => simp [intOf]; omega
      | false =>
        go_wp2_with fail
        go_roundw
        case rel => exact ⟨k + 1, z, rfl, by go_num, by omega, by omega, Lib.hid (by have h1 := HT.out; rw [if_neg (by simp)] at h1; have h2 := HZ.out; omega), Lib.hid (by trivial)⟩
        case measure => simp [intOf]; omega
    · go_wp2_with fail
      rw [HR.out]
      refine ⟨?_, HX.out⟩
      have h1 := HZ.out
      rw [List.take_of_length_le (by have := HN.out; omega)] at h1
      rw [h1]; rfl
set_option maxRecDepth 100000 in
set_option maxHeartbeats 3200000 in
theorem ref_used (F : List (FilD × OpA)) (la : Option Addr) (lc : Nat) (fa : Option Addr) (fc ln : Nat) (nx q : Int) (w : World) (hE : FilsR w fa F) (hl : F.length ≤ 1099511627776) :
    Calls Tryz.prog 11 #[.agg #[.slice la ln lc, .slice fa F.length fc, .int .i64 nx, .int .i64 q]] w fun e w' => e = .returned (.int .i64 (usedF F : Nat)) ∧ Ext w w' := by
  obtain ⟨R, hR⟩ : ∃ R : Ending → World → Prop, R = fun e w' => e = .returned (.int .i64 (usedF F : Nat)) ∧ Ext w w' := ⟨_, rfl⟩
  rw [← hR]
  have HR := Lib.hid hR; clear hR
  have HE := Lib.hid hE; clear hE
  obtain ⟨n, hn⟩ : ∃ n, n = F.length := ⟨_, rfl⟩
  rw [← hn] at hl ⊢
  have HN := Lib.hid hn; clear hn
  go_enter Tryz.func11, Tryz.ntmps11
  go_upto_region 1 with fail
  have hx1 := Ext.alloc w (.cells #[.slice la ln lc, .slice fa n fc, .int .i64 nx, .int .i64 q] 30)
  have hf1 := heap_alloc_new w (.cells #[.slice la ln lc, .slice fa n fc, .int .i64 nx, .int .i64 q] 30)
  generalize w.alloc (.cells #[.slice la ln lc, .slice fa n fc, .int .i64 nx, .int .i64 q] 30) = w1 at hx1 hf1 ⊢
  generalize w.heap.size = B at hf1 ⊢
  have d1 := blk_cell hf1 1 (Value.slice fa n fc) rfl
  have HX := Lib.hid hx1; clear hx1 hf1
  go_wp2_with fail
  go_loopw [3, 4] (fun s i wr => ∃ k z : Nat, s = .int .i64 z ∧ i = .int .i64 k ∧ k ≤ n ∧ z ≤ k * 3500 ∧ Hid (z = usedF (F.take k)) ∧ Hid (wr = w1)) (fun _ i _ => n - (intOf i).toNat)
  case atStart => exact ⟨0, 0, rfl, rfl, Nat.zero_le _, Nat.zero_le _, Lib.hid (by simp [usedF]), Lib.hid rfl⟩
  case round =>
    obtain ⟨k, z, rfl, rfl, hk, hz, HZ, hw⟩ := hrel
    obtain rfl := hw.out
    clear hw
    by_cases hlt : k < n
    · have hkL : k < F.length := by have := HN.out; omega
      obtain ⟨g, off, rfl, _, _, c1⟩ := (HE.out.ext HX.out).at hkL
      have HT := Lib.hid (used_take hkL)
      have hy := (HE.out.dat _ (getD_mem hkL fz06)).2.2
      generalize (F.getD k fz06).2.oa = ya at c1
      generalize (F.getD k fz06).2.oc = yc at c1
      generalize (F.getD k fz06).1.data.length = y at c1 HT hy
      go_wp2_with fail
      go_roundw
      case rel => exact ⟨k + 1, z + y, by go_num, by go_num, by omega, by omega, Lib.hid (by rw [HT.out, ← HZ.out]), Lib.hid (by trivial)⟩
      case measure => simp [intOf]; omega
    · go_wp2_with fail
      rw [HR.out]
      refine ⟨?_, HX.out⟩
      have h1 := HZ.out
      rw [List.take_of_length_le (by have := HN.out; omega)] at h1
      rw [h1]; rfl
set_option maxRecDepth 100000 in
set_option maxHeartbeats 3200000 in
theorem ref_data (F : List (FilD × OpA)) (la : Option Addr) (lc : Nat) (fa : Option Addr) (fc ln : Nat) (nx q : Int) (id : Int) (w : World) (hE : FilsR w fa F) (hl : F.length ≤ 1099511627776) :
    Calls Tryz.prog 35 #[.agg #[.slice la ln lc, .slice fa F.length fc, .int .i64 nx, .int .i64 q], .int .i64 id] w fun e w' => ∃ a c, e = .returned (.slice a (dataL (F.map Prod.fst) id).length c) ∧ (dataL (F.map Prod.fst) id).length ≤ c ∧ (dataL (F.map Prod.fst) id).length ≤ 3500 ∧ DataM w' a (dataL (F.map Prod.fst) id) ∧ Ext w w' := by
  obtain ⟨R, hR⟩ : ∃ R : Ending → World → Prop, R = fun e w' => ∃ a c, e = .returned (.slice a (dataL (F.map Prod.fst) id).length c) ∧ (dataL (F.map Prod.fst) id).length ≤ c ∧ (dataL (F.map Prod.fst) id).length ≤ 3500 ∧ DataM w' a (dataL (F.map Prod.fst) id) ∧ Ext w w' := ⟨_, rfl⟩
  rw [← hR]
  have HR := Lib.hid hR; clear hR
  have HE := Lib.hid hE; clear hE
  obtain ⟨n, hn⟩ : ∃ n, n = F.length := ⟨_, rfl⟩
  rw [← hn] at hl ⊢
  have HN := Lib.hid hn; clear hn
  go_enter Tryz.func35, Tryz.ntmps35
  go_upto_region 1 with fail
  have hx1 := Ext.alloc w (.cells #[.slice la ln lc, .slice fa n fc, .int .i64 nx, .int .i64 q] 30)
  have hf1 := heap_alloc_new w (.cells #[.slice la ln lc, .slice fa n fc, .int .i64 nx, .int .i64 q] 30)
  generalize w.alloc (.cells #[.slice la ln lc, .slice fa n fc, .int .i64 nx, .int .i64 q] 30) = w1 at hx1 hf1 ⊢
  generalize w.heap.size = B at hf1 ⊢
  have d1 := blk_cell hf1 1 (Value.slice fa n fc) rfl
  have HX := Lib.hid hx1; clear hx1 hf1
  go_wp2_with fail
  go_loopw [5] (fun i wr => ∃ k : Nat, i = .int .i64 k ∧ k ≤ n ∧ Hid (∀ j, j < k → (F.getD j fz06).1.id ≠ id) ∧ Hid (wr = w1)) (fun i _ => n - (intOf i).toNat)
  case atStart => exact ⟨0, rfl, Nat.zero_le _, Lib.hid (fun j hj => by omega), Lib.hid rfl⟩
  case round =>
    obtain ⟨k, rfl, hk, HK, hw⟩ := hrel
    obtain rfl := hw.out
    clear hw
    by_cases hlt : k < n
    · have hkL : k < F.length := by have := HN.out; omega
      obtain ⟨g, off, rfl, _, c0, c1⟩ := (HE.out.ext HX.out).at hkL
      have hdat := (HE.out.ext HX.out).dat _ (getD_mem hkL fz06)
      have hit := fun h => dataL_hit hkL HK.out (i := id) h
      have hid0 : ∀ j, j < k + 1 → (F.getD k fz06).1.id ≠ id → (F.getD j fz06).1.id ≠ id := fun j hj hne => by
        rcases Nat.lt_succ_iff_lt_or_eq.1 hj with h | h
        · exact HK.out j h
        · rw [h]; exact hne
      have HD := Lib.hid hdat; clear hdat
      have HI := Lib.hid hit; clear hit
      have HJ := Lib.hid hid0; clear hid0
      generalize F.getD k fz06 = x at c0 c1 HD HI HJ
      obtain ⟨⟨xi, xd⟩, ⟨xa, xc⟩⟩ := x
      simp only at c0 c1
      by_cases he : xi = id
      · have hb := int_beq he
        have HH := Lib.hid he; clear he
        go_wp2_with fail
        rw [HR.out]
        have e := HI.out HH.out
        have hd := HD.out
        refine ⟨xa, xc, ?_, ?_, ?_, ?_, HX.out⟩
        · rw [e]
        · rw [e]; exact hd.2.1
        · rw [e]; exact hd.2.2
        · rw [e]; exact hd.1
      · have hb := int_bne he
        have HH := Lib.hid he; clear he
        go_wp2_with fail
        go_roundw
        case rel => exact ⟨k + 1, by go_num, by omega, Lib.hid (fun j hj => HJ.out j hj HH.out), Lib.hid (by trivial)⟩
        case measure => simp [intOf]; omega
    · go_wp2_with fail
      rw [HR.out]
      have e := dataL_miss (F := F) (i := id) (fun j hj => HK.out j (by have := HN.out; omega))
      refine ⟨none, 0, ?_, ?_, ?_, ?_, HX.out⟩
      · rw [e]; first | done | rfl
      · rw [e]; first | done | exact Nat.le_refl _
      · rw [e]; first | done | exact Nat.zero_le _
      · rw [e]; exact Or.inl rfl
end Go.Proofs.YtldgpcmnmegioaaGreatDoor
