/- farrierref06.Find: where a path stands in the list. -/
import Derived.Test.YtldgpcmnmegioaaGreatDoorRefMem
namespace Go.Proofs.YtldgpcmnmegioaaGreatDoor
open Go.RowKit
def idxM (L : List EntD) (p : By) : Option Nat := L.findIdx? (isP p)
def findI (L : List EntD) (p : By) : Int := match idxM L p with
  | none => -1
  | some k => k
theorem findI_hit {L : List EntD} {p : By} {k : Nat} (hk : k < L.length) (h0 : ∀ j, j < k → (L.getD j ez06).path ≠ p) (h1 : (L.getD k ez06).path = p) : findI L p = k := by
  have e : idxM L p = some k := by
    unfold idxM
    rw [List.findIdx?_eq_some_iff_getElem]
    refine ⟨hk, ?_, fun j hj => ?_⟩
    · have e : L.getD k ez06 = L[k] := by simp [List.getD_eq_getElem?_getD, List.getElem?_eq_getElem hk]
      rw [e] at h1
      simp [isP, h1]
    · have hj2 : j < L.length := by omega
      have e : L.getD j ez06 = L[j] := by simp [List.getD_eq_getElem?_getD, List.getElem?_eq_getElem hj2]
      have := h0 j hj
      rw [e] at this
      simp [isP, this]
  unfold findI; rw [e]
theorem findI_miss {L : List EntD} {p : By} (h0 : ∀ j, j < L.length → (L.getD j ez06).path ≠ p) : findI L p = -1 := by
  have e : idxM L p = none := by
    unfold idxM
    rw [List.findIdx?_eq_none_iff]
    intro x hx
    obtain ⟨j, hj, rfl⟩ := List.getElem_of_mem hx
    have e : L.getD j ez06 = L[j] := by simp [List.getD_eq_getElem?_getD, List.getElem?_eq_getElem hj]
    have := h0 j hj
    rw [e] at this
    simp [isP, this]
  unfold findI; rw [e]
set_option maxRecDepth 100000 in
set_option maxHeartbeats 3200000 in
theorem ref_find (L : List EntD) (la : Option Addr) (lc : Nat) (fa : Option Addr) (fn fc : Nat) (nx q : Int) (p : By) (w : World) (hE : EntsR w la L) (hl : L.length ≤ 1099511627776) :
    Calls Tryz.prog 14 #[.agg #[.slice la L.length lc, .slice fa fn fc, .int .i64 nx, .int .i64 q], .string (bs p)] w fun e w' => e = .returned (.int .i64 (findI L p)) ∧ Ext w w' := by
  obtain ⟨R, hR⟩ : ∃ R : Ending → World → Prop, R = fun e w' => e = .returned (.int .i64 (findI L p)) ∧ Ext w w' := ⟨_, rfl⟩
  rw [← hR]
  have HR := Lib.hid hR; clear hR
  have HE := Lib.hid hE; clear hE
  obtain ⟨n, hn⟩ : ∃ n, n = L.length := ⟨_, rfl⟩
  rw [← hn] at hl ⊢
  have HN := Lib.hid hn; clear hn
  go_enter Tryz.func14, Tryz.ntmps14
  go_upto_region 1 with fail
  have hx1 := Ext.alloc w (.cells #[.slice la n lc, .slice fa fn fc, .int .i64 nx, .int .i64 q] 30)
  have hf1 := heap_alloc_new w (.cells #[.slice la n lc, .slice fa fn fc, .int .i64 nx, .int .i64 q] 30)
  generalize w.alloc (.cells #[.slice la n lc, .slice fa fn fc, .int .i64 nx, .int .i64 q] 30) = w1 at hx1 hf1 ⊢
  generalize w.heap.size = B at hf1 ⊢
  have d0 := blk_cell hf1 0 (Value.slice la n lc) rfl
  have HX := Lib.hid hx1; clear hx1 hf1
  go_wp2_with fail
  go_loopw [5] (fun i wr => ∃ k : Nat, i = .int .i64 k ∧ k ≤ n ∧ Hid (∀ j, j < k → (L.getD j ez06).path ≠ p) ∧ Hid (wr = w1)) (fun i _ => n - (intOf i).toNat)
  case atStart => exact ⟨0, rfl, Nat.zero_le _, Lib.hid (fun j hj => by omega), Lib.hid rfl⟩
  case round =>
    obtain ⟨k, rfl, hk, HK, hw⟩ := hrel
    obtain rfl := hw.out
    clear hw
    by_cases hlt : k < n
    · have hkL : k < L.length := by have := HN.out; omega
      obtain ⟨g, off, rfl, _, c0, _, _⟩ := (HE.out.ext HX.out).at hkL
      by_cases he : (L.getD k ez06).path = p
      · have hb := bs_beq_eq he
        have HH := Lib.hid he; clear he
        generalize (L.getD k ez06).path = y at c0 hb
        go_wp2_with fail
        rw [HR.out]
        exact ⟨by rw [findI_hit hkL HK.out HH.out]; rfl, HX.out⟩
      · have hb := bs_beq_ne he
        have HH := Lib.hid he; clear he
        generalize (L.getD k ez06).path = y at c0 hb
        go_wp2_with fail
        go_roundw
        case rel => exact ⟨k + 1, by go_num, by omega, Lib.hid (fun j hj => by
          rcases Nat.lt_succ_iff_lt_or_eq.1 hj with h | h
          · exact HK.out j h
          · rw [h]; exact HH.out), Lib.hid (by trivial)⟩
        case measure => simp [intOf]; omega
    · go_wp2_with fail
      rw [HR.out]
      exact ⟨by rw [findI_miss (fun j hj => HK.out j (by have := HN.out; omega))]; rfl, HX.out⟩
end Go.Proofs.YtldgpcmnmegioaaGreatDoor
