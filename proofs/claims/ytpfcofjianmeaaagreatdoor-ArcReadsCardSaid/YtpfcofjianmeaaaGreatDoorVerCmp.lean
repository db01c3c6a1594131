/- ver.Compare, ver.Right, ver.Fits: what they give. -/
import Derived.Test.YtpfcofjianmeaaaGreatDoorVerParse
namespace Go.Proofs.YtpfcofjianmeaaaGreatDoor
open Go.RowKit

































theorem drop_getD {X : List Nat} {k : Nat} (h : k < X.length) : X.drop k = X.getD k 0 :: X.drop (k + 1) := by
  rw [List.drop_eq_getElem_cons h]; simp [List.getD_eq_getElem?_getD, List.getElem?_eq_getElem h]
theorem cmpL_cons (a b : Nat) (x y : List Nat) : cmpL (a :: x) (b :: y) = if cmpN a b = 0 then cmpL x y else cmpN a b := by
  unfold cmpN
  show (if a < b then -1 else if b < a then 1 else cmpL x y) = _
  repeat' split
  all_goals first | omega | rfl


































































/-- Is it a version? -/
theorem ver_right (s : ByteArray) (hs : s.size ≤ 1000) (w : World) (hE : EnvN w) :
    Calls Tryz.prog 19 #[.string s] w fun e w' => e = .returned (.bool (verL s.data.toList).isSome) ∧ Ext w w' := by
  have hp := ver_parse s hs w hE
  go_enter Tryz.func19, Tryz.ntmps19
  go_wp2_with fail
  cases hv : verL s.data.toList with
  | none =>
    rw [hv] at hp
    have HP := Lib.hid hp
    have HV := Lib.hid hv; clear hp hv
    refine HP.out.mono ?_
    rintro e w1 ⟨a, n, c, r, rfl, hx⟩
    go_wp2_with fail
    go_ret
    exact ⟨ret_bool (by rw [HV.out]; rfl), hx⟩
  | some v =>
    rw [hv] at hp
    have HP := Lib.hid hp
    have HV := Lib.hid hv; clear hp hv
    obtain ⟨X, r⟩ := v
    refine HP.out.mono ?_
    rintro e w1 ⟨a, c, rfl, _, _, hx⟩
    go_wp2_with fail
    go_ret
    exact ⟨ret_bool (by rw [HV.out]; rfl), hx⟩






















































theorem verL_len {l : List UInt8} {X : List Nat} {r : Nat} (h : verL l = some (X, r)) : X.length ≤ 4 := by
  unfold verL at h
  split at h
  · split at h
    · have h := Option.some.inj h
      simp only [Prod.mk.injEq] at h
      rw [← h.1]; assumption
    · cases h
  · cases h
theorem cell_fresh (w : World) (cs : Array Value) (t : TypeId) (i : Nat) (v : Value) (h : cs[i]? = some v) : (w.alloc (.cells cs t)).cell? ⟨w.heap.size, i, none⟩ = some v := by
  have h2 : (w.alloc (.cells cs t)).heap[w.heap.size]? = some (.cells cs t (0, 0)) := by
    show (w.heap.push _)[w.heap.size]? = _
    simp
  unfold World.cell?
  simp only [h2]
  simp [h]

































































































end Go.Proofs.YtpfcofjianmeaaaGreatDoor
