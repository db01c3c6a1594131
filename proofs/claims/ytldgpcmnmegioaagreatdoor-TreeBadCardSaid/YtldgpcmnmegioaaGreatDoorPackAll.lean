/- rec.Pack and rec.List: parts, one behind the other; appends to a list of parts. -/
import Derived.Test.YtldgpcmnmegioaaGreatDoorPack
namespace Go.Proofs.YtldgpcmnmegioaaGreatDoor
open Go.RowKit
theorem flat_take {L : List (List UInt8)} {k : Nat} (h : k < L.length) : (L.take (k + 1)).flatten = (L.take k).flatten ++ L.getD k [] := by
  rw [List.take_succ_eq_append_getElem h, List.flatten_append]
  simp [List.getD_eq_getElem?_getD, List.getElem?_eq_getElem h]
theorem flat_take_le (L : List (List UInt8)) (k : Nat) : (L.take k).flatten.length ≤ L.flatten.length := by
  conv => rhs; rw [← List.take_append_drop k L]
  rw [List.flatten_append, List.length_append]; omega
set_option maxHeartbeats 800000 in
theorem rec_pack (a : Option Addr) (c : Nat) (L : List (List UInt8)) (w : World) (hp : Parts w a L) (hl : L.flatten.length ≤ 16777216) (hn : L.length ≤ 1099511627776) :
    Calls Tryz.prog 46 #[.slice a L.length c] w (PackR L.flatten w) := by
  have HP := Lib.hid hp; clear hp
  go_enter Tryz.func46, Tryz.ntmps46
  go_wp2_with fail
  go_loopw [3, 8] (fun v i wr => ∃ (D : List UInt8) (a2 : Option Addr) (cap k : Nat), v = .slice a2 D.length cap ∧ i = .int .i64 k ∧ k ≤ L.length ∧ Hid (D = (L.take k).flatten) ∧ Hid (OwnB wr w.heap.size a2 cap D) ∧ Ext w wr) (fun _ i _ => L.length - (intOf i).toNat)
  case atStart => exact ⟨[], none, 0, 0, rfl, rfl, Nat.zero_le _, Lib.hid rfl, Lib.hid (OwnB.nil _ _), Ext.refl _⟩
  case round =>
    obtain ⟨D, a2, cap, k, rfl, rfl, hk, hD, hown, hext⟩ := hrel
    have hsz := hext.size
    by_cases hlt : k < L.length
    · have hpx := HP.out.ext hext
      obtain ⟨g, off, p, cp, rfl, hcell, hb⟩ := hpx.at hlt
      have hb63 : D.length + (L.getD k []).length ≤ 16777216 := by
        have h1 := flat_take_le L (k + 1)
        rw [flat_take hlt, List.length_append, ← hD.out] at h1
        omega
      obtain ⟨q, hq⟩ : ∃ q, q = L.getD k [] := ⟨_, rfl⟩
      rw [← hq] at hcell hb hb63
      have HQ := Lib.hid hq; clear hq hpx
      have HB := Lib.hid hb; clear hb
      go_wp2_with (at_builtin; refine append_bytes rfl (.tmp 12) (.tmp 13) 93 rfl Tryz.underlying93 w.heap.size a2 cap D q D.length q.length rfl rfl rfl hown.out _ _ rfl HB.out (by omega) hsz ?_; intro ad cap' w2 hown2 hx2)
      go_roundw
      case rel => exact ⟨D ++ q, ad, cap', k + 1, by simp, by go_num, by omega, Lib.hid (by rw [flat_take hlt, ← HQ.out, ← hD.out]), Lib.hid hown2, Below.trans hext hx2⟩
      case measure => simp [intOf]; omega
    · have hkk : k = L.length := by omega
      have hD2 := hD.out
      rw [hkk, List.take_length] at hD2
      subst hD2
      clear hD
      go_wp2
      go_ret
      exact ⟨a2, cap, rfl, hown.out, hext⟩





















end Go.Proofs.YtldgpcmnmegioaaGreatDoor
