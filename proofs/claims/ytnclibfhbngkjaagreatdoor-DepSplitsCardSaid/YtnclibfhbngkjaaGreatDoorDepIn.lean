/- The test of dep.files: is some path one within which another one would stand? -/
import Derived.Test.YtnclibfhbngkjaaGreatDoorArcFuncs
import Derived.Test.YtnclibfhbngkjaaGreatDoorM4
namespace Go.Proofs.YtnclibfhbngkjaaGreatDoor
open Go.RowKit
theorem path_in (q s : By) (B : Nat) (w : World) (hE : Env w) (hB : w.cell? ⟨B, 0, none⟩ = some (.string (bs q))) :
    Calls Tryz.prog 98 #[.string (bs s), .pointer (some ⟨B, 0, none⟩)] w fun e w' => e = .returned (.bool (withinL q s)) ∧ Ext w w' := by
  obtain ⟨R, hR⟩ : ∃ R : Ending → World → Prop, R = fun e w' => e = .returned (.bool (withinL q s)) ∧ Ext w w' := ⟨_, rfl⟩
  rw [← hR]
  have HR := Lib.hid hR; clear hR
  have hw := path_within (bs q) (bs s) w hE
  rw [bs_data, bs_data] at hw
  obtain ⟨b, hb⟩ : ∃ b, b = withinL q s := ⟨_, rfl⟩
  rw [← hb] at hw HR
  have HW := Lib.hid hw; clear hw hb
  go_enter Tryz.func98, Tryz.ntmps98
  go_wp2_with (go_at_call 39; refine HW.out.mono ?_; rintro e w1 ⟨rfl, hx1⟩; have hx1 := Lib.hid hx1)
  rw [HR.out]
  exact ⟨rfl, hx1.out⟩
set_option maxHeartbeats 1600000 in
theorem index_in (a : Option Addr) (L : List By) (c : Nat) (q : By) (B : Nat) (w : World) (hE : Env w) (hM : Strs w a L ∧ w.cell? ⟨B, 0, none⟩ = some (.string (bs q))) (hL : L.length ≤ 1099511627776) :
    Calls Tryz.prog 70 #[.slice a L.length c, .func (.func 98) #[] #[.pointer (some ⟨B, 0, none⟩)]] w (IdxR (L.any (fun s => withinL q s)) w) := by
  obtain ⟨R, hR⟩ : ∃ R, R = IdxR (L.any (fun s => withinL q s)) w := ⟨_, rfl⟩
  rw [← hR]
  have HR := Lib.hid hR; clear hR
  have HM := Lib.hid hM; clear hM
  go_enter Tryz.func70, Tryz.ntmps70
  go_wp2_with fail
  go_loopw [8] (fun i wr => ∃ k : Nat, i = .int .i64 k ∧ k ≤ L.length ∧ Hid ((L.take k).any (fun s => withinL q s) = false) ∧ Hid (Ext w wr)) (fun i _ => L.length - (intOf i).toNat)
  case atStart => exact ⟨0, rfl, Nat.zero_le _, Lib.hid (by simp), Lib.hid (Ext.refl _)⟩
  case round =>
    obtain ⟨k, rfl, hk, hno, hx⟩ := hrel
    by_cases hlt : k < L.length
    · obtain ⟨g, off, rfl, _, hcs⟩ := (HM.out.1.ext hx.out).at (by intro e; rw [e] at hlt; simp at hlt)
      have h1 := hcs k hlt
      clear hcs
      obtain ⟨m, hm⟩ : ∃ m, m = L.getD k [] := ⟨_, rfl⟩
      rw [← hm] at h1
      cases ht : (fun s => withinL q s) (L.getD k []) with
      | true =>
        have HH := Lib.hid (any_hit (d := []) (p := (fun s => withinL q s)) hlt ht)
        have hcl := path_in q m B wr (hE.ext hx.out) (hx.out.cell HM.out.2)
        have ht2 : withinL q m = true := by rw [hm]; exact ht
        rw [ht2] at hcl
        have HCL := Lib.hid hcl; clear hcl ht ht2 hm
        go_wp2_with ((go_at_call 98; refine HCL.out.mono ?_; rintro e w2 ⟨rfl, hx2⟩; have hx2 := Lib.hid hx2))
        rw [HR.out]
        exact ⟨k, rfl, by rw [HH.out]; simp, hx.out.trans (Ext.trans (by first | exact Ext.refl _ | exact Ext.alloc _ _) hx2.out)⟩
      | false =>
        have HN := Lib.hid (any_step (d := []) (p := (fun s => withinL q s)) hlt hno.out ht)
        have hcl := path_in q m B wr (hE.ext hx.out) (hx.out.cell HM.out.2)
        have ht2 : withinL q m = false := by rw [hm]; exact ht
        rw [ht2] at hcl
        have HCL := Lib.hid hcl; clear hcl ht ht2 hm
        go_wp2_with ((go_at_call 98; refine HCL.out.mono ?_; rintro e w2 ⟨rfl, hx2⟩; have hx2 := Lib.hid hx2))
        go_roundw
        case rel => exact ⟨k + 1, by go_num, by omega, HN, Lib.hid (hx.out.trans (Ext.trans (by first | exact Ext.refl _ | exact Ext.alloc _ _) hx2.out))⟩
        case measure => simp [intOf]; omega
    · have hkk : k = L.length := by omega
      have hn := hno.out
      rw [hkk, List.take_length] at hn
      have HN := Lib.hid hn; clear hn hkk
      go_wp2_with fail
      rw [HR.out]
      exact ⟨-1, rfl, by rw [HN.out]; rfl, hx.out⟩
theorem contains_in (a : Option Addr) (L : List By) (c : Nat) (q : By) (B : Nat) (w : World) (hE : Env w) (hM : Strs w a L ∧ w.cell? ⟨B, 0, none⟩ = some (.string (bs q))) (hL : L.length ≤ 1099511627776) :
    Calls Tryz.prog 33 #[.slice a L.length c, .func (.func 98) #[] #[.pointer (some ⟨B, 0, none⟩)]] w fun e w' => e = .returned (.bool (L.any (fun s => withinL q s))) ∧ Ext w w' := by
  obtain ⟨R, hR⟩ : ∃ R : Ending → World → Prop, R = fun e w' => e = .returned (.bool (L.any (fun s => withinL q s))) ∧ Ext w w' := ⟨_, rfl⟩
  rw [← hR]
  have HR := Lib.hid hR; clear hR
  have hi := index_in a L c q B w hE hM hL
  obtain ⟨b, hb⟩ : ∃ b, b = L.any (fun s => withinL q s) := ⟨_, rfl⟩
  rw [← hb] at hi HR
  have HI := Lib.hid hi; clear hi hb hM
  go_enter Tryz.func33, Tryz.ntmps33
  go_wp2_with (go_at_call 70; refine HI.out.mono ?_; rintro e w1 ⟨r, rfl, hr, hx1⟩; have hx1 := Lib.hid hx1)
  rw [HR.out]
  exact ⟨rfl, hx1.out⟩
end Go.Proofs.YtnclibfhbngkjaaGreatDoor
