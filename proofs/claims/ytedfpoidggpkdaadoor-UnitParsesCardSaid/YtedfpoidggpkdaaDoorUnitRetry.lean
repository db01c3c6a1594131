/- (*unit.Unit).line: how often a start is tried again. -/
import Derived.Test.YtedfpoidggpkdaaDoorUnitLine
import Derived.Test.YtedfpoidggpkdaaDoorUnitBack
import Derived.BigGuardPart
namespace Go.Proofs.YtedfpoidggpkdaaDoor
open Go.RowKit
theorem atoi_dig {l : Bs} {n : Nat} (h : digN l = some n) : Lib.atoiAll l = .ok (n : Int) ∧ Lib.itoa (n : Int) = l := by
  obtain ⟨h3, rfl⟩ := digN_le h
  have hn : n = 0 ∨ n = 1 ∨ n = 2 ∨ n = 3 := by omega
  rcases hn with rfl | rfl | rfl | rfl <;> exact ⟨by decide +kernel, by decide +kernel⟩
theorem dig_ok {l : Bs} {v : Int} (h : Lib.atoiAll l = .ok v) : digN l = if 0 ≤ v ∧ v ≤ 3 ∧ Lib.itoa v = l then some v.toNat else none := by
  split
  · rename_i hc
    rw [← hc.2.2]; exact (itoa_dig v hc.1 hc.2.1).1
  · rename_i hc
    cases hd : digN l with
    | none => rfl
    | some n =>
      exfalso; apply hc
      obtain ⟨h1, h2⟩ := atoi_dig hd
      have h3 := (digN_le hd).1
      rw [h] at h1
      have : v = n := by cases h1; rfl
      subst this
      exact ⟨by omega, by omega, h2⟩
theorem dig_not {l : Bs} (h : ∀ v, Lib.atoiAll l ≠ .ok v) : digN l = none := by
  cases hd : digN l with
  | none => rfl
  | some n => exact absurd (atoi_dig hd).1 (h _)
set_option maxRecDepth 100000 in
set_option maxHeartbeats 3200000 in
theorem line_retry (base B : Nat) (u : UnitD) (A : Nat → Option Addr) (C : Nat → Nat) (r : Bs) (hr : r.length ≤ 1000000) (w : World) (h : UnitAt w base B u A C) (hE : EnvN w) :
    Calls Tryd.prog 67 #[.pointer (some ⟨B, 0, none⟩), .string (bs wRetry), .string (bs r)] w (LineR base B (lineU u wRetry r) w) := by
  obtain ⟨o, ho⟩ : ∃ o, o = lineU u wRetry r := ⟨_, rfl⟩
  have hl : lineU u wRetry r = (match digN r with
    | none => (u, 2)
    | some n => if 0 ≤ u.retry then (u, 9) else ({ u with retry := (n : Int) }, 0)) := by unfold lineU; rw [if_neg (by decide), if_neg (by decide), if_pos rfl]; rfl
  rw [hl] at ho
  obtain ⟨R, hR⟩ : ∃ R, R = LineR base B (lineU u wRetry r) w := ⟨_, rfl⟩
  rw [← hR]
  rw [hl, ← ho] at hR
  have HR := Lib.hid hR; clear hR
  have HO := Lib.hid ho; clear ho hl
  have hw1 : ((bs wRetry).toList == [117, 110, 105, 116]) = false := word_ne (by decide)
  have hw2 : ((bs wRetry).toList == [102, 105, 108, 101]) = false := word_ne (by decide)
  have hw3 : ((bs wRetry).toList == [114, 101, 116, 114, 121]) = true := word_eq rfl
  have c0 : w.cell? ⟨B, 7, none⟩ = some (.int .i64 u.retry) := blk_cell h.blk 7 _ rfl
  have f0 := blk_free h.blk 7
  have HU := Lib.hid h; clear h
  have hs : (bs r).size ≤ 1000000 := hr
  have hd : (bs r).data.toList = r := rfl
  have HD := Lib.hid hd; clear hd
  go_enter Tryd.func67, Tryd.ntmps67
  go_wp2_with fail
  by_cases hok : ∃ v, Lib.atoiAll r = .ok v
  · obtain ⟨v, hv⟩ := hok
    have hdg := dig_ok hv
    have HV := Lib.hid hv; clear hv
    refine (atoi_ok (bs r) hs v (by rw [HD.out]; exact HV.out) _).mono ?_
    rintro e w1 ⟨rfl, hx⟩
    have c1 := hx.cell c0
    have f1 : w1.frozen? ⟨B, 7, none⟩ = false := blk_free (Ext.heap hx HU.out.blk) 7
    by_cases h0 : 0 ≤ v
    · by_cases h3 : v ≤ 3
      · go_wp2_with fail
        refine (itoa_any v h0 (by omega) _ (hE.ext hx)).mono ?_
        rintro e w2 ⟨rfl, hx2⟩
        have c2 := hx2.cell c1
        have f2 : w2.frozen? ⟨B, 7, none⟩ = false := blk_free (Ext.heap (hx.trans hx2) HU.out.blk) 7
        by_cases he : Lib.itoa v = r
        · rw [if_pos ⟨h0, h3, he⟩] at hdg
          have hq : ((bs (Lib.itoa v)).toList == (bs r).toList) = true := by rw [he]; simp
          have HD := Lib.hid hdg; clear hdg he
          by_cases hu : 0 ≤ u.retry
          · go_wp2_with fail
            rw [HR.out]
            exact LineR.same (by rw [HO.out, HD.out]; exact if_pos hu) HU.out (hx.trans hx2)
          · go_wp2_with fail
            rw [HR.out]
            refine LineR.set (v := { u with retry := v }) (by rw [HO.out, HD.out]; show (if 0 ≤ u.retry then _ else _) = _; rw [if_neg (by omega)]; rw [show ((v.toNat : Nat) : Int) = v by omega]) (HU.out.ext (hx.trans hx2)) (hx.trans hx2) 7 _ ?_ rfl
            intro f h1 h6
            unfold UnitD.row; split <;> rfl
        · rw [if_neg (fun hc => he hc.2.2)] at hdg
          have hq : ((bs (Lib.itoa v)).toList == (bs r).toList) = false := by rw [bs_toList, bs_toList]; simpa using he
          have HD := Lib.hid hdg; clear hdg he
          go_wp2_with fail
          rw [HR.out]
          exact LineR.same (by rw [HO.out, HD.out]) HU.out (hx.trans hx2)
      · rw [if_neg (fun hc => h3 hc.2.1)] at hdg
        have HD := Lib.hid hdg; clear hdg
        go_wp2_with fail
        rw [HR.out]
        exact LineR.same (by rw [HO.out, HD.out]) HU.out hx
    · rw [if_neg (fun hc => h0 hc.1)] at hdg
      have HD := Lib.hid hdg; clear hdg
      go_wp2_with fail
      rw [HR.out]
      exact LineR.same (by rw [HO.out, HD.out]) HU.out hx
  · have hno : ∀ v, Lib.atoiAll r ≠ .ok v := fun v h => hok ⟨v, h⟩
    have hdg := dig_not hno
    have HDG := Lib.hid hdg; clear hok hdg
    have HN := Lib.hid hno; clear hno
    refine (atoi_not (bs r) hs (by rw [HD.out]; exact HN.out) _ hE).mono ?_
    rintro e w1 ⟨v, t, p, rfl, hx⟩
    go_wp2_with fail
    rw [HR.out]
    exact LineR.same (by rw [HO.out, HDG.out]) HU.out hx
end Go.Proofs.YtedfpoidggpkdaaDoor
