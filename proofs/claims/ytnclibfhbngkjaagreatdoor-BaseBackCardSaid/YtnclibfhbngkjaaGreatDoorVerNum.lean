/- ver.number tells just a number of a version. -/
import Derived.Test.YtnclibfhbngkjaaGreatDoorM2
import Derived.Test.YtnclibfhbngkjaaGreatDoorM1
import Derived.WalkSpells
import Derived.WalkLawsBesides
import Derived.BigGuardPart
namespace Go.Proofs.YtnclibfhbngkjaaGreatDoor
open Go.RowKit
/-- What ver.number gives. -/
def NumR (o : Option Nat) (w : World) (e : Ending) (w' : World) : Prop :=
  match o with
  | none => ∃ v : Int, e = .returned (.tuple #[.int .i64 v, .bool false]) ∧ Ext w w'
  | some n => e = .returned (.tuple #[.int .i64 (n : Int), .bool true]) ∧ Ext w w'
theorem ver_number (s : ByteArray) (hs : s.size ≤ 1000000) (w : World) (hE : EnvN w) :
    Calls Tryz.prog 92 #[.string s] w (NumR (numV s.data.toList) w) := by
  go_enter Tryz.func92, Tryz.ntmps92
  go_wp2_with fail
  by_cases hok : ∃ v, Lib.atoiAll s.data.toList = .ok v
  · obtain ⟨v, hv⟩ := hok
    have HV := Lib.hid hv; clear hv
    refine (atoi_ok s hs v HV.out _).mono ?_
    rintro e w1 ⟨rfl, hx⟩
    by_cases h0 : 0 ≤ v
    · by_cases h9 : v ≤ 9999
      · go_wp2_with fail
        refine (itoa_any v h0 (by omega) _ (hE.ext hx)).mono ?_
        rintro e w2 ⟨rfl, hx2⟩
        obtain ⟨n, rfl⟩ : ∃ n : Nat, v = n := ⟨v.toNat, by omega⟩
        by_cases he : Lib.decDigits n = s.data.toList
        · have hq : ((bs (Lib.itoa n)).toList == s.toList) = true := by rw [itoa_nat, he, bs_of]; simp
          have e1 : numV s.data.toList = some n := numV_of ((canon_iff _ _).2 he) (by omega)
          have HE := Lib.hid e1; clear e1 he
          go_wp2_with fail
          go_ret2
          rw [HE.out]; exact ⟨rfl, hx.trans hx2⟩
        · have hq : ((bs (Lib.itoa n)).toList == s.toList) = false := by
            rw [itoa_nat, bs_toList, ByteArray.toList_eq]; simpa using he
          have e1 : numV s.data.toList = none := by
            cases hn : numV s.data.toList with
            | none => rfl
            | some m =>
              have h1 := numV_some hn
              have h2 := atoi_canon h1.1 (by omega)
              rw [HV.out] at h2
              have h2 : (n : Int) = m := by cases h2; rfl
              have h3 : n = m := by omega
              subst h3
              exact absurd ((canon_iff _ _).1 h1.1) he
          have HE := Lib.hid e1; clear e1 he
          go_wp2_with fail
          go_ret2
          rw [HE.out]; exact ⟨_, rfl, hx.trans hx2⟩
      · have e1 : numV s.data.toList = none := by
          cases hn : numV s.data.toList with
          | none => rfl
          | some m =>
            have h1 := numV_some hn
            have h2 := atoi_canon h1.1 (by omega)
            rw [HV.out] at h2
            have h2 : v = m := by cases h2; rfl
            omega
        have HE := Lib.hid e1; clear e1
        go_wp2_with fail
        go_ret2
        rw [HE.out]; exact ⟨_, rfl, hx⟩
    · have e1 : numV s.data.toList = none := by
        cases hn : numV s.data.toList with
        | none => rfl
        | some m =>
          have h1 := numV_some hn
          have h2 := atoi_canon h1.1 (by omega)
          rw [HV.out] at h2
          have h2 : v = m := by cases h2; rfl
          omega
      have HE := Lib.hid e1; clear e1
      go_wp2_with fail
      go_ret2
      rw [HE.out]; exact ⟨_, rfl, hx⟩
  · have hno : ∀ v, Lib.atoiAll s.data.toList ≠ .ok v := fun v h => hok ⟨v, h⟩
    have e1 : numV s.data.toList = none := by
      cases hn : numV s.data.toList with
      | none => rfl
      | some m =>
        have h1 := numV_some hn
        exact absurd (atoi_canon h1.1 (by omega)) (hno _)
    have HE := Lib.hid e1; clear e1 hok
    have HN := Lib.hid hno; clear hno
    refine (atoi_not s hs HN.out _ hE).mono ?_
    rintro e w1 ⟨v, t, p, rfl, hx⟩
    go_wp2_with fail
    go_ret2
    rw [HE.out]; exact ⟨_, rfl, hx⟩
end Go.Proofs.YtnclibfhbngkjaaGreatDoor
