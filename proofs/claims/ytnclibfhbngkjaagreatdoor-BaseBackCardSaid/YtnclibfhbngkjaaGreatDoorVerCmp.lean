/- ver.Compare, ver.Right, ver.Fits: what they give. -/
import Derived.Test.YtnclibfhbngkjaaGreatDoorVerParse
namespace Go.Proofs.YtnclibfhbngkjaaGreatDoor
open Go.RowKit
theorem cmp_int (x y : Nat) (w : World) :
    Calls Tryz.prog 85 #[.int .i64 (x : Int), .int .i64 (y : Int)] w fun e w' => e = .returned (.int .i64 (cmpN x y)) ∧ w = w' := by
  have nan : ∀ (z : Nat) (w : World), Calls Tryz.prog 99 #[.int .i64 (z : Int)] w fun e w' => e = .returned (.bool false) ∧ w = w' := by
    intro z w
    have hz : ((z : Int) != (z : Int)) = false := by simp
    go_enter Tryz.func99, Tryz.ntmps99
    go_wp2_with fail
    go_ret
    exact ⟨rfl, rfl⟩
  go_enter Tryz.func85, Tryz.ntmps85
  go_wp2_with fail
  refine (nan x _).mono ?_
  rintro e w1 ⟨rfl, rfl⟩
  go_wp2_with fail
  refine (nan y _).mono ?_
  rintro e w1 ⟨rfl, rfl⟩
  by_cases h : x < y
  · have e1 : cmpN x y = -1 := by simp [cmpN, h]
    have HE := Lib.hid e1; clear e1
    go_wp2_with fail
    go_ret
    exact ⟨ret_int (by rw [HE.out]), rfl⟩
  · by_cases h2 : y < x
    · have e1 : cmpN x y = 1 := by simp [cmpN, h, h2]
      have HE := Lib.hid e1; clear e1
      go_wp2_with fail
      go_ret
      exact ⟨ret_int (by rw [HE.out]), rfl⟩
    · have e1 : cmpN x y = 0 := by simp [cmpN, h, h2]
      have HE := Lib.hid e1; clear e1
      go_wp2_with fail
      go_ret
      exact ⟨ret_int (by rw [HE.out]), rfl⟩
theorem drop_getD {X : List Nat} {k : Nat} (h : k < X.length) : X.drop k = X.getD k 0 :: X.drop (k + 1) := by
  rw [List.drop_eq_getElem_cons h]; simp [List.getD_eq_getElem?_getD, List.getElem?_eq_getElem h]
theorem cmpL_cons (a b : Nat) (x y : List Nat) : cmpL (a :: x) (b :: y) = if cmpN a b = 0 then cmpL x y else cmpN a b := by
  unfold cmpN
  show (if a < b then -1 else if b < a then 1 else cmpL x y) = _
  repeat' split
  all_goals first | omega | rfl
theorem slices_cmp (a b : Option Addr) (X Y : List Nat) (c d : Nat) (w : World) (hX : Nums w a X) (hY : Nums w b Y) (_hc : X.length ≤ c) (_hd : Y.length ≤ d) (h4 : X.length ≤ 1000) (_h5 : Y.length ≤ 1000) :
    Calls Tryz.prog 88 #[.slice a X.length c, .slice b Y.length d] w fun e w' => e = .returned (.int .i64 (cmpL X Y)) ∧ w = w' := by
  have HX := Lib.hid hX; clear hX
  have HY := Lib.hid hY; clear hY
  go_enter Tryz.func88, Tryz.ntmps88
  go_wp2_with fail
  go_loop [11] (fun i => ∃ k : Nat, k ≤ X.length ∧ i = .int .i64 k ∧ Hid (k ≤ Y.length ∧ cmpL X Y = cmpL (X.drop k) (Y.drop k))) (fun i => X.length - (intOf i).toNat)
  case atStart => exact ⟨0, Nat.zero_le _, rfl, Lib.hid ⟨Nat.zero_le _, rfl⟩⟩
  case round =>
    obtain ⟨k, hk, rfl, hinv⟩ := hrel
    by_cases hlt : k < X.length
    · obtain ⟨g, off, rfl, -, hcx⟩ := HX.out.at (by intro e; rw [e] at hlt; simp at hlt)
      have hcell := hcx k hlt
      clear hcx
      obtain ⟨x, hx⟩ : ∃ x, x = X.getD k 0 := ⟨_, rfl⟩
      rw [← hx] at hcell
      have HXX := Lib.hid hx; clear hx
      by_cases hy : k < Y.length
      · obtain ⟨g2, off2, rfl, -, hcy⟩ := HY.out.at (by intro e; rw [e] at hy; simp at hy)
        have hcell2 := hcy k hy
        clear hcy
        obtain ⟨y, hyy⟩ : ∃ y, y = Y.getD k 0 := ⟨_, rfl⟩
        rw [← hyy] at hcell2
        have HYY := Lib.hid hyy; clear hyy
        have hst : cmpL X Y = if cmpN x y = 0 then cmpL (X.drop (k + 1)) (Y.drop (k + 1)) else cmpN x y := by
          rw [hinv.out.2, drop_getD hlt, drop_getD hy, ← HXX.out, ← HYY.out, cmpL_cons]
        have HST := Lib.hid hst; clear hst
        have hci := cmp_int x y
        generalize hz : cmpN x y = z at hci
        have HZ := Lib.hid hz; clear hz
        have HCI := Lib.hid hci; clear hci
        by_cases hz0 : z = 0
        · subst hz0
          go_wp2_with (go_at_call 85; refine (HCI.out _).mono ?_; rintro e w2 ⟨rfl, rfl⟩)
          go_round
          case rel => exact ⟨k + 1, by omega, by go_num, Lib.hid ⟨hy, by rw [HST.out, if_pos HZ.out]⟩⟩
          case measure => simp [intOf]; omega
        · have hzb : (z != 0) = true := by simpa using hz0
          go_wp2_with (go_at_call 85; refine (HCI.out _).mono ?_; rintro e w2 ⟨rfl, rfl⟩)
          go_ret
          exact ⟨ret_int (by rw [HST.out, if_neg (by rw [HZ.out]; exact hz0), HZ.out]), rfl⟩
      · have hkY : k = Y.length := by have := hinv.out.1; omega
        have e1 : cmpL X Y = 1 := by
          rw [hinv.out.2, drop_getD hlt, hkY, List.drop_length]; rfl
        have HE := Lib.hid e1; clear e1
        have hge : decide ((Y.length : Int) ≤ (k : Int)) = true := by simp; omega
        have hge2 : decide (Y.length ≤ k) = true := by simp; omega
        clear hkY hy
        go_wp2
        go_ret
        exact ⟨ret_int (by rw [HE.out]), rfl⟩
    · have hkk : k = X.length := by omega
      by_cases hy : X.length < Y.length
      · have e1 : cmpL X Y = -1 := by
          rw [hinv.out.2, hkk, List.drop_length, drop_getD hy]; rfl
        have HE := Lib.hid e1; clear e1
        go_wp2
        go_ret
        exact ⟨ret_int (by rw [HE.out]), rfl⟩
      · have e1 : cmpL X Y = 0 := by
          have hkY : k = Y.length := by have := hinv.out.1; omega
          rw [hinv.out.2, hkk, List.drop_length, ← hkk, hkY, List.drop_length]; rfl
        have HE := Lib.hid e1; clear e1
        go_wp2
        go_ret
        exact ⟨ret_int (by rw [HE.out]), rfl⟩
/-- Is it a version? -/
theorem ver_right (s : ByteArray) (hs : s.size ≤ 1000) (w : World) (hE : EnvN w) :
    Calls Tryz.prog 29 #[.string s] w fun e w' => e = .returned (.bool (verL s.data.toList).isSome) ∧ Ext w w' := by
  have hp := ver_parse s hs w hE
  go_enter Tryz.func29, Tryz.ntmps29
  go_wp2_with fail
  cases hv : verL s.data.toList with
  | none =>
    rw [hv] at hp
    have HP := Lib.hid hp
    have HV := Lib.hid hv; clear hp hv
    refine HP.out.mono ?_
    rintro e w1 ⟨a, n, c, r, rfl, hx⟩
    go_wp2_with fail
    go_ret
    exact ⟨ret_bool (by rw [HV.out]; rfl), hx⟩
  | some v =>
    rw [hv] at hp
    have HP := Lib.hid hp
    have HV := Lib.hid hv; clear hp hv
    obtain ⟨X, r⟩ := v
    refine HP.out.mono ?_
    rintro e w1 ⟨a, c, rfl, _, _, hx⟩
    go_wp2_with fail
    go_ret
    exact ⟨ret_bool (by rw [HV.out]; rfl), hx⟩

theorem cmp_or (g : Nat) (z1 z2 : Int) (w : World) (h1 : w.cell? ⟨g, 0, none⟩ = some (.int .i64 z1)) (h2 : w.cell? ⟨g, 1, none⟩ = some (.int .i64 z2)) :
    Calls Tryz.prog 87 #[.slice (some ⟨g, 0, none⟩) 2 2] w fun e w' => ∃ z : Int, Hid (z = if z1 = 0 then z2 else z1) ∧ e = .returned (.int .i64 z) ∧ w = w' := by
  obtain ⟨z, hz⟩ : ∃ z, z = if z1 = 0 then z2 else z1 := ⟨_, rfl⟩
  have HZZ := Lib.hid hz; clear hz
  refine Calls.mono (R := fun e w' => e = .returned (.int .i64 z) ∧ w = w') ?_ (fun e w' h => ⟨z, HZZ, h.1, h.2⟩)
  go_enter Tryz.func87, Tryz.ntmps87
  go_wp2_with fail
  go_loop [8] (fun i => ∃ k : Nat, k ≤ 2 ∧ i = .int .i64 k ∧ Hid ((1 ≤ k → z1 = 0) ∧ (2 ≤ k → z2 = 0))) (fun i => 2 - (intOf i).toNat)
  case atStart => exact ⟨0, Nat.zero_le _, rfl, Lib.hid ⟨by omega, by omega⟩⟩
  case round =>
    obtain ⟨k, hk, rfl, hinv⟩ := hrel
    have hk3 : k = 0 ∨ k = 1 ∨ k = 2 := by omega
    rcases hk3 with rfl | rfl | rfl
    · by_cases hz : z1 = 0
      · subst hz
        go_wp2
        go_round
        case rel => exact ⟨1, by omega, by go_num, Lib.hid ⟨by simp, by omega⟩⟩
        case measure => simp [intOf]
      · have hzb : (z1 != 0) = true := by simpa using hz
        have HZ := Lib.hid hz; clear hz
        go_wp2
        go_ret
        exact ⟨ret_int (by rw [HZZ.out, if_neg HZ.out]), rfl⟩
    · have HZ1 := Lib.hid (hinv.out.1 (by omega))
      by_cases hz : z2 = 0
      · subst hz
        go_wp2
        go_round
        case rel => exact ⟨2, by omega, by go_num, Lib.hid ⟨fun _ => HZ1.out, by simp⟩⟩
        case measure => simp [intOf]
      · have hzb : (z2 != 0) = true := by simpa using hz
        have HZ := Lib.hid hz; clear hz
        go_wp2
        go_ret
        exact ⟨ret_int (by rw [HZZ.out, if_pos HZ1.out]), rfl⟩
    · have HZ1 := Lib.hid (hinv.out.1 (by omega))
      have HZ2 := Lib.hid (hinv.out.2 (by omega))
      go_wp2
      go_ret
      exact ⟨ret_int (by rw [HZZ.out, if_pos HZ1.out, HZ2.out]), rfl⟩
theorem ver_truth (b : Bool) (w : World) :
    Calls Tryz.prog 86 #[.bool b] w fun e w' => e = .returned (.int .i64 ((if b then 1 else 0 : Nat) : Int)) ∧ w = w' := by
  go_enter Tryz.func86, Tryz.ntmps86
  cases b with
  | true =>
    go_wp2_with fail
    go_ret
    exact ⟨rfl, rfl⟩
  | false =>
    go_wp2_with fail
    go_ret
    exact ⟨rfl, rfl⟩
theorem verL_len {l : List UInt8} {X : List Nat} {r : Nat} (h : verL l = some (X, r)) : X.length ≤ 4 := by
  unfold verL at h
  split at h
  · split at h
    · have h := Option.some.inj h
      simp only [Prod.mk.injEq] at h
      rw [← h.1]; assumption
    · cases h
  · cases h
theorem cell_fresh (w : World) (cs : Array Value) (t : TypeId) (i : Nat) (v : Value) (h : cs[i]? = some v) : (w.alloc (.cells cs t)).cell? ⟨w.heap.size, i, none⟩ = some v := by
  have h2 : (w.alloc (.cells cs t)).heap[w.heap.size]? = some (.cells cs t (0, 0)) := by
    show (w.heap.push _)[w.heap.size]? = _
    simp
  unfold World.cell?
  simp only [h2]
  simp [h]
theorem ver_compare (a b : ByteArray) (ha : a.size ≤ 1000) (hb : b.size ≤ 1000) (w : World) (hE : EnvN w) :
    Calls Tryz.prog 64 #[.string a, .string b] w fun e w' => e = .returned (.int .i64 (cmpV (verL a.data.toList) (verL b.data.toList))) ∧ Ext w w' := by
  have hp := ver_parse a ha w hE
  obtain ⟨u, hu⟩ : ∃ u, u = verL a.data.toList := ⟨_, rfl⟩
  obtain ⟨v, hv⟩ : ∃ v, v = verL b.data.toList := ⟨_, rfl⟩
  rw [← hu, ← hv]
  rw [← hu] at hp
  have hq : ∀ w1, Ext w w1 → Calls Tryz.prog 68 #[.string b] w1 (ParseR v w1) := by
    intro w1 hx; rw [hv]; exact ver_parse b hb w1 (hE.ext hx)
  have HQ := Lib.hid hq; clear hq
  have HP := Lib.hid hp; clear hp
  have HU := Lib.hid hu; clear hu
  have HV := Lib.hid hv; clear hv
  go_enter Tryz.func64, Tryz.ntmps64
  go_wp2_with fail
  cases u with
  | none =>
    refine HP.out.mono ?_
    rintro e w1 ⟨a1, n1, c1, r1, rfl, hx⟩
    go_wp2_with fail
    cases v with
    | none =>
      refine (HQ.out _ hx).mono ?_
      rintro e w2 ⟨a2, n2, c2, r2, rfl, hx2⟩
      go_wp2_with fail
      refine (ver_truth false _).mono ?_
      rintro e w3 ⟨rfl, rfl⟩
      go_wp2_with fail
      refine (ver_truth false _).mono ?_
      rintro e w3 ⟨rfl, rfl⟩
      go_wp2_with fail
      refine (cmp_int 0 0 _).mono ?_
      rintro e w3 ⟨rfl, rfl⟩
      go_wp2_with fail
      go_ret
      exact ⟨rfl, hx.trans hx2⟩
    | some v =>
      obtain ⟨Y, j⟩ := v
      refine (HQ.out _ hx).mono ?_
      rintro e w2 ⟨a2, c2, rfl, _, _, hx2⟩
      go_wp2_with fail
      refine (ver_truth false _).mono ?_
      rintro e w3 ⟨rfl, rfl⟩
      go_wp2_with fail
      refine (ver_truth true _).mono ?_
      rintro e w3 ⟨rfl, rfl⟩
      go_wp2_with fail
      refine (cmp_int 0 1 _).mono ?_
      rintro e w3 ⟨rfl, rfl⟩
      go_wp2_with fail
      go_ret
      exact ⟨rfl, hx.trans hx2⟩
  | some u =>
    obtain ⟨X, i⟩ := u
    refine HP.out.mono ?_
    rintro e w1 ⟨a1, c1, rfl, hc1, hn1, hx⟩
    have HN1 := Lib.hid hn1; clear hn1
    go_wp2_with fail
    cases v with
    | none =>
      refine (HQ.out _ hx).mono ?_
      rintro e w2 ⟨a2, n2, c2, r2, rfl, hx2⟩
      go_wp2_with fail
      refine (ver_truth true _).mono ?_
      rintro e w3 ⟨rfl, rfl⟩
      go_wp2_with fail
      refine (ver_truth false _).mono ?_
      rintro e w3 ⟨rfl, rfl⟩
      go_wp2_with fail
      refine (cmp_int 1 0 _).mono ?_
      rintro e w3 ⟨rfl, rfl⟩
      go_wp2_with fail
      go_ret
      exact ⟨rfl, hx.trans hx2⟩
    | some v =>
      obtain ⟨Y, j⟩ := v
      refine (HQ.out _ hx).mono ?_
      rintro e w2 ⟨a2, c2, rfl, hc2, hn2, hx2⟩
      have HN2 := Lib.hid hn2; clear hn2
      have h4 := verL_len HU.out.symm
      have h5 := verL_len HV.out.symm
      go_wp2_with fail
      refine (slices_cmp a1 a2 X Y c1 c2 _ (HN1.out.ext hx2) HN2.out hc1 hc2 (by omega) (by omega)).mono ?_
      rintro e w3 ⟨rfl, rfl⟩
      generalize hz1 : cmpL X Y = z1
      go_wp2_with fail
      refine (cmp_int i j _).mono ?_
      rintro e w3 ⟨rfl, rfl⟩
      generalize hz2 : cmpN i j = z2
      go_wp2_with fail
      refine (cmp_or _ z1 z2 _ (cell_fresh _ _ _ 0 _ rfl) (cell_fresh _ _ _ 1 _ rfl)).mono ?_
      rintro e w3 ⟨z, hz, rfl, rfl⟩
      go_wp2_with fail
      go_ret
      refine ⟨ret_int ?_, hx.trans (hx2.trans (Ext.alloc _ _))⟩
      show _ = cmpP (X, i) (Y, j)
      simp only [cmpP, hz1, hz2, hz.out]
end Go.Proofs.YtnclibfhbngkjaaGreatDoor
