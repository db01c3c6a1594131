/- farrierref09.number, .sign. -/
import Derived.Test.YtpfcofjianmeaaaGreatDoorVerCmp
namespace Go.Proofs.YtpfcofjianmeaaaGreatDoor
open Go.RowKit
theorem split_at' (s : ByteArray) (k : Nat) (h : k < s.size) : s.data.toList.drop k = s[k] :: s.data.toList.drop (k + 1) := by
  rw [List.drop_eq_getElem_cons (by rw [size_len]; exact h)]; rfl
theorem valD_lt : ∀ (l : List UInt8), digs l = true → valD l < 10 ^ l.length := by
  intro l
  induction l using list_snoc_ind with
  | h0 => intro _; decide
  | h1 l b ih =>
    intro hd
    rw [digs_snoc, Bool.and_eq_true, decide_eq_true_eq] at hd
    have := ih hd.1
    rw [valD_snoc, List.length_append, List.length_singleton, Nat.pow_succ]
    omega
theorem pow_mono10 {a b : Nat} (h : a ≤ b) : 10 ^ a ≤ 10 ^ b := Nat.pow_le_pow_right (by decide) h
theorem numV_short {l : List UInt8} (h : l.length < 1) : numV l = none := by
  have : l = [] := List.eq_nil_of_length_eq_zero (by omega)
  subst this; rfl
theorem canon_ge {l : List UInt8} (h1 : 5 ≤ l.length) (hd : digs l = true) (hh : l.head? ≠ some 48) : 10000 ≤ valD l := by
  cases l with
  | nil => simp at h1
  | cons b r =>
    have hb : 1 ≤ b.toNat - 48 := by
      simp only [digs, List.all_cons, Bool.and_eq_true, decide_eq_true_eq] at hd
      have : b.toNat ≠ 48 := by
        intro e; apply hh
        have : b = 48 := UInt8.toNat_inj.1 (by rw [e]; rfl)
        rw [this]; rfl
      omega
    have key : ∀ (r : List UInt8) (acc : Nat), acc * 10 ^ r.length ≤ r.foldl (fun acc b => acc * 10 + (b.toNat - 48)) acc := by
      intro r
      induction r with
      | nil => intro acc; simp
      | cons x r ih =>
        intro acc
        have h := ih (acc * 10 + (x.toNat - 48))
        simp only [List.foldl_cons, List.length_cons, Nat.pow_succ]
        refine Nat.le_trans ?_ h
        rw [Nat.add_mul, Nat.mul_comm (10 ^ r.length) 10, ← Nat.mul_assoc]
        exact Nat.le_add_right _ _
    have h2 := key r (b.toNat - 48)
    have h3 : 10 ^ 4 ≤ 10 ^ r.length := pow_mono10 (by simp at h1; omega)
    have h4 : 1 * 10 ^ r.length ≤ (b.toNat - 48) * 10 ^ r.length := Nat.mul_le_mul_right _ hb
    show 10000 ≤ valD (b :: r)
    have e : valD (b :: r) = r.foldl (fun acc b => acc * 10 + (b.toNat - 48)) (b.toNat - 48) := by simp [valD]
    rw [e]
    omega
theorem numV_long {l : List UInt8} (h : 4 < l.length) : numV l = none := by
  cases hn : numV l with
  | none => rfl
  | some n =>
    have h1 := numV_some hn
    have h2 := h1.1
    unfold canon at h2
    split at h2
    · rename_i hc
      have h2 := Option.some.inj h2
      rcases hc.2.2 with h3 | h3
      · omega
      · have := canon_ge (by omega) hc.2.1 h3
        omega
    · cases h2
theorem numV_zero {l : List UInt8} (h : 1 < l.length) (h0 : l.head? = some 48) : numV l = none := by
  cases hn : numV l with
  | none => rfl
  | some n =>
    have h2 := (numV_some hn).1
    unfold canon at h2
    split at h2
    · rename_i hc
      rcases hc.2.2 with h3 | h3
      · omega
      · exact absurd h0 h3
    · cases h2
theorem numV_digit {l : List UInt8} (h : digs l = false) : numV l = none := by
  cases hn : numV l with
  | none => rfl
  | some n =>
    have h2 := (numV_some hn).1
    unfold canon at h2
    split at h2
    · rename_i hc
      rw [h] at hc; cases hc.2.1
    · cases h2
theorem numV_good {l : List UInt8} (h1 : 1 ≤ l.length) (h4 : l.length ≤ 4) (hd : digs l = true) (h0 : l.length = 1 ∨ l.head? ≠ some 48) : numV l = some (valD l) := by
  refine numV_of ?_ ?_
  · unfold canon
    rw [if_pos ⟨by intro e; subst e; simp at h1, hd, h0⟩]
  · have h2 := valD_lt l hd
    have h3 := pow_mono10 h4
    have : 10 ^ 4 = 10000 := rfl
    omega
theorem digs_at {s : ByteArray} {k : Nat} (h : k < s.size) (hb : ¬ (48 ≤ s[k].toNat ∧ s[k].toNat ≤ 57)) : digs s.data.toList = false := by
  cases hd : digs s.data.toList with
  | false => rfl
  | true =>
    have hm : s[k] ∈ s.data.toList := by
      have : s.data.toList[k]'(by rw [size_len]; exact h) = s[k] := rfl
      rw [← this]; exact List.getElem_mem _
    have := List.all_eq_true.1 hd _ hm
    exact absurd (of_decide_eq_true this) hb
theorem take_snoc8 {s : ByteArray} {k : Nat} (h : k < s.size) : s.data.toList.take (k + 1) = s.data.toList.take k ++ [s[k]] := by
  rw [List.take_succ_eq_append_getElem (by rw [size_len]; exact h)]; rfl
theorem head_at (s : ByteArray) (h : 0 < s.size) : s.data.toList.head? = some s[0] := by
  have := split_at' s 0 h
  rw [List.drop_zero] at this
  rw [this]; rfl
/-- What farrierref09.number gives: -1 if it is none. -/
def numO (o : Option Nat) : Int := match o with
  | none => -1
  | some n => n
theorem ref09_number (s : ByteArray) (w : World) :
    Calls Tryz.prog 69 #[.string s] w fun e w' => e = .returned (.int .i64 (numO (numV s.data.toList))) ∧ w = w' := by
  obtain ⟨z, hz⟩ : ∃ z, z = numO (numV s.data.toList) := ⟨_, rfl⟩
  rw [← hz]
  have HZ := Lib.hid hz; clear hz
  by_cases h1 : 1 ≤ s.size
  · by_cases h4 : s.size ≤ 4
    · have h0 : 0 < s.size := h1
      by_cases hb : s.size = 1 ∨ s[0].toNat ≠ 48
      · have hhead : s.data.toList.length = 1 ∨ s.data.toList.head? ≠ some 48 := by
          rw [size_len, head_at s h0]
          rcases hb with h | h
          · exact Or.inl h
          · right; intro e
            have e := Option.some.inj e
            apply h; rw [e]; rfl
        have HH := Lib.hid hhead; clear hhead
        have round : True := trivial
        clear round
        have key : ∀ (hbf : (s.size = 1 ∧ decide ((1 : Int) < (s.size : Int)) = false) ∨ (1 < s.size ∧ (((s[0]'h0).toNat : Int) == 48) = false)),
            Calls Tryz.prog 69 #[.string s] w fun e w' => e = .returned (.int .i64 z) ∧ w = w' := by
          intro hbf
          clear hb
          rcases hbf with ⟨hs1, hs2⟩ | ⟨hs1, hs2⟩
          all_goals
            go_enter Tryz.func69, Tryz.ntmps69
            go_wp2_with fail
            all_goals try (exfalso; omega)
            go_loop [3, 4] (fun m i => ∃ (k v : Nat), k ≤ s.size ∧ v ≤ 10000 ∧ m = .int .i64 v ∧ i = .int .i64 k ∧ Hid (digs (s.data.toList.take k) = true ∧ v = valD (s.data.toList.take k))) (fun _ i => s.size - (intOf i).toNat)
            case atStart => exact ⟨0, 0, Nat.zero_le _, Nat.zero_le _, rfl, rfl, Lib.hid ⟨rfl, rfl⟩⟩
            case round =>
              obtain ⟨k, v, hk, hv, rfl, rfl, hinv⟩ := hrel
              by_cases hlt : k < s.size
              · by_cases hlo : s[k].toNat < 48
                · have HN := Lib.hid (numV_digit (digs_at hlt (by omega)))
                  go_wp2
                  all_goals first | (exfalso; omega) | (go_ret; exact ⟨ret_int (by rw [HZ.out, HN.out]; rfl), rfl⟩)
                · by_cases hhi : 57 < s[k].toNat
                  · have HN := Lib.hid (numV_digit (digs_at hlt (by omega)))
                    go_wp2
                    all_goals first | (exfalso; omega) | (go_ret; exact ⟨ret_int (by rw [HZ.out, HN.out]; rfl), rfl⟩)
                  · have hv2 : v < 1000 := by
                      have h5 := valD_lt _ hinv.out.1
                      rw [← hinv.out.2] at h5
                      have h6 : (s.data.toList.take k).length ≤ 3 := by simp; omega
                      have h7 := pow_mono10 h6
                      have : 10 ^ 3 = 1000 := rfl
                      omega
                    have hd2 : digs (s.data.toList.take (k + 1)) = true ∧ 10 * v + s[k].toNat - 48 = valD (s.data.toList.take (k + 1)) := by
                      rw [take_snoc8 hlt, digs_snoc, valD_snoc, hinv.out.1, ← hinv.out.2]
                      refine ⟨?_, by omega⟩
                      rw [Bool.true_and, decide_eq_true_eq]; omega
                    have HD := Lib.hid hd2; clear hd2
                    obtain ⟨x, hx⟩ : ∃ x, x = s[k].toNat := ⟨_, rfl⟩
                    go_wp2
                    go_round
                    case rel => exact ⟨k + 1, 10 * v + s[k].toNat - 48, by omega, by omega, by go_num, by go_num, Lib.hid HD.out⟩
                    case measure => simp [intOf]; omega
              · have hkk : k = s.size := by omega
                have hall : s.data.toList.take k = s.data.toList := List.take_of_length_le (by rw [size_len]; omega)
                have hg := numV_good (l := s.data.toList) (by rw [size_len]; exact h1) (by rw [size_len]; exact h4) (by rw [← hall]; exact hinv.out.1) HH.out
                have he : numO (numV s.data.toList) = v := by rw [hg]; show ((valD s.data.toList : Nat) : Int) = _; rw [hinv.out.2, hall]
                have HE := Lib.hid he; clear he hg hall
                go_wp2
                all_goals first | (exfalso; omega) | (go_ret; exact ⟨ret_int (by rw [HZ.out, HE.out]), rfl⟩)
        by_cases hs1 : s.size = 1
        · exact key (Or.inl ⟨hs1, by simp; omega⟩)
        · refine key (Or.inr ⟨by omega, ?_⟩)
          have : s[0].toNat ≠ 48 := by
            rcases hb with h | h
            · exact absurd h hs1
            · exact h
          simp; omega
      · have hs1 : 1 < s.size := by omega
        have hb8 : (((s[0]'h0).toNat : Int) == 48) = true := by simp; omega
        have HN := Lib.hid (numV_zero (l := s.data.toList) (by rw [size_len]; exact hs1) (by
          rw [head_at s h0]
          have e : s[0].toNat = 48 := by omega
          have : s[0] = 48 := UInt8.toNat_inj.1 (by rw [e]; rfl)
          rw [this]))
        clear hb
        go_enter Tryz.func69, Tryz.ntmps69
        go_wp2_with fail
        all_goals first | (exfalso; omega) | (go_ret; exact ⟨ret_int (by rw [HZ.out, HN.out]; rfl), rfl⟩)
    · have h5 : 4 < s.size := by omega
      have HN := Lib.hid (numV_long (l := s.data.toList) (by rw [size_len]; exact h5))
      clear h4
      go_enter Tryz.func69, Tryz.ntmps69
      go_wp2_with fail
      all_goals first | (exfalso; omega) | (go_ret; exact ⟨ret_int (by rw [HZ.out, HN.out]; rfl), rfl⟩)
  · have h5 : s.size < 1 := by omega
    have HN := Lib.hid (numV_short (l := s.data.toList) (by rw [size_len]; exact h5))
    clear h1
    go_enter Tryz.func69, Tryz.ntmps69
    go_wp2_with fail
    all_goals first | (exfalso; omega) | (go_ret; exact ⟨ret_int (by rw [HZ.out, HN.out]; rfl), rfl⟩)



















end Go.Proofs.YtpfcofjianmeaaaGreatDoor
