/- farrierref09.Parse gives a version's numbers and its revision. -/
import Derived.Test.YtpfcofjianmeaaaGreatDoorRef09
namespace Go.Proofs.YtpfcofjianmeaaaGreatDoor
open Go.RowKit
def DashInv (s q : ByteArray) (r k : Nat) : Prop :=
  (q = s ∧ r = 0 ∧ k ≤ s.size ∧ 45 ∉ s.data.toList.take k) ∨ (∃ h t, Lib.cut s.data.toList [45] = (h, t, true) ∧ q = bs h ∧ revV true t = some r ∧ k = h.length + 1)
theorem dash_out {s q : ByteArray} {r k : Nat} (h : DashInv s q r k) (hk : ¬ k < q.size) : ∃ h t m, Lib.cut s.data.toList [45] = (h, t, m) ∧ q = bs h ∧ revV m t = some r := by
  rcases h with ⟨rfl, rfl, h1, h2⟩ | ⟨h, t, h1, h2, h3, _⟩
  · rw [List.take_of_length_le (by rw [size_len]; omega)] at h2
    exact ⟨_, _, _, cut_none h2, (bs_of _).symm, rfl⟩
  · exact ⟨h, t, true, h1, h2, h3⟩
theorem dash_in {s q : ByteArray} {r k : Nat} (h : DashInv s q r k) (hk : k < q.size) : q = s ∧ r = 0 ∧ 45 ∉ s.data.toList.take k := by
  rcases h with ⟨rfl, rfl, h1, h2⟩ | ⟨h, t, h1, rfl, h3, h4⟩
  · exact ⟨rfl, rfl, h2⟩
  · rw [bs_size] at hk; omega
theorem dash_cut {s : ByteArray} {k : Nat} (hk : k < s.size) (hb : s[k] = 45) (hn : 45 ∉ s.data.toList.take k) : Lib.cut s.data.toList [45] = (s.data.toList.take k, s.data.toList.drop (k + 1), true) := by
  have h1 := split_at' s k hk
  have h2 := List.take_append_drop k s.data.toList
  rw [h1, hb] at h2
  conv => lhs; rw [← h2]
  exact cut_some _ hn
def PartInv (l : List UInt8) (D : List Nat) (fr k : Nat) : Prop :=
  ∃ P, numsV P = some D ∧ D.length ≤ k ∧ (k ≤ l.length ∧ fr ≤ k ∧ P ++ splitOn 46 (l.drop fr) = splitOn 46 l ∧ 46 ∉ (l.drop fr).take (k - fr) ∨ k = l.length + 1 ∧ P = splitOn 46 l)
theorem drop_parts' (l : List UInt8) (fr k : Nat) (h1 : fr ≤ k) (h2 : k < l.length) : l.drop fr = (l.drop fr).take (k - fr) ++ l[k] :: l.drop (k + 1) := by
  have h3 : k - fr < (l.drop fr).length := by simp; omega
  conv => lhs; rw [← List.take_append_drop (k - fr) (l.drop fr)]
  rw [List.drop_eq_getElem_cons h3, List.drop_drop, List.getElem_drop]
  have e1 : fr + (k - fr) = k := by omega
  have e2 : fr + (k - fr + 1) = k + 1 := by omega
  rw [e2]; congr 2; simp [e1]
theorem partInv_start (l : List UInt8) : PartInv l [] 0 0 := ⟨[], rfl, Nat.le_refl _, Or.inl ⟨Nat.zero_le _, Nat.le_refl _, by simp, by simp⟩⟩
theorem partInv_hit {l : List UInt8} {D} {fr k : Nat} (h : PartInv l D fr k) (hk : k < l.length) (hc : l[k] = 46) {n : Nat} (hn : numV ((l.drop fr).take (k - fr)) = some n) : PartInv l (D ++ [n]) (k + 1) (k + 1) := by
  obtain ⟨P, hP, h0, h | h⟩ := h
  · obtain ⟨h1, h3, h4, h5⟩ := h
    refine ⟨P ++ [(l.drop fr).take (k - fr)], numsV_snoc hP hn, by simp; omega, Or.inl ⟨by omega, Nat.le_refl _, ?_, by simp⟩⟩
    rw [drop_parts' l fr k h3 hk, hc, splitOn_append 46 _ _ h5] at h4
    rw [List.append_assoc]; exact h4
  · omega
theorem partInv_bad {l : List UInt8} {D} {fr k : Nat} (h : PartInv l D fr k) (hk : k < l.length) (hc : l[k] = 46) (hn : numV ((l.drop fr).take (k - fr)) = none) : numsV (splitOn 46 l) = none := by
  obtain ⟨P, hP, h0, h | h⟩ := h
  · obtain ⟨h1, h3, h4, h5⟩ := h
    rw [drop_parts' l fr k h3 hk, hc, splitOn_append 46 _ _ h5] at h4
    rw [← h4]
    exact numsV_bad (by simp) hn
  · omega
theorem partInv_miss {l : List UInt8} {D} {fr k : Nat} (h : PartInv l D fr k) (hk : k < l.length) (hc : l[k] ≠ 46) : PartInv l D fr (k + 1) := by
  obtain ⟨P, hP, h0, h | h⟩ := h
  · obtain ⟨h1, h3, h4, h5⟩ := h
    refine ⟨P, hP, by omega, Or.inl ⟨by omega, by omega, h4, ?_⟩⟩
    have h6 : k - fr < (l.drop fr).length := by simp; omega
    rw [show k + 1 - fr = (k - fr) + 1 by omega, List.take_succ_eq_append_getElem h6, List.mem_append]
    rintro (h | h)
    · exact h5 h
    · simp at h
      have e1 : fr + (k - fr) = k := by omega
      simp only [e1] at h
      exact hc h.symm
  · omega
theorem partInv_end {l : List UInt8} {D} {fr k : Nat} (h : PartInv l D fr k) (hk : k = l.length) {n : Nat} (hn : numV ((l.drop fr).take (k - fr)) = some n) : PartInv l (D ++ [n]) (k + 1) (k + 1) := by
  obtain ⟨P, hP, h0, h | h⟩ := h
  · obtain ⟨h1, h3, h4, h5⟩ := h
    refine ⟨P ++ [(l.drop fr).take (k - fr)], numsV_snoc hP hn, by simp; omega, Or.inr ⟨by omega, ?_⟩⟩
    have e : (l.drop fr).take (k - fr) = l.drop fr := List.take_of_length_le (by simp; omega)
    rw [e] at h5 ⊢
    rw [splitOn_none 46 _ h5] at h4
    exact h4
  · omega
theorem partInv_endbad {l : List UInt8} {D} {fr k : Nat} (h : PartInv l D fr k) (hk : k = l.length) (hn : numV ((l.drop fr).take (k - fr)) = none) : numsV (splitOn 46 l) = none := by
  obtain ⟨P, hP, h0, h | h⟩ := h
  · obtain ⟨h1, h3, h4, h5⟩ := h
    have e : (l.drop fr).take (k - fr) = l.drop fr := List.take_of_length_le (by simp; omega)
    rw [e] at h5 hn
    rw [splitOn_none 46 _ h5] at h4
    rw [← h4]
    exact numsV_bad (by simp) hn
  · omega
theorem partInv_out {l : List UInt8} {D} {fr k : Nat} (h : PartInv l D fr k) (hk : ¬ k ≤ l.length) : numsV (splitOn 46 l) = some D := by
  obtain ⟨P, hP, h0, h | h⟩ := h
  · omega
  · rw [← h.2]; exact hP
theorem partInv_fr {l : List UInt8} {D} {fr k : Nat} (h : PartInv l D fr k) (hk : k ≤ l.length) : fr ≤ k := by
  obtain ⟨P, hP, h0, h | h⟩ := h
  · exact h.2.1
  · omega
theorem partInv_len {l : List UInt8} {D} {fr k : Nat} (h : PartInv l D fr k) : D.length ≤ k := by
  obtain ⟨P, hP, h0, h⟩ := h; exact h0
set_option maxHeartbeats 1600000 in
theorem ref09_parse (s : ByteArray) (hs : s.size ≤ 1000) (w : World) :
    Calls Tryz.prog 62 #[.string s] w (ParseR (verL s.data.toList) w) := by
  go_enter Tryz.func62, Tryz.ntmps62
  go_wp2_with fail
  go_loop [0, 5, 6] (fun v rv i => ∃ (q : ByteArray) (r k : Nat), v = .string q ∧ rv = .int .i64 r ∧ i = .int .i64 k ∧ q.size ≤ 1000 ∧ k ≤ s.size + 1 ∧ Hid (DashInv s q r k)) (fun _ _ i => s.size + 1 - (intOf i).toNat)
  case atStart => exact ⟨s, 0, 0, rfl, rfl, rfl, hs, Nat.zero_le _, Lib.hid (Or.inl ⟨rfl, rfl, Nat.zero_le _, by simp⟩)⟩
  case round =>
    obtain ⟨q, r, k, rfl, rfl, rfl, hq, hk, hinv⟩ := hrel
    by_cases hlt : k < q.size
    · obtain ⟨rfl, rfl, hnd⟩ := dash_in hinv.out hlt
      have HND := Lib.hid hnd; clear hnd hinv
      by_cases hb : q[k] = 45
      · have hb8 : (((q[k]'hlt).toNat : Int) == 45) = true := by rw [hb]; rfl
        have HC := Lib.hid (dash_cut hlt hb HND.out)
        have he : q.extract (k + 1) q.size = bs (q.data.toList.drop (k + 1)) := by
          rw [extract_bs]; congr 1
          rw [List.take_of_length_le (by simp)]
        have he0 : q.extract 0 k = bs (q.data.toList.take k) := by rw [extract_bs, List.drop_zero, Nat.sub_zero]
        generalize ht : q.data.toList.drop (k + 1) = t at *
        generalize hh : q.data.toList.take k = h at *
        have HT := Lib.hid ht; clear ht
        have hhl : h.length = k := by rw [← hh]; simp; omega
        have HH := Lib.hid hh; clear hh hb
        have hnum := ref09_number (bs t)
        rw [bs_data] at hnum
        have hk1 : k + 1 ≤ q.size := hlt
        cases hn : numV t with
        | none =>
          rw [hn] at hnum
          have HU := Lib.hid hnum; clear hnum
          have HN := Lib.hid hn; clear hn
          have HHL := Lib.hid hhl; clear hhl
          go_wp2_with (go_at_call 69; refine (HU.out _).mono ?_; rintro e w2 ⟨rfl, rfl⟩)
          go_ret3
          exact ParseR.bad (verL_rev HC.out (revV_bad HN.out)) (Ext.refl _)
        | some n =>
          rw [hn] at hnum
          have hnum : ∀ w : World, Calls Tryz.prog 69 #[.string (bs t)] w fun e w' => e = .returned (.int .i64 (n : Int)) ∧ w = w' := hnum
          have HU := Lib.hid hnum; clear hnum
          have HN := Lib.hid hn; clear hn
          have HHL := Lib.hid hhl; clear hhl
          by_cases h0 : n < 1
          · go_wp2_with (go_at_call 69; refine (HU.out _).mono ?_; rintro e w2 ⟨rfl, rfl⟩)
            go_ret3
            exact ParseR.bad (verL_rev HC.out (revV_zero (by rw [HN.out]; congr 1; omega))) (Ext.refl _)
          · have h01 : 1 ≤ n := by omega
            clear h0
            have hbz : (bs h).size ≤ 1000 := by rw [bs_size]; have := HHL.out; omega
            have HBZ := Lib.hid hbz; clear hbz
            go_wp2_with (go_at_call 69; refine (HU.out _).mono ?_; rintro e w2 ⟨rfl, rfl⟩)
            go_round
            case rel => exact ⟨bs h, n, k + 1, rfl, rfl, by go_num, HBZ.out, by omega, Lib.hid (Or.inr ⟨h, t, HC.out, rfl, revV_ok HN.out h01, by rw [HHL.out]⟩)⟩
            case measure => simp [intOf]; omega
      · have hb8 : (((q[k]'hlt).toNat : Int) == 45) = false := by
          have : q[k].toNat ≠ 45 := fun e => hb (UInt8.toNat_inj.1 (by rw [e]; rfl))
          simp; omega
        have hn2 : 45 ∉ q.data.toList.take (k + 1) := by
          rw [take_snoc8 hlt, List.mem_append]
          rintro (h | h)
          · exact HND.out h
          · simp at h; exact hb h.symm
        have HN2 := Lib.hid hn2; clear hn2 hb
        go_wp2_with fail
        go_round
        case rel => exact ⟨q, 0, k + 1, rfl, rfl, by go_num, hq, by omega, Lib.hid (Or.inl ⟨rfl, rfl, hlt, HN2.out⟩)⟩
        case measure => simp [intOf]; omega
    · obtain ⟨h, t, m, hc, hqh, hr⟩ := dash_out hinv.out hlt
      have HC := Lib.hid hc; clear hc
      have HR := Lib.hid hr; clear hr
      have hl : q.data.toList = h := by rw [hqh, bs_data]
      have hll : h.length = q.size := by rw [← hl, size_len]
      have HL := Lib.hid hl; clear hl hqh hinv
      have HLL := Lib.hid hll; clear hll
      go_wp2_with fail
      clear hlt hk
      go_loopw [7, 8, 9] (fun v f i wr => ∃ (D : List Nat) (a : Option Addr) (cap fr k : Nat), v = .slice a D.length cap ∧ f = .int .i64 fr ∧ i = .int .i64 k ∧ k ≤ q.size + 1 ∧ Hid (PartInv h D fr k) ∧ Hid (OwnN wr w.heap.size a cap D) ∧ Ext w wr) (fun _ _ i _ => q.size + 1 - (intOf i).toNat)
      case atStart =>
        refine ⟨[], some ⟨w.heap.size, 0, none⟩, 0, 0, 0, rfl, rfl, rfl, by omega, Lib.hid (partInv_start h), Lib.hid ?_, Ext.alloc _ _⟩
        exact World.ownsRow_made w #[] 0 (Nat.le_refl _) (by simp) rfl
      case round =>
        obtain ⟨D, a, cap, fr, k, rfl, rfl, rfl, hk, hinv, hown, hext⟩ := hrel
        have hsz := hext.size
        by_cases hk1 : k = q.size + 1
        · have hD := partInv_out hinv.out (by rw [HLL.out]; omega)
          have HD := Lib.hid hD; clear hD
          have hd1 : decide (k ≤ q.size) = false := by simp; omega
          have hnx := hown.out.nums
          have HNX := Lib.hid hnx; clear hnx
          have hk1' : q.size < k := by omega
          clear hk1 hinv
          by_cases h4 : 4 < D.length
          · have hd4 : decide ((D.length : Int) ≤ 4) = false := by simp; omega
            go_wp2
            go_ret3
            exact ParseR.bad (verL_many HC.out HD.out h4) hext
          · have hd4 : decide ((D.length : Int) ≤ 4) = true := by simp; omega
            go_wp2
            go_ret3
            rw [verL_good HC.out HR.out HD.out (by omega)]
            exact ⟨a, cap, rfl, HNX.out.2, HNX.out.1, hext⟩
        · have hk2 : k ≤ q.size := by omega
          have hfr2 : fr ≤ k := partInv_fr hinv.out (by rw [HLL.out]; omega)
          have hDl : D.length ≤ k := partInv_len hinv.out
          obtain ⟨p, hp⟩ : ∃ p, p = (h.drop fr).take (k - fr) := ⟨_, rfl⟩
          have he : q.extract fr k = bs p := by rw [extract_bs, hp, HL.out]
          have HP := Lib.hid hp; clear hp
          have hnum := ref09_number (bs p)
          rw [bs_data] at hnum
          by_cases hk3 : k = q.size
          · have hkb : ((k : Int) == (q.size : Int)) = true := by simp; omega
            have HK := Lib.hid hk3; clear hk3 hk1
            cases hn : numV p with
            | none =>
              rw [hn] at hnum
              have HU := Lib.hid hnum; clear hnum
              have HN := Lib.hid hn; clear hn
              have hbad := partInv_endbad hinv.out (by rw [HLL.out]; exact HK.out) (by rw [← HP.out]; exact HN.out)
              have HB := Lib.hid hbad; clear hbad
              go_wp2_with fail
              refine (HU.out _).mono ?_
              rintro e w2 ⟨rfl, rfl⟩
              go_wp2_with fail
              go_ret3
              exact ParseR.bad (verL_nums HC.out HB.out) hext
            | some n =>
              rw [hn] at hnum
              have hnum : ∀ w : World, Calls Tryz.prog 69 #[.string (bs p)] w fun e w' => e = .returned (.int .i64 (n : Int)) ∧ w = w' := hnum
              have HU := Lib.hid hnum; clear hnum
              have HN := Lib.hid hn; clear hn
              go_wp2_with fail
              refine (HU.out _).mono ?_
              rintro e w2 ⟨rfl, rfl⟩
              go_wp2_with (at_builtin; refine append_num rfl (.tmp 55) (.tmp 57) rfl w.heap.size a cap D n rfl hown.out rfl (by omega) hsz ?_; intro g cap' w4 hown2 hb2)
              go_roundw
              case rel =>
                have HI := partInv_end hinv.out (by rw [HLL.out]; exact HK.out) (by rw [← HP.out]; exact HN.out)
                exact ⟨D ++ [n], some ⟨g, 0, none⟩, cap', k + 1, k + 1, by simp, by go_num, by go_num, by omega, Lib.hid HI, Lib.hid hown2, Below.trans hext hb2⟩
              case measure => simp [intOf]; omega
          · have hkb : ((k : Int) == (q.size : Int)) = false := by simp; omega
            have hk4 : k < q.size := by omega
            have hk4' : k < h.length := by rw [HLL.out]; exact hk4
            have hlk : h[k] = q[k] := by
              have := HL.out
              subst this
              rfl
            clear hk3 hk1
            by_cases hc : h[k] = 46
            · have hcb : (((q[k]'hk4).toNat : Int) == 46) = true := by rw [← hlk, hc]; rfl
              have HCC := Lib.hid hc; clear hc
              have HLK := Lib.hid hlk; clear hlk
              cases hn : numV p with
              | none =>
                rw [hn] at hnum
                have HU := Lib.hid hnum; clear hnum
                have HN := Lib.hid hn; clear hn
                have hbad := partInv_bad hinv.out hk4' HCC.out (by rw [← HP.out]; exact HN.out)
                have HB := Lib.hid hbad; clear hbad
                go_wp2_with fail
                refine (HU.out _).mono ?_
                rintro e w2 ⟨rfl, rfl⟩
                go_wp2_with fail
                go_ret3
                exact ParseR.bad (verL_nums HC.out HB.out) hext
              | some n =>
                rw [hn] at hnum
                have hnum : ∀ w : World, Calls Tryz.prog 69 #[.string (bs p)] w fun e w' => e = .returned (.int .i64 (n : Int)) ∧ w = w' := hnum
                have HU := Lib.hid hnum; clear hnum
                have HN := Lib.hid hn; clear hn
                go_wp2_with fail
                refine (HU.out _).mono ?_
                rintro e w2 ⟨rfl, rfl⟩
                go_wp2_with (at_builtin; refine append_num rfl (.tmp 55) (.tmp 57) rfl w.heap.size a cap D n rfl hown.out rfl (by omega) hsz ?_; intro g cap' w4 hown2 hb2)
                go_roundw
                case rel =>
                  have HI := partInv_hit hinv.out hk4' HCC.out (by rw [← HP.out]; exact HN.out)
                  exact ⟨D ++ [n], some ⟨g, 0, none⟩, cap', k + 1, k + 1, by simp, by go_num, by go_num, by omega, Lib.hid HI, Lib.hid hown2, Below.trans hext hb2⟩
                case measure => simp [intOf]; omega
            · have hcb : (((q[k]'hk4).toNat : Int) == 46) = false := by
                rw [← hlk]
                have : h[k].toNat ≠ 46 := fun e => hc (UInt8.toNat_inj.1 (by rw [e]; rfl))
                simp; omega
              have HCC := Lib.hid hc; clear hc
              have HLK := Lib.hid hlk; clear hlk hnum
              go_wp2_with fail
              go_roundw
              case rel => exact ⟨D, a, cap, fr, k + 1, rfl, rfl, by go_num, by omega, Lib.hid (partInv_miss hinv.out hk4' HCC.out), hown, hext⟩
              case measure => simp [intOf]; omega
end Go.Proofs.YtpfcofjianmeaaaGreatDoor
