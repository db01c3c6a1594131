/- The walk of the statement PathJoins: it answers true, whatever the names. -/
import Derived.Test.YtedfpoidggpkdaaDoorPathSplits
import Derived.Test.YtedfpoidggpkdaaDoorPathJoinsSpec
namespace Go.Proofs.YtedfpoidggpkdaaDoor
open Go.RowKit
theorem take_all_step {L : List (List UInt8)} {k : Nat} (hk : k < L.length) : (L.take (k + 1)).all nameL = ((L.take k).all nameL && nameL (L.getD k [])) := by
  rw [List.take_succ_eq_append_getElem hk, List.all_append]
  simp [hk]
theorem no47_step {p : List UInt8} {j : Nat} (hj : j < (bs p).size) (h : (47 : UInt8) ∉ p.take j) (hb : ((((bs p)[j]'hj).toNat : Int) == 47) = false) : (47 : UInt8) ∉ p.take (j + 1) := by
  have hj' : j < p.length := by rwa [bs_size] at hj
  have hb2 : (((p[j]'hj').toNat : Int) == 47) = false := hb
  rw [List.take_succ_eq_append_getElem hj', List.mem_append]
  rintro (h1 | h1)
  · exact h h1
  · simp at h1
    rw [← h1] at hb2
    simp at hb2
def JoinRel (L : List (List UInt8)) (r0 : Bool) (k : Nat) (r : Bool) (n : Int) : Prop :=
  r = (r0 && (L.take k).all nameL) ∧ n = ((glue 47 (L.take k)).length : Int) ∧ (glue 47 (L.take k)).length ≤ 21 * k
theorem joinRel_start (L : List (List UInt8)) (r0 : Bool) : JoinRel L r0 0 r0 0 := ⟨by simp, by simp [glue], by simp [glue]⟩
theorem joinRel_step {L : List (List UInt8)} {r0 r : Bool} {k : Nat} {n : Int} (hk : k < L.length) (h : JoinRel L r0 k r n) (hs : (L.getD k []).length ≤ 20) :
    JoinRel L r0 (k + 1) (r && nameL (L.getD k [])) (n + (1 + ((L.getD k []).length : Int))) := by
  obtain ⟨h1, h2, h3⟩ := h
  refine ⟨by rw [h1, take_all_step hk, Bool.and_assoc], ?_, ?_⟩
  · rw [glue_take_succ hk, h2]; simp; omega
  · rw [glue_take_succ hk]; simp at hs ⊢; omega
set_option maxHeartbeats 1600000 in
theorem pathJoins_few (a : Option Addr) (L : List (List UInt8)) (c : Nat) (w : World) (hE : Env w) (hc : L.length ≤ c) (hS : Strs w a L) (h8 : L.length ≤ 8) (h0 : 0 < L.length) (h5 : L.length ≤ 5) :
    Calls Tryd.prog 5 #[.slice a L.length c] w fun e w' => e = .returned (.bool true) ∧ Ext w w' := by
  have HS := Lib.hid hS; clear hS
  have HR0 : Hid ((decide (0 < L.length) && decide (L.length ≤ 5)) = true) := Lib.hid (by simp; omega)
  have hd5 : decide ((L.length : Int) ≤ 5) = true := by simp; omega
  go_enter Tryd.func5, Tryd.ntmps5
  go_wp2_with fail
  refine (alive05 _ hE).mono ?_
  rintro e w1 ⟨rfl, hx⟩
  have HS := Lib.hid (HS.out.ext hx)
  go_wp2_with fail
  go_loopw [3, 4, 28] (fun r n i wr => ∃ (k : Nat) (rb : Bool) (nn : Int), k ≤ L.length ∧ i = .int .i64 k ∧ r = .bool rb ∧ n = .int .i64 nn ∧ 0 ≤ nn ∧ nn ≤ 168 ∧ Hid (JoinRel L true k rb nn) ∧ Ext w1 wr) (fun _ _ i _ => L.length - (intOf i).toNat)
  case atStart => exact ⟨0, true, 0, Nat.zero_le _, rfl, rfl, rfl, by omega, by omega, Lib.hid (joinRel_start L true), Ext.refl _⟩
  case round =>
    obtain ⟨k, rb, nn, hk, rfl, rfl, rfl, hn0, hn1, hrel, hext⟩ := hrel
    by_cases hlt : k < L.length
    · obtain ⟨g, off, ha, -, hcl⟩ := HS.out.at (by intro e; rw [e] at hlt; simp at hlt)
      subst ha
      have hcell := hext.cell (hcl k hlt)
      clear hcl
      obtain ⟨p, hp⟩ : ∃ p, p = L.getD k [] := ⟨_, rfl⟩
      rw [← hp] at hcell
      have HP := Lib.hid hp; clear hp
      by_cases h20 : (bs p).size ≤ 20
      · have hpl : p.length ≤ 20 := by rw [bs_size] at h20; exact h20
        have hpe : ((bs p).size : Int) = (p.length : Int) := by rw [bs_size]
        have HRel := joinRel_step hlt hrel.out (by rw [← HP.out]; exact hpl)
        rw [← HP.out, ← hpe] at HRel
        have hn2 : nn + (1 + ((bs p).size : Int)) ≤ 168 := by
          have := HRel.2.2; have := HRel.2.1; omega
        have HPE := Lib.hid hpe; clear hpe
        obtain ⟨b, hb⟩ : ∃ b, nameL p = b := ⟨_, rfl⟩
        rw [hb] at HRel
        have HB := Lib.hid hb; clear hb
        have HN : Hid (∀ W, Calls Tryd.prog 19 #[.string (bs p)] W fun e w' => e = .returned (.bool b) ∧ Ext W w') := Lib.hid (fun W => name_eq W (by rw [bs_data]; exact HB.out))
        have HRel := Lib.hid HRel
        clear hrel
        cases rb with
        | true =>
          go_wp2_with (go_at_call 19; refine (HN.out _).mono ?_; rintro e w2 ⟨rfl, hx2⟩)
          go_roundw
          case rel => exact ⟨k + 1, b, nn + (1 + ((bs p).size : Int)), by omega, by go_num, rfl, rfl, by omega, hn2, Lib.hid (by have := HRel.out; simpa using this), hext.trans hx2⟩
          case measure => simp [intOf]; omega
        | false =>
          go_wp2_with fail
          go_roundw
          case rel => exact ⟨k + 1, false, nn + (1 + ((bs p).size : Int)), by omega, by go_num, rfl, rfl, by omega, hn2, Lib.hid (by have := HRel.out; simpa using this), hext⟩
          case measure => simp [intOf]; omega
      · have h21 : 20 < (bs p).size := by omega
        clear h20
        go_wp2_with fail
        go_ret
        exact ⟨rfl, hx.trans hext⟩
    · have hkk : k = L.length := by omega
      have HRel : Hid (rb = (true && L.all nameL) ∧ nn = ((glue 47 L).length : Int)) := Lib.hid (by
        have h := hrel.out
        unfold JoinRel at h
        rw [hkk, List.take_length] at h
        exact ⟨h.1, h.2.1⟩)
      have hg168 : (glue 47 L).length ≤ 168 := by have := HRel.out.2; omega
      clear hrel hk hkk
      have HS := Lib.hid (HS.out.ext hext)
      have hx := hx.trans hext
      clear hext
      go_wp2_with fail
      have hjl : (joinP L).length ≤ 140737488355328 := by have := joinP_len L; omega
      refine (path_join a L c _ HS.out hc (by omega) hjl).mono ?_
      rintro e w2 ⟨rfl, hx2⟩
      have hx := hx.trans hx2
      have HS := Lib.hid (HS.out.ext hx2)
      clear hx2 hjl
      have HPJ : Hid (joinP L ≠ [47] → (∀ p ∈ L, (47 : UInt8) ∉ p) → pathL (joinP L) = if (joinOk L && decide ((glue 47 L).length ≤ 40)) = true then some L else none) := Lib.hid (fun h1 h2 => pathL_join h1 h2)
      have HRT : Hid (joinP L = [47] → L.length ≤ 1) := Lib.hid joinP_root
      obtain ⟨P, hP⟩ : ∃ P, P = joinP L := ⟨_, rfl⟩
      rw [← hP] at HPJ HRT ⊢
      have HP := Lib.hid hP; clear hP
      go_wp2_with fail
      by_cases hr : P = [47]
      · have e1 : ((bs P).toList == [47]) = true := by rw [bs_toList, hr]; rfl
        have hl1 : L.length ≤ 1 := HRT.out hr
        have HR := Lib.hid hr; clear hr
        refine (split_some _ (hE.ext hx) (L := []) (by rw [bs_data, HR.out]; exact pathL_root)).mono ?_
        rintro e w3 ⟨a3, c3, rfl, -, -, hx2⟩
        have hx := hx.trans hx2; clear hx2
        have hd1 : decide ((L.length : Int) ≤ 1) = true := by simp; omega
        go_wp2_with fail
        go_ret
        exact ⟨rfl, hx⟩
      · have e1 : ((bs P).toList == [47]) = false := by rw [bs_toList]; simpa using hr
        have HR := Lib.hid hr; clear hr
        have HSP : Hid (∃ o, o = pathL P) := Lib.hid ⟨_, rfl⟩
        refine (path_split _ _ (hE.ext hx)).mono ?_
        intro e w3 hsp
        rw [bs_data] at hsp
        obtain ⟨o, ho⟩ := HSP.out
        rw [← ho] at hsp
        have HO := Lib.hid ho; clear ho HSP
        have hsp2 : ∃ (a3 : Option Addr) (n3 c3 : Nat) (ok : Bool), e = .returned (.tuple #[.slice a3 n3 c3, .bool ok]) ∧ Ext w2 w3 ∧ ((o = none ∧ ok = false) ∨ (o.getD [] = o.getD [] ∧ ok = true ∧ ∃ M, o = some M ∧ n3 = M.length ∧ Strs w3 a3 M)) := by
          cases o with
          | none => exact ⟨none, 0, 0, false, hsp.1, hsp.2, Or.inl ⟨rfl, rfl⟩⟩
          | some M => obtain ⟨a3, c3, h1, _, h3, h4⟩ := hsp; exact ⟨a3, M.length, c3, true, h1, h4, Or.inr ⟨rfl, rfl, M, rfl, rfl, h3⟩⟩
        clear hsp
        obtain ⟨a3, n3, c3, ok, rfl, hx2, hor⟩ := hsp2
        have HOR := Lib.hid hor; clear hor
        have hx := hx.trans hx2
        have HS := Lib.hid (HS.out.ext hx2)
        clear hx2
        go_wp2_with fail
        go_loop [68] (fun i => ∃ k : Nat, k ≤ L.length ∧ i = .int .i64 k ∧ Hid (∀ p ∈ L.take k, (47 : UInt8) ∉ p)) (fun i => L.length - (intOf i).toNat)
        case atStart => exact ⟨0, Nat.zero_le _, rfl, Lib.hid (by simp)⟩
        case round =>
          obtain ⟨k, hk, rfl, h47⟩ := hrel
          by_cases hlt : k < L.length
          · obtain ⟨g, off, ha, -, hcl⟩ := HS.out.at (by intro e; rw [e] at hlt; simp at hlt)
            subst ha
            have hcell := hcl k hlt
            clear hcl
            obtain ⟨p, hp⟩ : ∃ p, p = L.getD k [] := ⟨_, rfl⟩
            rw [← hp] at hcell
            have hps : (bs p).size ≤ 168 := by
              rw [bs_size]
              have hm : p ∈ L := by rw [hp]; simp [hlt]
              have := mem_glue hm; omega
            have HPP := Lib.hid hp; clear hp
            go_wp2_with fail
            go_loop [74] (fun i => ∃ j : Nat, j ≤ (bs p).size ∧ i = .int .i64 j ∧ Hid ((47 : UInt8) ∉ p.take j)) (fun i => (bs p).size - (intOf i).toNat)
            case atStart => exact ⟨0, Nat.zero_le _, rfl, Lib.hid (by simp)⟩
            case round =>
              obtain ⟨j, hj, rfl, hno⟩ := hrel
              by_cases hjl : j < (bs p).size
              · cases hb : ((((bs p)[j]'hjl).toNat : Int) == 47) with
                | true =>
                  go_wp2_with fail
                  go_ret
                  exact ⟨rfl, hx⟩
                | false =>
                  have HB := Lib.hid (no47_step hjl hno.out hb)
                  go_wp2_with fail
                  go_round
                  case rel => exact ⟨j + 1, by omega, by go_num, HB⟩
                  case measure => simp [intOf]; omega
              · go_wp2_with fail
                go_round
                case rel => exact ⟨k + 1, by omega, by go_num, Lib.hid (by
                  have h1 := hno.out
                  rw [List.take_of_length_le (by rw [bs_size] at hjl; omega)] at h1
                  intro q hq
                  rw [List.take_succ_eq_append_getElem hlt, List.mem_append] at hq
                  rcases hq with hq | hq
                  · exact h47.out q hq
                  · have e2 : q = p := by rw [HPP.out]; simp at hq; simp [hlt, hq]
                    rw [e2]; exact h1)⟩
                case measure => simp [intOf]; omega
          · have HALL : Hid (∀ p ∈ L, (47 : UInt8) ∉ p) := Lib.hid (by
              have h := h47.out
              rw [List.take_of_length_le (by omega)] at h
              exact h)
            have HF := Lib.hid (HPJ.out HR.out HALL.out)
            clear h47
            rcases HOR.out with ⟨h1, h2⟩ | ⟨-, h2, M, h3, h4, hq5⟩
            · have HNO : Hid (¬ (joinOk L = true ∧ (glue 47 L).length ≤ 40)) := Lib.hid (by
                have h := HF.out
                rw [← HO.out, h1] at h
                intro hh
                rw [if_pos (by simp [hh.1, hh.2])] at h
                cases h)
              have HRT2 : Hid (rightL (bs P).data.toList = false) := Lib.hid (by rw [bs_data]; exact rightL_none (by rw [← HO.out, h1]))
              clear h1
              subst h2
              cases rb with
              | true =>
                have hn40 : 40 < nn := by
                  have h6 := HNO.out
                  have h7 := HRel.out
                  have h8 : joinOk L = true := by unfold joinOk; rw [HR0.out]; exact h7.1.symm
                  have h9 : ¬ (glue 47 L).length ≤ 40 := fun e => h6 ⟨h8, e⟩
                  omega
                go_wp2_with fail
                all_goals first | (exfalso; omega) | skip
                refine (right_eq _ (hE.ext hx) HRT2.out).mono ?_
                rintro e w4 ⟨rfl, hx2⟩
                have hx := hx.trans hx2; clear hx2
                go_wp2_with fail
                go_ret
                exact ⟨rfl, hx⟩
              | false =>
                go_wp2_with fail
                refine (right_eq _ (hE.ext hx) HRT2.out).mono ?_
                rintro e w4 ⟨rfl, hx2⟩
                have hx := hx.trans hx2; clear hx2
                go_wp2_with fail
                go_ret
                exact ⟨rfl, hx⟩
            · have HYES : Hid (joinOk L = true ∧ (glue 47 L).length ≤ 40 ∧ M = L) := Lib.hid (by
                have h := HF.out
                rw [← HO.out, h3] at h
                split at h
                · rename_i h6
                  simp only [Bool.and_eq_true, decide_eq_true_eq] at h6
                  exact ⟨h6.1, h6.2, Option.some.inj h⟩
                · cases h)
              have HRT2 : Hid (rightL (bs P).data.toList = true) := Lib.hid (by
                have e3 : pathL P = some L := by rw [← HO.out, h3, HYES.out.2.2]
                rw [bs_data, rightL_some e3]; simp; omega)
              have hML := HYES.out.2.2
              subst hML
              have hrb : rb = true := by
                have h7 := HRel.out.1
                have h8 := HYES.out.1
                unfold joinOk at h8
                rw [HR0.out] at h8
                rw [h7]; exact h8
              have hn40 : nn ≤ 40 := by
                have h7 := HRel.out.2
                have h8 := HYES.out.2.1
                omega
              clear h3
              subst h2 h4 hrb
              have H5 := Lib.hid hq5; clear hq5
              go_wp2_with fail
              all_goals first | (exfalso; omega) | skip
              refine (same_self _ _ _ H5.out HS.out (by omega)).mono ?_
              rintro e w4 ⟨rfl, rfl⟩
              go_wp2_with fail
              refine (right_eq _ (hE.ext hx) HRT2.out).mono ?_
              rintro e w5 ⟨rfl, hx2⟩
              have hx := hx.trans hx2; clear hx2
              go_wp2_with fail
              go_ret
              exact ⟨rfl, hx⟩

set_option maxHeartbeats 1600000 in
theorem pathJoins_many (a : Option Addr) (L : List (List UInt8)) (c : Nat) (w : World) (hE : Env w) (hc : L.length ≤ c) (hS : Strs w a L) (h8 : L.length ≤ 8) (h0 : 0 < L.length) (h5 : 5 < L.length) :
    Calls Tryd.prog 5 #[.slice a L.length c] w fun e w' => e = .returned (.bool true) ∧ Ext w w' := by
  have HS := Lib.hid hS; clear hS
  have HR0 : Hid ((decide (0 < L.length) && decide (L.length ≤ 5)) = false) := Lib.hid (by simp; omega)
  have hd5 : decide ((L.length : Int) ≤ 5) = false := by simp; omega
  go_enter Tryd.func5, Tryd.ntmps5
  go_wp2_with fail
  refine (alive05 _ hE).mono ?_
  rintro e w1 ⟨rfl, hx⟩
  have HS := Lib.hid (HS.out.ext hx)
  go_wp2_with fail
  go_loopw [3, 4, 28] (fun r n i wr => ∃ (k : Nat) (rb : Bool) (nn : Int), k ≤ L.length ∧ i = .int .i64 k ∧ r = .bool rb ∧ n = .int .i64 nn ∧ 0 ≤ nn ∧ nn ≤ 168 ∧ Hid (JoinRel L false k rb nn) ∧ Ext w1 wr) (fun _ _ i _ => L.length - (intOf i).toNat)
  case atStart => exact ⟨0, false, 0, Nat.zero_le _, rfl, rfl, rfl, by omega, by omega, Lib.hid (joinRel_start L false), Ext.refl _⟩
  case round =>
    obtain ⟨k, rb, nn, hk, rfl, rfl, rfl, hn0, hn1, hrel, hext⟩ := hrel
    by_cases hlt : k < L.length
    · obtain ⟨g, off, ha, -, hcl⟩ := HS.out.at (by intro e; rw [e] at hlt; simp at hlt)
      subst ha
      have hcell := hext.cell (hcl k hlt)
      clear hcl
      obtain ⟨p, hp⟩ : ∃ p, p = L.getD k [] := ⟨_, rfl⟩
      rw [← hp] at hcell
      have HP := Lib.hid hp; clear hp
      by_cases h20 : (bs p).size ≤ 20
      · have hpl : p.length ≤ 20 := by rw [bs_size] at h20; exact h20
        have hpe : ((bs p).size : Int) = (p.length : Int) := by rw [bs_size]
        have HRel := joinRel_step hlt hrel.out (by rw [← HP.out]; exact hpl)
        rw [← HP.out, ← hpe] at HRel
        have hn2 : nn + (1 + ((bs p).size : Int)) ≤ 168 := by
          have := HRel.2.2; have := HRel.2.1; omega
        have HPE := Lib.hid hpe; clear hpe
        obtain ⟨b, hb⟩ : ∃ b, nameL p = b := ⟨_, rfl⟩
        rw [hb] at HRel
        have HB := Lib.hid hb; clear hb
        have HN : Hid (∀ W, Calls Tryd.prog 19 #[.string (bs p)] W fun e w' => e = .returned (.bool b) ∧ Ext W w') := Lib.hid (fun W => name_eq W (by rw [bs_data]; exact HB.out))
        have HRel := Lib.hid HRel
        clear hrel
        cases rb with
        | true =>
          go_wp2_with (go_at_call 19; refine (HN.out _).mono ?_; rintro e w2 ⟨rfl, hx2⟩)
          go_roundw
          case rel => exact ⟨k + 1, b, nn + (1 + ((bs p).size : Int)), by omega, by go_num, rfl, rfl, by omega, hn2, Lib.hid (by have := HRel.out; simpa using this), hext.trans hx2⟩
          case measure => simp [intOf]; omega
        | false =>
          go_wp2_with fail
          go_roundw
          case rel => exact ⟨k + 1, false, nn + (1 + ((bs p).size : Int)), by omega, by go_num, rfl, rfl, by omega, hn2, Lib.hid (by have := HRel.out; simpa using this), hext⟩
          case measure => simp [intOf]; omega
      · have h21 : 20 < (bs p).size := by omega
        clear h20
        go_wp2_with fail
        go_ret
        exact ⟨rfl, hx.trans hext⟩
    · have hkk : k = L.length := by omega
      have HRel : Hid (rb = (false && L.all nameL) ∧ nn = ((glue 47 L).length : Int)) := Lib.hid (by
        have h := hrel.out
        unfold JoinRel at h
        rw [hkk, List.take_length] at h
        exact ⟨h.1, h.2.1⟩)
      have hg168 : (glue 47 L).length ≤ 168 := by have := HRel.out.2; omega
      clear hrel hk hkk
      have HS := Lib.hid (HS.out.ext hext)
      have hx := hx.trans hext
      clear hext
      go_wp2_with fail
      have hjl : (joinP L).length ≤ 140737488355328 := by have := joinP_len L; omega
      refine (path_join a L c _ HS.out hc (by omega) hjl).mono ?_
      rintro e w2 ⟨rfl, hx2⟩
      have hx := hx.trans hx2
      have HS := Lib.hid (HS.out.ext hx2)
      clear hx2 hjl
      have HPJ : Hid (joinP L ≠ [47] → (∀ p ∈ L, (47 : UInt8) ∉ p) → pathL (joinP L) = if (joinOk L && decide ((glue 47 L).length ≤ 40)) = true then some L else none) := Lib.hid (fun h1 h2 => pathL_join h1 h2)
      have HRT : Hid (joinP L = [47] → L.length ≤ 1) := Lib.hid joinP_root
      obtain ⟨P, hP⟩ : ∃ P, P = joinP L := ⟨_, rfl⟩
      rw [← hP] at HPJ HRT ⊢
      have HP := Lib.hid hP; clear hP
      go_wp2_with fail
      by_cases hr : P = [47]
      · have e1 : ((bs P).toList == [47]) = true := by rw [bs_toList, hr]; rfl
        have hl1 : L.length ≤ 1 := HRT.out hr
        have HR := Lib.hid hr; clear hr
        refine (split_some _ (hE.ext hx) (L := []) (by rw [bs_data, HR.out]; exact pathL_root)).mono ?_
        rintro e w3 ⟨a3, c3, rfl, -, -, hx2⟩
        have hx := hx.trans hx2; clear hx2
        have hd1 : decide ((L.length : Int) ≤ 1) = true := by simp; omega
        go_wp2_with fail
        go_ret
        exact ⟨rfl, hx⟩
      · have e1 : ((bs P).toList == [47]) = false := by rw [bs_toList]; simpa using hr
        have HR := Lib.hid hr; clear hr
        have HSP : Hid (∃ o, o = pathL P) := Lib.hid ⟨_, rfl⟩
        refine (path_split _ _ (hE.ext hx)).mono ?_
        intro e w3 hsp
        rw [bs_data] at hsp
        obtain ⟨o, ho⟩ := HSP.out
        rw [← ho] at hsp
        have HO := Lib.hid ho; clear ho HSP
        have hsp2 : ∃ (a3 : Option Addr) (n3 c3 : Nat) (ok : Bool), e = .returned (.tuple #[.slice a3 n3 c3, .bool ok]) ∧ Ext w2 w3 ∧ ((o = none ∧ ok = false) ∨ (o.getD [] = o.getD [] ∧ ok = true ∧ ∃ M, o = some M ∧ n3 = M.length ∧ Strs w3 a3 M)) := by
          cases o with
          | none => exact ⟨none, 0, 0, false, hsp.1, hsp.2, Or.inl ⟨rfl, rfl⟩⟩
          | some M => obtain ⟨a3, c3, h1, _, h3, h4⟩ := hsp; exact ⟨a3, M.length, c3, true, h1, h4, Or.inr ⟨rfl, rfl, M, rfl, rfl, h3⟩⟩
        clear hsp
        obtain ⟨a3, n3, c3, ok, rfl, hx2, hor⟩ := hsp2
        have HOR := Lib.hid hor; clear hor
        have hx := hx.trans hx2
        have HS := Lib.hid (HS.out.ext hx2)
        clear hx2
        go_wp2_with fail
        go_loop [68] (fun i => ∃ k : Nat, k ≤ L.length ∧ i = .int .i64 k ∧ Hid (∀ p ∈ L.take k, (47 : UInt8) ∉ p)) (fun i => L.length - (intOf i).toNat)
        case atStart => exact ⟨0, Nat.zero_le _, rfl, Lib.hid (by simp)⟩
        case round =>
          obtain ⟨k, hk, rfl, h47⟩ := hrel
          by_cases hlt : k < L.length
          · obtain ⟨g, off, ha, -, hcl⟩ := HS.out.at (by intro e; rw [e] at hlt; simp at hlt)
            subst ha
            have hcell := hcl k hlt
            clear hcl
            obtain ⟨p, hp⟩ : ∃ p, p = L.getD k [] := ⟨_, rfl⟩
            rw [← hp] at hcell
            have hps : (bs p).size ≤ 168 := by
              rw [bs_size]
              have hm : p ∈ L := by rw [hp]; simp [hlt]
              have := mem_glue hm; omega
            have HPP := Lib.hid hp; clear hp
            go_wp2_with fail
            go_loop [74] (fun i => ∃ j : Nat, j ≤ (bs p).size ∧ i = .int .i64 j ∧ Hid ((47 : UInt8) ∉ p.take j)) (fun i => (bs p).size - (intOf i).toNat)
            case atStart => exact ⟨0, Nat.zero_le _, rfl, Lib.hid (by simp)⟩
            case round =>
              obtain ⟨j, hj, rfl, hno⟩ := hrel
              by_cases hjl : j < (bs p).size
              · cases hb : ((((bs p)[j]'hjl).toNat : Int) == 47) with
                | true =>
                  go_wp2_with fail
                  go_ret
                  exact ⟨rfl, hx⟩
                | false =>
                  have HB := Lib.hid (no47_step hjl hno.out hb)
                  go_wp2_with fail
                  go_round
                  case rel => exact ⟨j + 1, by omega, by go_num, HB⟩
                  case measure => simp [intOf]; omega
              · go_wp2_with fail
                go_round
                case rel => exact ⟨k + 1, by omega, by go_num, Lib.hid (by
                  have h1 := hno.out
                  rw [List.take_of_length_le (by rw [bs_size] at hjl; omega)] at h1
                  intro q hq
                  rw [List.take_succ_eq_append_getElem hlt, List.mem_append] at hq
                  rcases hq with hq | hq
                  · exact h47.out q hq
                  · have e2 : q = p := by rw [HPP.out]; simp at hq; simp [hlt, hq]
                    rw [e2]; exact h1)⟩
                case measure => simp [intOf]; omega
          · have HALL : Hid (∀ p ∈ L, (47 : UInt8) ∉ p) := Lib.hid (by
              have h := h47.out
              rw [List.take_of_length_le (by omega)] at h
              exact h)
            have HF := Lib.hid (HPJ.out HR.out HALL.out)
            clear h47
            rcases HOR.out with ⟨h1, h2⟩ | ⟨-, h2, M, h3, h4, hq5⟩
            · have HNO : Hid (¬ (joinOk L = true ∧ (glue 47 L).length ≤ 40)) := Lib.hid (by
                have h := HF.out
                rw [← HO.out, h1] at h
                intro hh
                rw [if_pos (by simp [hh.1, hh.2])] at h
                cases h)
              have HRT2 : Hid (rightL (bs P).data.toList = false) := Lib.hid (by rw [bs_data]; exact rightL_none (by rw [← HO.out, h1]))
              clear h1
              subst h2
              cases rb with
              | true =>
                have hn40 : 40 < nn := by
                  have h6 := HNO.out
                  have h7 := HRel.out
                  have h8 : joinOk L = true := by unfold joinOk; rw [HR0.out]; exact h7.1.symm
                  have h9 : ¬ (glue 47 L).length ≤ 40 := fun e => h6 ⟨h8, e⟩
                  omega
                go_wp2_with fail
                all_goals first | (exfalso; omega) | skip
                refine (right_eq _ (hE.ext hx) HRT2.out).mono ?_
                rintro e w4 ⟨rfl, hx2⟩
                have hx := hx.trans hx2; clear hx2
                go_wp2_with fail
                go_ret
                exact ⟨rfl, hx⟩
              | false =>
                go_wp2_with fail
                refine (right_eq _ (hE.ext hx) HRT2.out).mono ?_
                rintro e w4 ⟨rfl, hx2⟩
                have hx := hx.trans hx2; clear hx2
                go_wp2_with fail
                go_ret
                exact ⟨rfl, hx⟩
            · have HYES : Hid (joinOk L = true ∧ (glue 47 L).length ≤ 40 ∧ M = L) := Lib.hid (by
                have h := HF.out
                rw [← HO.out, h3] at h
                split at h
                · rename_i h6
                  simp only [Bool.and_eq_true, decide_eq_true_eq] at h6
                  exact ⟨h6.1, h6.2, Option.some.inj h⟩
                · cases h)
              have HRT2 : Hid (rightL (bs P).data.toList = true) := Lib.hid (by
                have e3 : pathL P = some L := by rw [← HO.out, h3, HYES.out.2.2]
                rw [bs_data, rightL_some e3]; simp; omega)
              have hML := HYES.out.2.2
              subst hML
              have hrb : rb = true := by
                have h7 := HRel.out.1
                have h8 := HYES.out.1
                unfold joinOk at h8
                rw [HR0.out] at h8
                rw [h7]; exact h8
              have hn40 : nn ≤ 40 := by
                have h7 := HRel.out.2
                have h8 := HYES.out.2.1
                omega
              clear h3
              subst h2 h4 hrb
              have H5 := Lib.hid hq5; clear hq5
              go_wp2_with fail
              all_goals first | (exfalso; omega) | skip
              refine (same_self _ _ _ H5.out HS.out (by omega)).mono ?_
              rintro e w4 ⟨rfl, rfl⟩
              go_wp2_with fail
              refine (right_eq _ (hE.ext hx) HRT2.out).mono ?_
              rintro e w5 ⟨rfl, hx2⟩
              have hx := hx.trans hx2; clear hx2
              go_wp2_with fail
              go_ret
              exact ⟨rfl, hx⟩

theorem pathJoins_long (a : Option Addr) (L : List (List UInt8)) (c : Nat) (w : World) (hE : Env w) (h8 : 8 < L.length) :
    Calls Tryd.prog 5 #[.slice a L.length c] w fun e w' => e = .returned (.bool true) ∧ Ext w w' := by
  go_enter Tryd.func5, Tryd.ntmps5
  go_wp2_with fail
  refine (alive05 _ hE).mono ?_
  rintro e w1 ⟨rfl, hx⟩
  go_wp2_with fail
  go_ret
  exact ⟨rfl, hx⟩
theorem pathJoins_none (a : Option Addr) (c : Nat) (w : World) (hE : Env w) :
    Calls Tryd.prog 5 #[.slice a 0 c] w fun e w' => e = .returned (.bool true) ∧ Ext w w' := by
  go_enter Tryd.func5, Tryd.ntmps5
  go_wp2_with fail
  refine (alive05 _ hE).mono ?_
  rintro e w1 ⟨rfl, hx⟩
  go_wp2_with fail
  refine wp_loop_rounds 1 ?_; rw [rounds_succ]
  go_wp2_with fail
  refine (path_join a [] c _ (Strs.nil _ _) (Nat.zero_le _) (by simp) (by decide)).mono ?_
  rintro e w2 ⟨rfl, hx2⟩
  have hx := hx.trans hx2; clear hx2
  have e1 : ((bs (joinP [])).toList == [47]) = true := by rw [bs_toList]; rfl
  go_wp2_with fail
  refine (split_some _ (hE.ext hx) (L := []) (by rw [bs_data]; exact pathL_root)).mono ?_
  rintro e w3 ⟨a3, c3, rfl, -, -, hx2⟩
  have hx := hx.trans hx2; clear hx2
  go_wp2_with fail
  go_ret
  exact ⟨rfl, hx⟩
/-- The statement's function answers true, whatever the names. -/
theorem pathJoins_true (a : Option Addr) (L : List (List UInt8)) (c : Nat) (w : World) (hE : Env w) (hc : L.length ≤ c) (hS : Strs w a L) :
    Calls Tryd.prog 5 #[.slice a L.length c] w fun e w' => e = .returned (.bool true) ∧ Ext w w' := by
  by_cases h0 : 0 < L.length
  · by_cases h8 : L.length ≤ 8
    · by_cases h5 : L.length ≤ 5
      · exact pathJoins_few a L c w hE hc hS h8 h0 h5
      · exact pathJoins_many a L c w hE hc hS h8 h0 (by omega)
    · exact pathJoins_long a L c w hE (by omega)
  · have : L = [] := List.eq_nil_of_length_eq_zero (by omega)
    subst this
    exact pathJoins_none a c w hE
end Go.Proofs.YtedfpoidggpkdaaDoor
