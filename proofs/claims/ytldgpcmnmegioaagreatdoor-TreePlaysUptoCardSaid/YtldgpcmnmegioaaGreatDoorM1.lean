/- Several texts of mine, one behind the other: ConvText, Ref05, Ref05Split, Law05. -/
import Derived.Test.YtldgpcmnmegioaaGreatDoorM3
import Derived.WalkSpells
import Derived.WalkLawsBesides
namespace Go.Proofs.YtldgpcmnmegioaaGreatDoor
open Go.RowKit
theorem addr_add (g off n : Nat) : (⟨g, off, none⟩ : Addr).add n = ⟨g, off + n, none⟩ := by
  unfold Addr.add; split
  · rename_i h0; subst h0; rfl
  · rfl
theorem conv_text {w : World} {a : Option Addr} {p : List UInt8} {c : Nat} (hb : Bytes w a p) :
    (convert 36 9 (.slice a p.length c)).run Tryz.prog w = .ok (.string (bs p)) w := by
  cases a with
  | none =>
    have hp : p = [] := by
      rcases hb with hb | ⟨g, off, ha, _⟩
      · exact hb
      · cases ha
    subst hp
    exact run_convert_bytes_nil w 36 5 Tryz.underlying36 Tryz.underlying5 0 c _ Tryz.underlying9
  | some ad =>
    refine run_convert_bytes_back w _ _ 5 ad c p Tryz.underlying36 Tryz.underlying5 Tryz.underlying9 ?_
    intro j hj
    rcases hb with hb | ⟨g, off, ha, _, hc⟩
    · subst hb; simp at hj
    · have ha := Option.some.inj ha
      subst ha
      have e : (⟨g, off, none⟩ : Addr).add j = ⟨g, off + j, none⟩ := by
        unfold Addr.add; split
        · rename_i h0; subst h0; rfl
        · rfl
      rw [e, hc j hj]
      simp [byteAt, hj]
end Go.Proofs.YtldgpcmnmegioaaGreatDoor
namespace Go.Proofs.YtldgpcmnmegioaaGreatDoor
open Go.RowKit
theorem byte_sign (s : ByteArray) (k : Nat) (h : k < s.size) (hs : signB ((s[k]'h).toNat : Int) = false) : nameL s.data.toList = false := by
  have : signs s.data.toList = false := by
    rw [split_at s k h, signs_append, signs_cons, hs]; simp
  simp [nameL, this]
theorem okTo_byte (s : ByteArray) (k : Nat) (h : k < s.size) (ho : okTo s k) (hs : signB ((s[k]'h).toNat : Int) = true) : okTo s (k + 1) := by
  refine ⟨by omega, ?_⟩
  rw [take_snoc s k h, signs_append, ho.2, signs_cons, hs]; simp [signs]
theorem nameL_short (s : ByteArray) (h : s.size < 1) : nameL s.data.toList = false := by
  have : ¬ 1 ≤ s.size := by omega
  simp [nameL, this]
theorem ref_name (s : ByteArray) (w : World) :
    Calls Tryz.prog 68 #[.string s] w fun e w' => e = .returned (.bool (nameL s.data.toList)) ∧ w = w' := by
  go_enter Tryz.func68, Tryz.ntmps68
  go_wp2_with fail
  · go_ret; exact ⟨ret_bool (nameL_short s (by omega)).symm, rfl⟩
  · go_ret; exact ⟨ret_bool (nameL_long s (by omega)).symm, rfl⟩
  · go_ret; exact ⟨ret_bool (nameL_dot s ‹_›).symm, rfl⟩
  · go_ret; exact ⟨ret_bool (nameL_dots s ‹_›).symm, rfl⟩
  · have H3 := Lib.hid ‹¬s.toList = [46]›
    have H4 := Lib.hid ‹(s.toList == [46, 46]) = false›
    have h1 : 1 ≤ s.size := by omega
    have h2 : s.size ≤ 12 := by omega
    go_loop [3] (fun i => ∃ k : Nat, k ≤ s.size ∧ i = .int .i64 k ∧ Hid (okTo s k)) (fun i => s.size - (intOf i).toNat)
    case atStart => exact ⟨0, Nat.zero_le _, rfl, Lib.hid (okTo_zero s)⟩
    case round =>
      obtain ⟨k, hk, rfl, ho⟩ := hrel
      by_cases hlt : k < s.size
      · have h95 : (((s[k]'hlt).toNat : Int) == 95) = true ∧ ((s[k]'hlt).toNat : Int) ≤ 95 ∧ 95 ≤ ((s[k]'hlt).toNat : Int) ∨ (((s[k]'hlt).toNat : Int) == 95) = false ∧ (((s[k]'hlt).toNat : Int) < 95 ∨ 95 < ((s[k]'hlt).toNat : Int)) := by
          by_cases h : ((s[k]'hlt).toNat : Int) = 95
          · exact Or.inl ⟨by simpa using h, by omega, by omega⟩
          · exact Or.inr ⟨by simpa using h, by omega⟩
        rcases h95 with ⟨hb, hc1, hc2⟩ | ⟨hb, hc⟩
        all_goals go_wp2
        all_goals first
          | (go_ret; exact ⟨ret_bool (byte_sign s k hlt (signB_f (by omega))).symm, rfl⟩)
          | (go_round
             case rel => exact ⟨k + 1, by omega, by go_num, Lib.hid (okTo_byte s k hlt ho.out (signB_t (by omega)))⟩
             case measure => simp [intOf]; omega)
      · go_wp2
        go_ret
        exact ⟨ret_bool (nameL_good s k hlt ho.out h1 h2 H3.out (by simpa using H4.out)).symm, rfl⟩

end Go.Proofs.YtldgpcmnmegioaaGreatDoor
namespace Go.Proofs.YtldgpcmnmegioaaGreatDoor
open Go.RowKit
def SplitInv (l : List UInt8) (D : List (List UInt8)) (fr k : Nat) : Prop :=
  D.length ≤ k ∧ (k ≤ l.length ∧ 1 ≤ fr ∧ fr ≤ k ∧ D ++ splitOn 47 (l.drop fr) = splitOn 47 l.tail ∧ 47 ∉ (l.drop fr).take (k - fr) ∨ k = l.length + 1 ∧ D = splitOn 47 l.tail)
theorem splitInv_start (l : List UInt8) (h : 1 ≤ l.length) : SplitInv l [] 1 1 :=
  ⟨by simp, Or.inl ⟨h, Nat.le_refl _, Nat.le_refl _, by simp, by simp⟩⟩
theorem drop_parts (l : List UInt8) (fr k : Nat) (h1 : fr ≤ k) (h2 : k < l.length) : l.drop fr = (l.drop fr).take (k - fr) ++ l[k] :: l.drop (k + 1) := by
  have h3 : k - fr < (l.drop fr).length := by simp; omega
  conv => lhs; rw [← List.take_append_drop (k - fr) (l.drop fr)]
  rw [List.drop_eq_getElem_cons h3, List.drop_drop, List.getElem_drop]
  have e1 : fr + (k - fr) = k := by omega
  have e2 : fr + (k - fr + 1) = k + 1 := by omega
  rw [e2]; congr 2; simp [e1]
theorem splitInv_hit {l : List UInt8} {D} {fr k : Nat} (h : SplitInv l D fr k) (hk : k < l.length) (hc : l[k] = 47) : SplitInv l (D ++ [(l.drop fr).take (k - fr)]) (k + 1) (k + 1) := by
  obtain ⟨h0, h | h⟩ := h
  · obtain ⟨h1, h2, h3, h4, h5⟩ := h
    refine ⟨by simp; omega, Or.inl ⟨by omega, by omega, Nat.le_refl _, ?_, by simp⟩⟩
    rw [drop_parts l fr k h3 hk, hc, splitOn_append 47 _ _ h5] at h4
    rw [List.append_assoc]; exact h4
  · omega
theorem splitInv_miss {l : List UInt8} {D} {fr k : Nat} (h : SplitInv l D fr k) (hk : k < l.length) (hc : l[k] ≠ 47) : SplitInv l D fr (k + 1) := by
  obtain ⟨h0, h | h⟩ := h
  · obtain ⟨h1, h2, h3, h4, h5⟩ := h
    refine ⟨by omega, Or.inl ⟨by omega, h2, by omega, h4, ?_⟩⟩
    have h6 : k - fr < (l.drop fr).length := by simp; omega
    rw [show k + 1 - fr = (k - fr) + 1 by omega, List.take_succ_eq_append_getElem h6, List.mem_append]
    rintro (h | h)
    · exact h5 h
    · simp at h
      have e1 : fr + (k - fr) = k := by omega
      simp only [e1] at h
      exact hc h.symm
  · omega
theorem splitInv_end {l : List UInt8} {D} {fr k : Nat} (h : SplitInv l D fr k) (hk : k = l.length) : SplitInv l (D ++ [(l.drop fr).take (k - fr)]) (k + 1) (k + 1) := by
  obtain ⟨h0, h | h⟩ := h
  · obtain ⟨h1, h2, h3, h4, h5⟩ := h
    refine ⟨by simp; omega, Or.inr ⟨by omega, ?_⟩⟩
    have e : (l.drop fr).take (k - fr) = l.drop fr := List.take_of_length_le (by simp; omega)
    rw [e] at h5 ⊢
    rw [splitOn_none 47 _ h5] at h4
    exact h4
  · omega
theorem splitInv_out {l : List UInt8} {D} {fr k : Nat} (h : SplitInv l D fr k) (hk : ¬ k ≤ l.length) : D = splitOn 47 l.tail := by
  obtain ⟨h0, h | h⟩ := h
  · omega
  · exact h.2
theorem head_of (s : ByteArray) (h : 0 < s.size) : s.data.toList.head? = some s[0] := by
  have := split_at s 0 h
  rw [this]; simp

set_option maxHeartbeats 1600000 in
theorem ref_split_main (s : ByteArray) (w : World) (h0 : 0 < s.size) (hb : (((s[0]'h0).toNat : Int) != 47) = false) (hr : (s.toList == [47]) = false) (h40 : s.size ≤ 40) :
    Calls Tryz.prog 55 #[.string s] w (SplitR (pathL s.data.toList) w) := by
  have hn := Lib.hid (toList_not hr)
  have HH : Hid (s.data.toList.head? = some 47) := Lib.hid (by
    rw [head_of s h0]; simp at hb ⊢
    exact UInt8.toNat_inj.1 (by have := hb; simp; omega))
  obtain ⟨l, hl⟩ : ∃ l, l = s.data.toList := ⟨_, rfl⟩
  have hsl : l.length = s.size := by rw [hl, size_len]
  have HSL := Lib.hid hsl; clear hsl
  have HL := Lib.hid hl; clear hl
  have h1 : 1 ≤ s.size := h0
  go_enter Tryz.func55, Tryz.ntmps55
  go_wp2_with fail
  go_loopw [4, 5, 6] (fun v f i wr => ∃ (D : List (List UInt8)) (a : Option Addr) (cap fr k : Nat), v = .slice a D.length cap ∧ f = .int .i64 fr ∧ i = .int .i64 k ∧ k ≤ s.size + 1 ∧ Hid (SplitInv l D fr k) ∧ Hid (OwnS wr w.heap.size a cap D) ∧ Ext w wr) (fun _ _ i _ => s.size + 1 - (intOf i).toNat)
  case atStart =>
    refine ⟨[], some ⟨w.heap.size, 0, none⟩, 0, 1, 1, rfl, rfl, rfl, by omega, Lib.hid (splitInv_start l (by rw [HSL.out]; omega)), Lib.hid ?_, Ext.alloc _ _⟩
    exact World.ownsRow_made w #[] 0 (Nat.le_refl _) (by simp) rfl
  case round =>
    obtain ⟨D, a, cap, fr, k, rfl, rfl, rfl, hk, hinv, hown, hext⟩ := hrel
    have hDk := hinv.out.1
    have hsz := hext.size
    by_cases hk1 : k = s.size + 1
    · have hD : D = splitOn 47 s.data.toList.tail := by
        have := splitInv_out hinv.out (by rw [HSL.out]; omega)
        rw [this, HL.out]
      have HD := Lib.hid hD; clear hD
      have hk1' : s.size < k := by omega
      have hk41 : D.length ≤ 41 := by omega
      have hd1 : decide (k ≤ s.size) = false := by simp; omega
      clear hk1
      have HS := Lib.hid hown.out.strs
      clear hinv hown hDk hsz
      go_wp2_with fail
      go_loop [7] (fun i => ∃ j : Nat, j ≤ D.length ∧ i = .int .i64 j ∧ Hid ((D.take j).all nameL = true)) (fun i => D.length - (intOf i).toNat)
      case atStart => exact ⟨0, Nat.zero_le _, rfl, Lib.hid (by simp)⟩
      case round =>
        obtain ⟨j, hj, rfl, hall⟩ := hrel
        by_cases hlt : j < D.length
        · obtain ⟨g, off, ha, -, hc⟩ := HS.out.1.at (by intro e; rw [e] at hlt; simp at hlt)
          subst ha
          have hcell := hc j hlt
          clear hc
          obtain ⟨p, hp⟩ : ∃ p, p = D.getD j [] := ⟨_, rfl⟩
          rw [← hp] at hcell
          have HP := Lib.hid hp; clear hp
          cases hname : nameL p with
          | false =>
            have HN := Lib.hid hname; clear hname
            go_wp2_with (go_at_call 68; refine (ref_name _ _).mono ?_; rintro e w2 ⟨rfl, rfl⟩; rw [bs_data, HN.out])
            go_ret2
            rw [pathL_bad hn.out (by rw [← HD.out]; exact all_getD hlt (by rw [← HP.out]; exact HN.out))]; exact ⟨rfl, hext⟩
          | true =>
            have HN := Lib.hid hname; clear hname
            go_wp2_with (go_at_call 68; refine (ref_name _ _).mono ?_; rintro e w2 ⟨rfl, rfl⟩; rw [bs_data, HN.out])
            go_round
            case rel => exact ⟨j + 1, by omega, by go_num, Lib.hid (all_take_step hlt hall.out (by rw [← HP.out]; exact HN.out))⟩
            case measure => simp [intOf]; omega
        · have hkk : j = D.length := by omega
          by_cases h5 : 5 < D.length
          · go_wp2
            go_ret2
            rw [pathL_many hn.out (by rw [← HD.out]; exact h5)]; exact ⟨rfl, hext⟩
          · go_wp2
            go_ret2
            subst hkk
            have hall := hall.out
            rw [List.take_length] at hall
            rw [pathL_good hn.out (by rw [size_len]; omega) HH.out (by rw [← HD.out]; omega) (by rw [← HD.out]; exact hall), ← HD.out]
            exact ⟨_, _, rfl, HS.out.2, HS.out.1, hext⟩
    · have hk2 : k ≤ s.size := by omega
      have hfr : 1 ≤ fr ∧ fr ≤ k := by
        rcases hinv.out.2 with h | h
        · exact ⟨h.2.1, h.2.2.1⟩
        · have := HSL.out; omega
      obtain ⟨hfr1, hfr2⟩ := hfr
      obtain ⟨p, hp⟩ : ∃ p, p = (l.drop fr).take (k - fr) := ⟨_, rfl⟩
      have he : s.extract fr k = bs p := by rw [extract_bs, hp, HL.out]
      have HP := Lib.hid hp; clear hp
      by_cases hk3 : k = s.size
      · have hkb : ((k : Int) == (s.size : Int)) = true := by simp; omega
        have HK := Lib.hid hk3; clear hk3
        go_wp2_with (at_builtin; refine append_text rfl (.tmp 40) (.tmp 45) rfl w.heap.size a cap D p rfl hown.out rfl (by omega) hsz ?_; intro g cap' w2 hown2 hb2)
        go_roundw
        case rel =>
          have HI := splitInv_end hinv.out (by rw [HSL.out]; exact HK.out)
          rw [← HP.out] at HI
          exact ⟨D ++ [p], some ⟨g, 0, none⟩, cap', k + 1, k + 1, by simp, by go_num, by go_num, by omega, Lib.hid HI, Lib.hid hown2, Below.trans hext hb2⟩
        case measure => simp [intOf]; omega
      · have hkb : ((k : Int) == (s.size : Int)) = false := by simp; omega
        have hk4 : k < s.size := by omega
        have hk4' : k < l.length := by rw [HSL.out]; exact hk4
        have hlk : l[k] = s[k] := by
          have := HL.out
          subst this
          rfl
        by_cases hc : l[k] = 47
        · have hcb : (((s[k]'hk4).toNat : Int) == 47) = true := by rw [← hlk, hc]; rfl
          have HC := Lib.hid hc; clear hc
          have HLK := Lib.hid hlk; clear hlk
          go_wp2_with (at_builtin; refine append_text rfl (.tmp 40) (.tmp 45) rfl w.heap.size a cap D p rfl hown.out rfl (by omega) hsz ?_; intro g cap' w2 hown2 hb2)
          go_roundw
          case rel =>
            have HI := splitInv_hit hinv.out hk4' HC.out
            rw [← HP.out] at HI
            exact ⟨D ++ [p], some ⟨g, 0, none⟩, cap', k + 1, k + 1, by simp, by go_num, by go_num, by omega, Lib.hid HI, Lib.hid hown2, Below.trans hext hb2⟩
          case measure => simp [intOf]; omega
        · have hcb : (((s[k]'hk4).toNat : Int) == 47) = false := by
            rw [← hlk]
            have : l[k].toNat ≠ 47 := fun e => hc (UInt8.toNat_inj.1 (by rw [e]; rfl))
            simp; omega
          have HC := Lib.hid hc; clear hc
          have HLK := Lib.hid hlk; clear hlk
          go_wp2_with fail
          go_roundw
          case rel =>
            exact ⟨D, a, cap, fr, k + 1, rfl, rfl, by go_num, by omega, Lib.hid (splitInv_miss hinv.out hk4' HC.out), hown, hext⟩
          case measure => simp [intOf]; omega

theorem ref_split (s : ByteArray) (w : World) :
    Calls Tryz.prog 55 #[.string s] w (SplitR (pathL s.data.toList) w) := by
  by_cases h0 : 0 < s.size
  · cases hb : (((s[0]'h0).toNat : Int) != 47) with
    | false =>
      cases hr : (s.toList == [47]) with
      | false =>
        by_cases h40 : s.size ≤ 40
        · exact ref_split_main s w h0 hb hr h40
        · have hn := Lib.hid (toList_not hr)
          have h41 : 40 < s.size := by omega
          have h1 : 1 ≤ s.size := h0
          clear h40
          go_enter Tryz.func55, Tryz.ntmps55
          go_wp2_with fail
          any_goals (exfalso; omega)
          go_ret2; rw [pathL_long (by rw [size_len]; omega)]; exact ⟨rfl, Ext.refl _⟩
      | true =>
        go_enter Tryz.func55, Tryz.ntmps55
        go_wp2_with fail
        go_ret2; rw [toList_root hr, pathL_root]; exact ⟨none, 0, rfl, Nat.le_refl _, Strs.nil _ _, Ext.refl _⟩
    | true =>
      have hr : (s.toList == [47]) = false := by
        cases hr : (s.toList == [47]) with
        | false => rfl
        | true =>
          have e := toList_root hr
          have := head_of s h0
          rw [e] at this; simp at this
          rw [← this] at hb; simp at hb
      have hn := Lib.hid (toList_not hr)
      have h1 : 1 ≤ s.size := h0
      have hh : s.data.toList.head? ≠ some 47 := by
        rw [head_of s h0]; simp at hb ⊢
        intro e; apply hb; rw [e]; rfl
      have HH := Lib.hid hh; clear hh
      by_cases h40 : s.size ≤ 40
      · go_enter Tryz.func55, Tryz.ntmps55
        go_wp2_with fail
        any_goals (exfalso; omega)
        go_ret2; rw [pathL_head hn.out HH.out]; exact ⟨rfl, Ext.refl _⟩
      · have h41 : 40 < s.size := by omega
        clear h40
        go_enter Tryz.func55, Tryz.ntmps55
        go_wp2_with fail
        any_goals (exfalso; omega)
        go_ret2; rw [pathL_head hn.out HH.out]; exact ⟨rfl, Ext.refl _⟩
  · have hs : s.data.toList = [] := List.eq_nil_of_length_eq_zero (by rw [size_len]; omega)
    have hr : (s.toList == [47]) = false := by rw [ByteArray.toList_eq, hs]; rfl
    have HS := Lib.hid hs; clear hs
    have h1 : s.size < 1 := by omega
    go_enter Tryz.func55, Tryz.ntmps55
    go_wp2_with fail
    any_goals (exfalso; omega)
    go_ret2
    rw [pathL_head (by rw [HS.out]; simp) (by rw [HS.out]; simp)]; exact ⟨rfl, Ext.refl _⟩
end Go.Proofs.YtldgpcmnmegioaaGreatDoor
namespace Go.Proofs.YtldgpcmnmegioaaGreatDoor
open Go.RowKit
theorem glue_take_succ {L : List (List UInt8)} {k : Nat} (hk : k < L.length) : glue 47 (L.take (k + 1)) = glue 47 (L.take k) ++ 47 :: L.getD k [] := by
  rw [List.take_succ_eq_append_getElem hk, glue_append]
  simp [glue, hk]
theorem str_three (t p : List UInt8) : Value.string (bs t ++ { data := #[47] } ++ bs p) = Value.string (bs (t ++ 47 :: p)) := by
  have h : (bs t ++ { data := #[47] } ++ bs p) = bs t ++ bs [47] ++ bs p := rfl
  rw [h, bs_append, bs_append]; simp
theorem ref_join (a : Option Addr) (L : List (List UInt8)) (c : Nat) (w : World) (hS : Strs w a L) (hN : L.length ≤ 1099511627776) (hlen : (glue 47 L).length ≤ 1099511627776) :
    Calls Tryz.prog 56 #[.slice a L.length c] w fun e w' => e = .returned (.string (bs (joinP L))) ∧ w = w' := by
  have HS := Lib.hid hS; clear hS
  go_enter Tryz.func56, Tryz.ntmps56
  go_wp2_with fail
  go_loop [3, 4] (fun v i => ∃ k : Nat, k ≤ L.length ∧ i = .int .i64 k ∧ v = .string (bs (glue 47 (L.take k)))) (fun _ i => L.length - (intOf i).toNat)
  case atStart => exact ⟨0, Nat.zero_le _, rfl, rfl⟩
  case round =>
    obtain ⟨k, hk, rfl, rfl⟩ := hrel
    by_cases hlt : k < L.length
    · obtain ⟨g, off, ha, -, hc⟩ := HS.out.at (by intro e; rw [e] at hlt; simp at hlt)
      subst ha
      have hcell := hc k hlt
      clear hc
      obtain ⟨p, hp⟩ : ∃ p, p = L.getD k [] := ⟨_, rfl⟩
      rw [← hp] at hcell
      have hg : (glue 47 (L.take (k + 1))).length ≤ 1099511627776 := Nat.le_trans (glue_take_len _ _ _) hlen
      rw [glue_take_succ hlt, ← hp] at hg
      have HG := Lib.hid (glue_take_succ hlt); 
      rw [← hp] at HG
      have HP := Lib.hid hp; clear hp
      obtain ⟨t, ht⟩ : ∃ t, t = glue 47 (L.take k) := ⟨_, rfl⟩
      rw [← ht] at hg HG ⊢
      have HT := Lib.hid ht; clear ht
      have hz1 : (bs t).size ≤ 1099511627776 := by rw [bs_size]; simp at hg; omega
      have hz2 : (bs p).size ≤ 1099511627776 := by rw [bs_size]; simp at hg; omega
      clear hg
      go_wp2_with fail
      go_round
      case rel =>
        refine ⟨k + 1, by omega, by go_num, ?_⟩
        rw [HG.out, str_three]
      case measure => simp [intOf]; omega
    · have hkk : L.take k = L := List.take_of_length_le (by omega)
      rw [hkk]
      clear hkk
      obtain ⟨t, ht⟩ : ∃ t, t = glue 47 L := ⟨_, rfl⟩
      rw [← ht]
      have HT := Lib.hid ht; clear ht
      clear hlen
      by_cases hL : L = []
      · have he : (bs t).toList.isEmpty = true := by rw [bs_toList, HT.out, hL]; rfl
        have HL := Lib.hid hL; clear hL
        go_wp2_with fail
        go_ret
        exact ⟨ret_str (by rw [HL.out, joinP_nil]; exact eq_bs rfl), rfl⟩
      · have he : (bs t).toList.isEmpty = false := by
          rw [bs_toList, HT.out]
          cases L with
          | nil => exact absurd rfl hL
          | cons q r => rw [glue_cons]; rfl
        have HL := Lib.hid hL; clear hL
        go_wp2_with fail
        go_ret
        exact ⟨ret_str (by rw [HT.out, joinP, if_neg HL.out]), rfl⟩

theorem list_same {A B : List (List UInt8)} (h1 : A.length = B.length) (h : A.take A.length = B.take A.length) : A = B := by
  rw [List.take_length, h1, List.take_length] at h; exact h






















































end Go.Proofs.YtldgpcmnmegioaaGreatDoor
