/- ver.parse gives a version's numbers and its revision. -/
import Derived.Test.YtnclibfhbngkjaaGreatDoorVerNum
namespace Go.Proofs.YtnclibfhbngkjaaGreatDoor
open Go.RowKit
theorem Cells.of {w : World} {g off : Nat} {L : List (List UInt8)} (h : Strs w (some ⟨g, off, none⟩) L) : ∀ i, i < L.length → w.cell? ⟨g, off + i, none⟩ = some (.string (bs (L.getD i []))) := by
  intro i hi
  rcases h with h | ⟨g', off', ha, _, hc⟩
  · rw [h] at hi; simp at hi
  · have ha := Option.some.inj ha
    obtain ⟨rfl, rfl⟩ : g = g' ∧ off = off' := by constructor <;> (cases ha; rfl)
    exact hc i hi
theorem ver_cut (s : ByteArray) (hs : s.size ≤ 1000000) (w : World) (hE : EnvN w) {h t : List UInt8} {m : Bool} (hc : Lib.cut s.data.toList [45] = (h, t, m)) :
    Calls Tryz.prog 91 #[.string s, .string ⟨#[45]⟩] w fun e w' => e = .returned (.tuple #[.string (bs h), .string (bs t), .bool m]) ∧ Ext w w' := by
  refine (Tryz.strings_Cut_shaped s ⟨#[45]⟩ w hE.env.shaped (by omega)).mono ?_
  rintro e w' ⟨rfl, n, rfl⟩
  have e1 : Lib.cut s.data.toList (⟨#[45]⟩ : ByteArray).data.toList = (h, t, m) := hc
  rw [e1]
  exact ⟨rfl, (Ext.refl _).drewN n⟩
theorem ver_split (s : ByteArray) (hs : s.size ≤ 1000000) (w : World) (hE : EnvN w) :
    Calls Tryz.prog 93 #[.string s, .string ⟨#[46]⟩] w fun e w' => e = .returned (.slice (some ⟨w.heap.size, 0, none⟩) (splitOn 46 s.data.toList).length (splitOn 46 s.data.toList).length) ∧
      Strs w' (some ⟨w.heap.size, 0, none⟩) (splitOn 46 s.data.toList) ∧ Ext w w' := by
  have h := Tryz.strings_Split_shaped s (bs [46]) w hE.env.shaped (by omega) (by rw [bs_size]; simp)
  rw [splitB_on, countB_on] at h
  refine h.mono ?_
  rintro e w' ⟨rfl, rfl⟩
  exact ⟨rfl, Strs.made _ _ _, Ext.alloc _ _⟩
theorem cut_len {l h t : List UInt8} {m : Bool} (hc : Lib.cut l [45] = (h, t, m)) : h.length ≤ l.length ∧ t.length ≤ l.length := by
  by_cases hm : 45 ∈ l
  · obtain ⟨x, y, rfl, hx⟩ := split_mem hm
    rw [cut_some y hx] at hc
    simp only [Prod.mk.injEq] at hc
    obtain ⟨rfl, rfl, rfl⟩ := hc
    simp; omega
  · rw [cut_none hm] at hc
    simp only [Prod.mk.injEq] at hc
    obtain ⟨rfl, rfl, rfl⟩ := hc
    simp
theorem glue_len_ge (c : UInt8) (L : List (List UInt8)) : L.length ≤ (glue c L).length ∧ ∀ p ∈ L, p.length ≤ (glue c L).length := by
  induction L with
  | nil => simp [glue]
  | cons q L ih =>
    rw [glue_cons]
    refine ⟨by simp; omega, ?_⟩
    intro p hp
    rcases List.mem_cons.1 hp with rfl | hp
    · simp; omega
    · have := ih.2 p hp; simp; omega
theorem splitOn_len (c : UInt8) (l : List UInt8) : (splitOn c l).length ≤ l.length + 1 ∧ ∀ p ∈ splitOn c l, p.length ≤ l.length + 1 := by
  have h := glue_len_ge c (splitOn c l)
  rw [glue_splitOn] at h
  simpa using h
theorem getD_mem {L : List (List UInt8)} {i : Nat} (h : i < L.length) : L.getD i [] ∈ L := by
  rw [List.getD_eq_getElem?_getD, List.getElem?_eq_getElem h]; simp
theorem take_snocV {L : List (List UInt8)} {k : Nat} (h : k < L.length) : L.take (k + 1) = L.take k ++ [L.getD k []] := by
  rw [List.take_succ_eq_append_getElem h]
  simp [List.getD_eq_getElem?_getD, List.getElem?_eq_getElem h]
/-- What a version's reader gives. -/
def ParseR (o : Option (List Nat × Nat)) (w : World) (e : Ending) (w' : World) : Prop :=
  match o with
  | none => ∃ (a : Option Addr) (n c : Nat) (r : Int), e = .returned (.tuple #[.slice a n c, .int .i64 r, .bool false]) ∧ Ext w w'
  | some (X, r) => ∃ a c, e = .returned (.tuple #[.slice a X.length c, .int .i64 (r : Int), .bool true]) ∧ X.length ≤ c ∧ Nums w' a X ∧ Ext w w'
theorem ParseR.bad {w w' : World} {a : Option Addr} {n c : Nat} {r : Int} {o} (ho : o = none) (h : Ext w w') : ParseR o w (.returned (.tuple #[.slice a n c, .int .i64 r, .bool false])) w' := by
  subst ho; exact ⟨a, n, c, r, rfl, h⟩

set_option maxHeartbeats 1600000 in
theorem ver_parse (s : ByteArray) (hs : s.size ≤ 1000) (w : World) (hE : EnvN w) :
    Calls Tryz.prog 68 #[.string s] w (ParseR (verL s.data.toList) w) := by
  obtain ⟨h, t, m, hc⟩ : ∃ h t m, Lib.cut s.data.toList [45] = (h, t, m) := ⟨_, _, _, rfl⟩
  have hlen := cut_len hc
  rw [size_len] at hlen
  obtain ⟨hl1, hl2⟩ := hlen
  have HC := Lib.hid hc; clear hc
  have hz : (bs h).size ≤ 1000 := by rw [bs_size]; omega
  have hzt : (bs t).size ≤ 1000 := by rw [bs_size]; omega
  go_enter Tryz.func68, Tryz.ntmps68
  go_wp2_with fail
  refine (ver_cut s (by omega) _ hE HC.out).mono ?_
  rintro e w1 ⟨rfl, hx1⟩
  have hE1 := hE.ext hx1
  cases m with
  | false =>
    have HR := Lib.hid (revV_no t)
    have hxx := hx1
    have hEx := hE1
    go_wp2_with fail
    refine (ver_split (bs h) (by omega) _ hEx).mono ?_
    rintro e w2 ⟨rfl, hS, hx2⟩
    have hE2 := Lib.hid (hEx.ext hx2)
    rw [bs_data] at *
    have hL1 := (splitOn_len 46 h).1
    have hLp := (splitOn_len 46 h).2
    generalize hL : splitOn 46 h = L at *
    have HL := Lib.hid hL; clear hL
    have HS := Lib.hid hS; clear hS
    have HLp := Lib.hid hLp; clear hLp
    have hsz := hx2.size
    go_wp2_with fail
    go_loopw [10, 37] (fun v i wr => ∃ (D : List Nat) (a : Option Addr) (cap k : Nat), v = .slice a D.length cap ∧ i = .int .i64 k ∧ k ≤ L.length ∧ Hid (D.length = k) ∧ Hid (numsV (L.take k) = some D) ∧ Hid (OwnN wr w2.heap.size a cap D) ∧ Ext w2 wr) (fun _ i _ => L.length - (intOf i).toNat)
    case atStart => exact ⟨[], none, 0, 0, rfl, rfl, Nat.zero_le _, Lib.hid rfl, Lib.hid rfl, Lib.hid (OwnN.nil _ _), Ext.refl _⟩
    case round =>
      obtain ⟨D, a, cap, k, rfl, rfl, hk, hDk, hall, hown, hext⟩ := hrel
      have hsz := hext.size
      by_cases hlt : k < L.length
      · have hcell := hext.cell (HS.out.at0 k hlt)
        obtain ⟨p, hp⟩ : ∃ p, p = L.getD k [] := ⟨_, rfl⟩
        rw [← hp] at hcell
        have hpm : p ∈ L := by rw [hp]; exact getD_mem hlt
        have hpl : (bs p).size ≤ 1000000 := by rw [bs_size]; have := HLp.out p hpm; omega
        have HP := Lib.hid hp; clear hp
        have HPM := Lib.hid hpm; clear hpm
        have hnum := ver_number (bs p) hpl _ (hE2.out.ext hext)
        rw [bs_data] at hnum
        cases hn : numV p with
        | none =>
          rw [hn] at hnum
          have HN := Lib.hid hn; clear hn
          have HU := Lib.hid hnum; clear hnum
          go_wp2_with fail
          refine HU.out.mono ?_
          rintro e w3 ⟨v, rfl, hx3⟩
          go_wp2_with fail
          go_ret3
          exact ParseR.bad (verL_nums HC.out (by rw [HL.out]; exact numsV_bad HPM.out HN.out)) (hxx.trans (hx2.trans (hext.trans hx3)))
        | some n =>
          rw [hn] at hnum
          have HN := Lib.hid hn; clear hn
          have HU := Lib.hid hnum; clear hnum
          go_wp2_with fail
          refine HU.out.mono ?_
          rintro e w3 ⟨rfl, hx3⟩
          go_wp2_with (at_builtin; refine append_num rfl (.tmp 48) (.tmp 50) rfl w2.heap.size a cap D n rfl (hown.out.ext hx3) rfl (by have := hDk.out; omega) (Nat.le_trans hsz hx3.size) ?_; intro g cap' w4 hown2 hb2)
          go_roundw
          case rel => exact ⟨D ++ [n], some ⟨g, 0, none⟩, cap', k + 1, by simp, by go_num, by omega, Lib.hid (by simp; exact hDk.out), Lib.hid (by rw [take_snocV hlt, ← HP.out]; exact numsV_snoc hall.out HN.out), Lib.hid hown2, Below.trans (hext.trans hx3) hb2⟩
          case measure => simp [intOf]; omega
      · have hkk : k = L.length := by omega
        have hall := hall.out
        rw [hkk, List.take_length] at hall
        have HA := Lib.hid hall; clear hall
        have hnx := hown.out.nums
        have HNX := Lib.hid hnx; clear hnx
        by_cases h4 : 4 < D.length
        · have hd4 : decide ((D.length : Int) ≤ 4) = false := by simp; omega
          go_wp2
          go_ret3
          exact ParseR.bad (verL_many HC.out (by rw [HL.out]; exact HA.out) h4) (hxx.trans (hx2.trans hext))
        · have hd4 : decide ((D.length : Int) ≤ 4) = true := by simp; omega
          go_wp2
          go_ret3
          rw [verL_good HC.out HR.out (by rw [HL.out]; exact HA.out) (by omega)]
          exact ⟨a, cap, rfl, HNX.out.2, HNX.out.1, hxx.trans (hx2.trans hext)⟩
  | true =>
    go_wp2_with fail
    have hnum := ver_number (bs t) (by omega) _ hE1
    rw [bs_data] at hnum
    cases hn : numV t with
    | none =>
      rw [hn] at hnum
      have HN := Lib.hid hn; clear hn
      have HU := Lib.hid hnum; clear hnum
      refine HU.out.mono ?_
      rintro e w3 ⟨v, rfl, hx3⟩
      go_wp2_with fail
      go_ret3
      exact ParseR.bad (verL_rev HC.out (revV_bad HN.out)) (hx1.trans hx3)
    | some n =>
      rw [hn] at hnum
      have HN := Lib.hid hn; clear hn
      have HU := Lib.hid hnum; clear hnum
      refine HU.out.mono ?_
      rintro e w3 ⟨rfl, hx3⟩
      by_cases hn1 : n = 0
      · subst hn1
        go_wp2_with fail
        go_ret3
        exact ParseR.bad (verL_rev HC.out (revV_zero HN.out)) (hx1.trans hx3)
      · have hn0 : ((n : Int) == 0) = false := by simp; omega
        have HR := Lib.hid (revV_ok HN.out (by omega))
        have hxx := hx1.trans hx3
        have hEx := hE1.ext hx3
        clear hn1
        go_wp2_with fail
        refine (ver_split (bs h) (by omega) _ hEx).mono ?_
        rintro e w2 ⟨rfl, hS, hx2⟩
        have hE2 := Lib.hid (hEx.ext hx2)
        rw [bs_data] at *
        have hL1 := (splitOn_len 46 h).1
        have hLp := (splitOn_len 46 h).2
        generalize hL : splitOn 46 h = L at *
        have HL := Lib.hid hL; clear hL
        have HS := Lib.hid hS; clear hS
        have HLp := Lib.hid hLp; clear hLp
        have hsz := hx2.size
        go_wp2_with fail
        go_loopw [10, 37] (fun v i wr => ∃ (D : List Nat) (a : Option Addr) (cap k : Nat), v = .slice a D.length cap ∧ i = .int .i64 k ∧ k ≤ L.length ∧ Hid (D.length = k) ∧ Hid (numsV (L.take k) = some D) ∧ Hid (OwnN wr w2.heap.size a cap D) ∧ Ext w2 wr) (fun _ i _ => L.length - (intOf i).toNat)
        case atStart => exact ⟨[], none, 0, 0, rfl, rfl, Nat.zero_le _, Lib.hid rfl, Lib.hid rfl, Lib.hid (OwnN.nil _ _), Ext.refl _⟩
        case round =>
          obtain ⟨D, a, cap, k, rfl, rfl, hk, hDk, hall, hown, hext⟩ := hrel
          have hsz := hext.size
          by_cases hlt : k < L.length
          · have hcell := hext.cell (HS.out.at0 k hlt)
            obtain ⟨p, hp⟩ : ∃ p, p = L.getD k [] := ⟨_, rfl⟩
            rw [← hp] at hcell
            have hpm : p ∈ L := by rw [hp]; exact getD_mem hlt
            have hpl : (bs p).size ≤ 1000000 := by rw [bs_size]; have := HLp.out p hpm; omega
            have HP := Lib.hid hp; clear hp
            have HPM := Lib.hid hpm; clear hpm
            have hnum := ver_number (bs p) hpl _ (hE2.out.ext hext)
            rw [bs_data] at hnum
            cases hn : numV p with
            | none =>
              rw [hn] at hnum
              have HN := Lib.hid hn; clear hn
              have HU := Lib.hid hnum; clear hnum
              go_wp2_with fail
              refine HU.out.mono ?_
              rintro e w3 ⟨v, rfl, hx3⟩
              go_wp2_with fail
              go_ret3
              exact ParseR.bad (verL_nums HC.out (by rw [HL.out]; exact numsV_bad HPM.out HN.out)) (hxx.trans (hx2.trans (hext.trans hx3)))
            | some n =>
              rw [hn] at hnum
              have HN := Lib.hid hn; clear hn
              have HU := Lib.hid hnum; clear hnum
              go_wp2_with fail
              refine HU.out.mono ?_
              rintro e w3 ⟨rfl, hx3⟩
              go_wp2_with (at_builtin; refine append_num rfl (.tmp 48) (.tmp 50) rfl w2.heap.size a cap D n rfl (hown.out.ext hx3) rfl (by have := hDk.out; omega) (Nat.le_trans hsz hx3.size) ?_; intro g cap' w4 hown2 hb2)
              go_roundw
              case rel => exact ⟨D ++ [n], some ⟨g, 0, none⟩, cap', k + 1, by simp, by go_num, by omega, Lib.hid (by simp; exact hDk.out), Lib.hid (by rw [take_snocV hlt, ← HP.out]; exact numsV_snoc hall.out HN.out), Lib.hid hown2, Below.trans (hext.trans hx3) hb2⟩
              case measure => simp [intOf]; omega
          · have hkk : k = L.length := by omega
            have hall := hall.out
            rw [hkk, List.take_length] at hall
            have HA := Lib.hid hall; clear hall
            have hnx := hown.out.nums
            have HNX := Lib.hid hnx; clear hnx
            by_cases h4 : 4 < D.length
            · have hd4 : decide ((D.length : Int) ≤ 4) = false := by simp; omega
              go_wp2
              go_ret3
              exact ParseR.bad (verL_many HC.out (by rw [HL.out]; exact HA.out) h4) (hxx.trans (hx2.trans hext))
            · have hd4 : decide ((D.length : Int) ≤ 4) = true := by simp; omega
              go_wp2
              go_ret3
              rw [verL_good HC.out HR.out (by rw [HL.out]; exact HA.out) (by omega)]
              exact ⟨a, cap, rfl, HNX.out.2, HNX.out.1, hxx.trans (hx2.trans hext)⟩
end Go.Proofs.YtnclibfhbngkjaaGreatDoor
