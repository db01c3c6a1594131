/- slices.ContainsFunc at the tests by which arc tells which packages may be. -/
import Derived.Test.YtnclibfhbngkjaaGreatDoorArcNeed
import Derived.Test.YtnclibfhbngkjaaGreatDoorM1
namespace Go.Proofs.YtnclibfhbngkjaaGreatDoor
open Go.RowKit
/-- An index, or less than nothing. -/
def IdxR (b : Bool) (w : World) (e : Ending) (w' : World) : Prop := ∃ r : Int, e = .returned (.int .i64 r) ∧ decide (0 ≤ r) = b ∧ Ext w w'
theorem any_hit {α : Type} {L : List α} {d : α} {p : α → Bool} {k : Nat} (hk : k < L.length) (h : p (L.getD k d) = true) : L.any p = true := by
  rw [List.any_eq_true]
  exact ⟨L.getD k d, by rw [List.getD_eq_getElem?_getD, List.getElem?_eq_getElem hk]; simp, h⟩
theorem any_step {α : Type} {L : List α} {d : α} {p : α → Bool} {k : Nat} (hk : k < L.length) (h0 : (L.take k).any p = false) (h : p (L.getD k d) = false) : (L.take (k + 1)).any p = false := by
  rw [List.take_succ_eq_append_getElem hk, List.any_append, h0]
  rw [List.getD_eq_getElem?_getD, List.getElem?_eq_getElem hk] at h
  simpa using h
/-- A text that is none of a package's names of conflicts. -/
theorem conf_no (p : PkgD) (s : By) (B : Nat) (w : World) (hB : w.cell? ⟨B, 0, none⟩ = some (.string (bs p.name))) :
    Calls Tryz.prog 34 #[.string (bs s), .pointer (some ⟨B, 0, none⟩)] w fun e w' => e = .returned (.bool (!confR p s)) ∧ Ext w w' := by
  obtain ⟨R, hR⟩ : ∃ R : Ending → World → Prop, R = fun e w' => e = .returned (.bool (!confR p s)) ∧ Ext w w' := ⟨_, rfl⟩
  rw [← hR]
  have HR := Lib.hid hR; clear hR
  have hnm := name_ext s w
  cases hn : nameL s with
  | false =>
    rw [hn] at hnm
    have HF : Hid (confR p s = false) := Lib.hid (by unfold confR; rw [hn]; rfl)
    have HNM := Lib.hid hnm; clear hnm hn hB
    go_enter Tryz.func34, Tryz.ntmps34
    go_wp2_with (go_at_call 28; refine HNM.out.mono ?_; rintro e w1 ⟨rfl, hx1⟩; have hx1 := Lib.hid hx1)
    rw [HR.out, HF.out]
    exact ⟨rfl, hx1.out⟩
  | true =>
    rw [hn] at hnm
    have HNM := Lib.hid hnm; clear hnm
    by_cases hq : s = p.name
    · have hqb := bs_beq_eq hq
      have HF : Hid (confR p s = false) := Lib.hid (by unfold confR; rw [decide_eq_true hq]; simp)
      clear hq hn
      go_enter Tryz.func34, Tryz.ntmps34
      go_wp2_with (go_at_call 28; refine HNM.out.mono ?_; rintro e w1 ⟨rfl, hx1⟩; have k0 := hx1.cell hB; have hx1 := Lib.hid hx1)
      rw [HR.out, HF.out]
      exact ⟨rfl, hx1.out⟩
    · have hqb := bs_beq_ne hq
      have HF : Hid (confR p s = true) := Lib.hid (by unfold confR; rw [hn, decide_eq_false hq]; rfl)
      clear hq hn
      go_enter Tryz.func34, Tryz.ntmps34
      go_wp2_with (go_at_call 28; refine HNM.out.mono ?_; rintro e w1 ⟨rfl, hx1⟩; have k0 := hx1.cell hB; have hx1 := Lib.hid hx1)
      rw [HR.out, HF.out]
      exact ⟨rfl, hx1.out⟩
theorem unit_long (s : By) (w : World) :
    Calls Tryz.prog 35 #[.string (bs s)] w fun e w' => e = .returned (.bool (!decide (s.length ≤ 300))) ∧ Ext w w' := by
  obtain ⟨R, hR⟩ : ∃ R : Ending → World → Prop, R = fun e w' => e = .returned (.bool (!decide (s.length ≤ 300))) ∧ Ext w w' := ⟨_, rfl⟩
  rw [← hR]
  have HR := Lib.hid hR; clear hR
  by_cases h : s.length ≤ 300
  · have hb : decide ((300 : Int) < ((bs s).size : Int)) = false := decide_eq_false (by rw [bs_size]; omega)
    have HD := Lib.hid (decide_eq_true h); clear h
    go_enter Tryz.func35, Tryz.ntmps35
    go_wp2_with fail
    rw [HR.out, HD.out]
    exact ⟨rfl, Ext.refl _⟩
  · have hb : decide ((300 : Int) < ((bs s).size : Int)) = true := decide_eq_true (by rw [bs_size]; omega)
    have HD := Lib.hid (decide_eq_false h); clear h
    go_enter Tryz.func35, Tryz.ntmps35
    go_wp2_with fail
    rw [HR.out, HD.out]
    exact ⟨rfl, Ext.refl _⟩
def fileV (f : FileD) (d : Option Addr) (c : Nat) : Value := .agg #[.string (bs f.path), .bool f.config, .slice d f.data.length c]
theorem file_in (q : By) (f : FileD) (d : Option Addr) (c B : Nat) (w : World) (hE : Env w) (hB : w.cell? ⟨B, 0, none⟩ = some (.string (bs q))) :
    Calls Tryz.prog 38 #[fileV f d c, .pointer (some ⟨B, 0, none⟩)] w fun e w' => e = .returned (.bool (withinL q f.path)) ∧ Ext w w' := by
  obtain ⟨R, hR⟩ : ∃ R : Ending → World → Prop, R = fun e w' => e = .returned (.bool (withinL q f.path)) ∧ Ext w w' := ⟨_, rfl⟩
  rw [← hR]
  have HR := Lib.hid hR; clear hR
  have hx0 : Ext w (w.alloc (.cells #[.string (bs f.path), .bool f.config, .slice d f.data.length c] 76)) := Ext.alloc _ _
  have hw := path_within (bs q) (bs f.path) _ (hE.ext hx0)
  rw [bs_data, bs_data] at hw
  have hlt := lt_of_cell hB
  obtain ⟨b, hb⟩ : ∃ b, b = withinL q f.path := ⟨_, rfl⟩
  rw [← hb] at hw HR
  have HW := Lib.hid hw; clear hw hb
  unfold fileV
  go_enter Tryz.func38, Tryz.ntmps38
  go_wp2_with (go_at_call 39; refine HW.out.mono ?_; rintro e w1 ⟨rfl, hx1⟩; have hx1 := Lib.hid hx1)
  rw [HR.out]
  exact ⟨rfl, hx0.trans hx1.out⟩
set_option maxHeartbeats 1600000 in
theorem index_need (a : Option Addr) (L : List NeedD) (c : Nat)  (w : World) (hE : EnvN w) (hM : NeedsM w a L ∧ ∀ n ∈ L, n.ver.length ≤ 1000) (hL : L.length ≤ 1099511627776) :
    Calls Tryz.prog 69 #[.slice a L.length c, .func (.func 31) #[] #[]] w (IdxR (L.any (fun n => !needR n)) w) := by
  obtain ⟨R, hR⟩ : ∃ R, R = IdxR (L.any (fun n => !needR n)) w := ⟨_, rfl⟩
  rw [← hR]
  have HR := Lib.hid hR; clear hR
  have HM := Lib.hid hM; clear hM
  go_enter Tryz.func69, Tryz.ntmps69
  go_wp2_with fail
  go_loopw [8] (fun i wr => ∃ k : Nat, i = .int .i64 k ∧ k ≤ L.length ∧ Hid ((L.take k).any (fun n => !needR n) = false) ∧ Hid (Ext w wr)) (fun i _ => L.length - (intOf i).toNat)
  case atStart => exact ⟨0, rfl, Nat.zero_le _, Lib.hid (by simp), Lib.hid (Ext.refl _)⟩
  case round =>
    obtain ⟨k, rfl, hk, hno, hx⟩ := hrel
    by_cases hlt : k < L.length
    · obtain ⟨g, off, rfl, _, h1, h2, h3⟩ := (HM.out.1.ext hx.out).at hlt
      have hv := HM.out.2 (L.getD k nz) (by rw [List.getD_eq_getElem?_getD, List.getElem?_eq_getElem hlt]; simp)
      obtain ⟨m, hm⟩ : ∃ m, m = L.getD k nz := ⟨_, rfl⟩
      rw [← hm] at h1 h2 h3 hv
      cases ht : (fun n => !needR n) (L.getD k nz) with
      | true =>
        have HH := Lib.hid (any_hit (d := nz) (p := (fun n => !needR n)) hlt ht)
        have hcl := arc_need_no m wr (hE.ext hx.out) hv
        have ht2 : (!needR m) = true := by rw [hm]; exact ht
        rw [ht2] at hcl
        unfold needV at hcl
        have HCL := Lib.hid hcl; clear hcl ht ht2 hm hv
        go_wp2_with ((go_at_call 31; refine HCL.out.mono ?_; rintro e w2 ⟨rfl, hx2⟩; have hx2 := Lib.hid hx2))
        rw [HR.out]
        exact ⟨k, rfl, by rw [HH.out]; simp, hx.out.trans (Ext.trans (by first | exact Ext.refl _ | exact Ext.alloc _ _) hx2.out)⟩
      | false =>
        have HN := Lib.hid (any_step (d := nz) (p := (fun n => !needR n)) hlt hno.out ht)
        have hcl := arc_need_no m wr (hE.ext hx.out) hv
        have ht2 : (!needR m) = false := by rw [hm]; exact ht
        rw [ht2] at hcl
        unfold needV at hcl
        have HCL := Lib.hid hcl; clear hcl ht ht2 hm hv
        go_wp2_with ((go_at_call 31; refine HCL.out.mono ?_; rintro e w2 ⟨rfl, hx2⟩; have hx2 := Lib.hid hx2))
        go_roundw
        case rel => exact ⟨k + 1, by go_num, by omega, HN, Lib.hid (hx.out.trans (Ext.trans (by first | exact Ext.refl _ | exact Ext.alloc _ _) hx2.out))⟩
        case measure => simp [intOf]; omega
    · have hkk : k = L.length := by omega
      have hn := hno.out
      rw [hkk, List.take_length] at hn
      have HN := Lib.hid hn; clear hn hkk
      go_wp2_with fail
      rw [HR.out]
      exact ⟨-1, rfl, by rw [HN.out]; rfl, hx.out⟩
theorem contains_need (a : Option Addr) (L : List NeedD) (c : Nat)  (w : World) (hE : EnvN w) (hM : NeedsM w a L ∧ ∀ n ∈ L, n.ver.length ≤ 1000) (hL : L.length ≤ 1099511627776) :
    Calls Tryz.prog 30 #[.slice a L.length c, .func (.func 31) #[] #[]] w fun e w' => e = .returned (.bool (L.any (fun n => !needR n))) ∧ Ext w w' := by
  obtain ⟨R, hR⟩ : ∃ R : Ending → World → Prop, R = fun e w' => e = .returned (.bool (L.any (fun n => !needR n))) ∧ Ext w w' := ⟨_, rfl⟩
  rw [← hR]
  have HR := Lib.hid hR; clear hR
  have hi := index_need a L c  w hE hM hL
  obtain ⟨b, hb⟩ : ∃ b, b = L.any (fun n => !needR n) := ⟨_, rfl⟩
  rw [← hb] at hi HR
  have HI := Lib.hid hi; clear hi hb hM
  go_enter Tryz.func30, Tryz.ntmps30
  go_wp2_with (go_at_call 69; refine HI.out.mono ?_; rintro e w1 ⟨r, rfl, hr, hx1⟩; have hx1 := Lib.hid hx1)
  rw [HR.out]
  exact ⟨rfl, hx1.out⟩
set_option maxHeartbeats 1600000 in
theorem index_conf (a : Option Addr) (L : List By) (c : Nat) (p : PkgD) (B : Nat) (w : World) (_hE : EnvN w) (hM : Strs w a L ∧ w.cell? ⟨B, 0, none⟩ = some (.string (bs p.name))) (hL : L.length ≤ 1099511627776) :
    Calls Tryz.prog 70 #[.slice a L.length c, .func (.func 34) #[] #[.pointer (some ⟨B, 0, none⟩)]] w (IdxR (L.any (fun s => !confR p s)) w) := by
  obtain ⟨R, hR⟩ : ∃ R, R = IdxR (L.any (fun s => !confR p s)) w := ⟨_, rfl⟩
  rw [← hR]
  have HR := Lib.hid hR; clear hR
  have HM := Lib.hid hM; clear hM
  go_enter Tryz.func70, Tryz.ntmps70
  go_wp2_with fail
  go_loopw [8] (fun i wr => ∃ k : Nat, i = .int .i64 k ∧ k ≤ L.length ∧ Hid ((L.take k).any (fun s => !confR p s) = false) ∧ Hid (Ext w wr)) (fun i _ => L.length - (intOf i).toNat)
  case atStart => exact ⟨0, rfl, Nat.zero_le _, Lib.hid (by simp), Lib.hid (Ext.refl _)⟩
  case round =>
    obtain ⟨k, rfl, hk, hno, hx⟩ := hrel
    by_cases hlt : k < L.length
    · obtain ⟨g, off, rfl, _, hcs⟩ := (HM.out.1.ext hx.out).at (by intro e; rw [e] at hlt; simp at hlt)
      have h1 := hcs k hlt
      clear hcs
      obtain ⟨m, hm⟩ : ∃ m, m = L.getD k [] := ⟨_, rfl⟩
      rw [← hm] at h1
      cases ht : (fun s => !confR p s) (L.getD k []) with
      | true =>
        have HH := Lib.hid (any_hit (d := []) (p := (fun s => !confR p s)) hlt ht)
        have hcl := conf_no p m B wr (hx.out.cell HM.out.2)
        have ht2 : (!confR p m) = true := by rw [hm]; exact ht
        rw [ht2] at hcl
        have HCL := Lib.hid hcl; clear hcl ht ht2 hm
        go_wp2_with ((go_at_call 34; refine HCL.out.mono ?_; rintro e w2 ⟨rfl, hx2⟩; have hx2 := Lib.hid hx2))
        rw [HR.out]
        exact ⟨k, rfl, by rw [HH.out]; simp, hx.out.trans (Ext.trans (by first | exact Ext.refl _ | exact Ext.alloc _ _) hx2.out)⟩
      | false =>
        have HN := Lib.hid (any_step (d := []) (p := (fun s => !confR p s)) hlt hno.out ht)
        have hcl := conf_no p m B wr (hx.out.cell HM.out.2)
        have ht2 : (!confR p m) = false := by rw [hm]; exact ht
        rw [ht2] at hcl
        have HCL := Lib.hid hcl; clear hcl ht ht2 hm
        go_wp2_with ((go_at_call 34; refine HCL.out.mono ?_; rintro e w2 ⟨rfl, hx2⟩; have hx2 := Lib.hid hx2))
        go_roundw
        case rel => exact ⟨k + 1, by go_num, by omega, HN, Lib.hid (hx.out.trans (Ext.trans (by first | exact Ext.refl _ | exact Ext.alloc _ _) hx2.out))⟩
        case measure => simp [intOf]; omega
    · have hkk : k = L.length := by omega
      have hn := hno.out
      rw [hkk, List.take_length] at hn
      have HN := Lib.hid hn; clear hn hkk
      go_wp2_with fail
      rw [HR.out]
      exact ⟨-1, rfl, by rw [HN.out]; rfl, hx.out⟩
theorem contains_conf (a : Option Addr) (L : List By) (c : Nat) (p : PkgD) (B : Nat) (w : World) (hE : EnvN w) (hM : Strs w a L ∧ w.cell? ⟨B, 0, none⟩ = some (.string (bs p.name))) (hL : L.length ≤ 1099511627776) :
    Calls Tryz.prog 33 #[.slice a L.length c, .func (.func 34) #[] #[.pointer (some ⟨B, 0, none⟩)]] w fun e w' => e = .returned (.bool (L.any (fun s => !confR p s))) ∧ Ext w w' := by
  obtain ⟨R, hR⟩ : ∃ R : Ending → World → Prop, R = fun e w' => e = .returned (.bool (L.any (fun s => !confR p s))) ∧ Ext w w' := ⟨_, rfl⟩
  rw [← hR]
  have HR := Lib.hid hR; clear hR
  have hi := index_conf a L c p B w hE hM hL
  obtain ⟨b, hb⟩ : ∃ b, b = L.any (fun s => !confR p s) := ⟨_, rfl⟩
  rw [← hb] at hi HR
  have HI := Lib.hid hi; clear hi hb hM
  go_enter Tryz.func33, Tryz.ntmps33
  go_wp2_with (go_at_call 70; refine HI.out.mono ?_; rintro e w1 ⟨r, rfl, hr, hx1⟩; have hx1 := Lib.hid hx1)
  rw [HR.out]
  exact ⟨rfl, hx1.out⟩
set_option maxHeartbeats 1600000 in
theorem index_unit (a : Option Addr) (L : List By) (c : Nat)  (w : World) (_hE : EnvN w) (hM : Strs w a L ∧ True) (hL : L.length ≤ 1099511627776) :
    Calls Tryz.prog 70 #[.slice a L.length c, .func (.func 35) #[] #[]] w (IdxR (L.any (fun s : By => !decide (s.length ≤ 300))) w) := by
  obtain ⟨R, hR⟩ : ∃ R, R = IdxR (L.any (fun s : By => !decide (s.length ≤ 300))) w := ⟨_, rfl⟩
  rw [← hR]
  have HR := Lib.hid hR; clear hR
  have HM := Lib.hid hM; clear hM
  go_enter Tryz.func70, Tryz.ntmps70
  go_wp2_with fail
  go_loopw [8] (fun i wr => ∃ k : Nat, i = .int .i64 k ∧ k ≤ L.length ∧ Hid ((L.take k).any (fun s : By => !decide (s.length ≤ 300)) = false) ∧ Hid (Ext w wr)) (fun i _ => L.length - (intOf i).toNat)
  case atStart => exact ⟨0, rfl, Nat.zero_le _, Lib.hid (by simp), Lib.hid (Ext.refl _)⟩
  case round =>
    obtain ⟨k, rfl, hk, hno, hx⟩ := hrel
    by_cases hlt : k < L.length
    · obtain ⟨g, off, rfl, _, hcs⟩ := (HM.out.1.ext hx.out).at (by intro e; rw [e] at hlt; simp at hlt)
      have h1 := hcs k hlt
      clear hcs
      obtain ⟨m, hm⟩ : ∃ m, m = L.getD k [] := ⟨_, rfl⟩
      rw [← hm] at h1
      cases ht : (fun s : By => !decide (s.length ≤ 300)) (L.getD k []) with
      | true =>
        have HH := Lib.hid (any_hit (d := []) (p := (fun s : By => !decide (s.length ≤ 300))) hlt ht)
        have hcl := unit_long m wr
        have ht2 : (!decide (m.length ≤ 300)) = true := by rw [hm]; exact ht
        rw [ht2] at hcl
        have HCL := Lib.hid hcl; clear hcl ht ht2 hm
        go_wp2_with ((go_at_call 35; refine HCL.out.mono ?_; rintro e w2 ⟨rfl, hx2⟩; have hx2 := Lib.hid hx2))
        rw [HR.out]
        exact ⟨k, rfl, by rw [HH.out]; simp, hx.out.trans (Ext.trans (by first | exact Ext.refl _ | exact Ext.alloc _ _) hx2.out)⟩
      | false =>
        have HN := Lib.hid (any_step (d := []) (p := (fun s : By => !decide (s.length ≤ 300))) hlt hno.out ht)
        have hcl := unit_long m wr
        have ht2 : (!decide (m.length ≤ 300)) = false := by rw [hm]; exact ht
        rw [ht2] at hcl
        have HCL := Lib.hid hcl; clear hcl ht ht2 hm
        go_wp2_with ((go_at_call 35; refine HCL.out.mono ?_; rintro e w2 ⟨rfl, hx2⟩; have hx2 := Lib.hid hx2))
        go_roundw
        case rel => exact ⟨k + 1, by go_num, by omega, HN, Lib.hid (hx.out.trans (Ext.trans (by first | exact Ext.refl _ | exact Ext.alloc _ _) hx2.out))⟩
        case measure => simp [intOf]; omega
    · have hkk : k = L.length := by omega
      have hn := hno.out
      rw [hkk, List.take_length] at hn
      have HN := Lib.hid hn; clear hn hkk
      go_wp2_with fail
      rw [HR.out]
      exact ⟨-1, rfl, by rw [HN.out]; rfl, hx.out⟩
theorem contains_unit (a : Option Addr) (L : List By) (c : Nat)  (w : World) (hE : EnvN w) (hM : Strs w a L ∧ True) (hL : L.length ≤ 1099511627776) :
    Calls Tryz.prog 33 #[.slice a L.length c, .func (.func 35) #[] #[]] w fun e w' => e = .returned (.bool (L.any (fun s : By => !decide (s.length ≤ 300)))) ∧ Ext w w' := by
  obtain ⟨R, hR⟩ : ∃ R : Ending → World → Prop, R = fun e w' => e = .returned (.bool (L.any (fun s : By => !decide (s.length ≤ 300)))) ∧ Ext w w' := ⟨_, rfl⟩
  rw [← hR]
  have HR := Lib.hid hR; clear hR
  have hi := index_unit a L c  w hE hM hL
  obtain ⟨b, hb⟩ : ∃ b, b = L.any (fun s : By => !decide (s.length ≤ 300)) := ⟨_, rfl⟩
  rw [← hb] at hi HR
  have HI := Lib.hid hi; clear hi hb hM
  go_enter Tryz.func33, Tryz.ntmps33
  go_wp2_with (go_at_call 70; refine HI.out.mono ?_; rintro e w1 ⟨r, rfl, hr, hx1⟩; have hx1 := Lib.hid hx1)
  rw [HR.out]
  exact ⟨rfl, hx1.out⟩
set_option maxHeartbeats 1600000 in
theorem index_file (a : Option Addr) (L : List FileD) (c : Nat) (q : By) (B : Nat) (w : World) (hE : EnvN w) (hM : FilesM w a L ∧ w.cell? ⟨B, 0, none⟩ = some (.string (bs q))) (hL : L.length ≤ 1099511627776) :
    Calls Tryz.prog 72 #[.slice a L.length c, .func (.func 38) #[] #[.pointer (some ⟨B, 0, none⟩)]] w (IdxR (L.any (fun g => withinL q g.path)) w) := by
  obtain ⟨R, hR⟩ : ∃ R, R = IdxR (L.any (fun g => withinL q g.path)) w := ⟨_, rfl⟩
  rw [← hR]
  have HR := Lib.hid hR; clear hR
  have HM := Lib.hid hM; clear hM
  go_enter Tryz.func72, Tryz.ntmps72
  go_wp2_with fail
  go_loopw [8] (fun i wr => ∃ k : Nat, i = .int .i64 k ∧ k ≤ L.length ∧ Hid ((L.take k).any (fun g => withinL q g.path) = false) ∧ Hid (Ext w wr)) (fun i _ => L.length - (intOf i).toNat)
  case atStart => exact ⟨0, rfl, Nat.zero_le _, Lib.hid (by simp), Lib.hid (Ext.refl _)⟩
  case round =>
    obtain ⟨k, rfl, hk, hno, hx⟩ := hrel
    by_cases hlt : k < L.length
    · obtain ⟨g, off, rfl, _, h1, h2, dd, dc, h3, _, _⟩ := (HM.out.1.ext hx.out).at hlt
      obtain ⟨m, hm⟩ : ∃ m, m = L.getD k fz := ⟨_, rfl⟩
      rw [← hm] at h1 h2 h3
      cases ht : (fun g => withinL q g.path) (L.getD k fz) with
      | true =>
        have HH := Lib.hid (any_hit (d := fz) (p := (fun g => withinL q g.path)) hlt ht)
        have hcl := file_in q m dd dc B wr (hE.env.ext hx.out) (hx.out.cell HM.out.2)
        have ht2 : withinL q m.path = true := by rw [hm]; exact ht
        rw [ht2] at hcl
        unfold fileV at hcl
        have HCL := Lib.hid hcl; clear hcl ht ht2 hm
        go_wp2_with ((go_at_call 38; refine HCL.out.mono ?_; rintro e w2 ⟨rfl, hx2⟩; have hx2 := Lib.hid hx2))
        rw [HR.out]
        exact ⟨k, rfl, by rw [HH.out]; simp, hx.out.trans (Ext.trans (by first | exact Ext.refl _ | exact Ext.alloc _ _) hx2.out)⟩
      | false =>
        have HN := Lib.hid (any_step (d := fz) (p := (fun g => withinL q g.path)) hlt hno.out ht)
        have hcl := file_in q m dd dc B wr (hE.env.ext hx.out) (hx.out.cell HM.out.2)
        have ht2 : withinL q m.path = false := by rw [hm]; exact ht
        rw [ht2] at hcl
        unfold fileV at hcl
        have HCL := Lib.hid hcl; clear hcl ht ht2 hm
        go_wp2_with ((go_at_call 38; refine HCL.out.mono ?_; rintro e w2 ⟨rfl, hx2⟩; have hx2 := Lib.hid hx2))
        go_roundw
        case rel => exact ⟨k + 1, by go_num, by omega, HN, Lib.hid (hx.out.trans (Ext.trans (by first | exact Ext.refl _ | exact Ext.alloc _ _) hx2.out))⟩
        case measure => simp [intOf]; omega
    · have hkk : k = L.length := by omega
      have hn := hno.out
      rw [hkk, List.take_length] at hn
      have HN := Lib.hid hn; clear hn hkk
      go_wp2_with fail
      rw [HR.out]
      exact ⟨-1, rfl, by rw [HN.out]; rfl, hx.out⟩
theorem contains_file (a : Option Addr) (L : List FileD) (c : Nat) (q : By) (B : Nat) (w : World) (hE : EnvN w) (hM : FilesM w a L ∧ w.cell? ⟨B, 0, none⟩ = some (.string (bs q))) (hL : L.length ≤ 1099511627776) :
    Calls Tryz.prog 37 #[.slice a L.length c, .func (.func 38) #[] #[.pointer (some ⟨B, 0, none⟩)]] w fun e w' => e = .returned (.bool (L.any (fun g => withinL q g.path))) ∧ Ext w w' := by
  obtain ⟨R, hR⟩ : ∃ R : Ending → World → Prop, R = fun e w' => e = .returned (.bool (L.any (fun g => withinL q g.path))) ∧ Ext w w' := ⟨_, rfl⟩
  rw [← hR]
  have HR := Lib.hid hR; clear hR
  have hi := index_file a L c q B w hE hM hL
  obtain ⟨b, hb⟩ : ∃ b, b = L.any (fun g => withinL q g.path) := ⟨_, rfl⟩
  rw [← hb] at hi HR
  have HI := Lib.hid hi; clear hi hb hM
  go_enter Tryz.func37, Tryz.ntmps37
  go_wp2_with (go_at_call 72; refine HI.out.mono ?_; rintro e w1 ⟨r, rfl, hr, hx1⟩; have hx1 := Lib.hid hx1)
  rw [HR.out]
  exact ⟨rfl, hx1.out⟩
end Go.Proofs.YtnclibfhbngkjaaGreatDoor
