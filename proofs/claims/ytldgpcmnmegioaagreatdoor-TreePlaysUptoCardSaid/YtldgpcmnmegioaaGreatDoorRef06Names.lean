/- farrierref06.Names: a directory's names, in order. -/
import Derived.Test.YtldgpcmnmegioaaGreatDoorRef06Ask
import Derived.Test.YtldgpcmnmegioaaGreatDoorInsSort
import Derived.BigQuiet
import Derived.Deep.QuietTactic
namespace Go.Proofs.YtldgpcmnmegioaaGreatDoor
open Go.RowKit
theorem bytesLess_lt : ∀ (a b : By), Op.bytesLess a b = decide (a < b)
  | [], [] => by simp [Op.bytesLess]
  | [], _ :: _ => by simp [Op.bytesLess]
  | _ :: _, [] => by simp [Op.bytesLess]
  | x :: a, y :: b => by
    unfold Op.bytesLess
    rw [bytesLess_lt a b]
    by_cases h : x < y
    · simp [h, List.cons_lt_cons_iff]
    · by_cases e : x = y
      · subst e; simp
      · simp [h, e, List.cons_lt_cons_iff]
theorem le_of_not {x y : By} (h : ¬ y < x) : x ≤ y := List.not_lt.1 h
theorem byL_tr (x y z : By) (h1 : x ≤ y) (h2 : y ≤ z) : x ≤ z := List.le_trans h1 h2
theorem le_of_lt' {x y : By} (h : x < y) : x ≤ y := List.le_of_lt h
def namesL (L : List EntD) (q : By) : List By := L.filterMap fun e => nameM q e.path
theorem namesL_take {L : List EntD} {k : Nat} (hk : k < L.length) (q : By) : namesL (L.take (k + 1)) q = namesL (L.take k) q ++ match nameM q (L.getD k ez06).path with | some x => [x] | none => [] := by
  unfold namesL
  rw [take_getD hk ez06, List.filterMap_append]
  congr 1
  rw [List.filterMap_cons]
  cases nameM q (L.getD k ez06).path <;> rfl
theorem nameM_short {q s : By} (h : s.length ≤ q.length + 1) : nameM q s = none := by unfold nameM; rw [if_neg (fun e => by have := e.1; omega)]
theorem nameM_other {q s : By} (h : s.take (q.length + 1) ≠ q ++ [47]) : nameM q s = none := by unfold nameM; rw [if_neg (fun e => h e.2.1)]
theorem nameM_deep {q s : By} (h : 47 ∈ s.drop (q.length + 1)) : nameM q s = none := by unfold nameM; rw [if_neg (fun e => e.2.2 h)]
theorem nameM_hit {q s : By} (h1 : q.length + 1 < s.length) (h2 : s.take (q.length + 1) = q ++ [47]) (h3 : 47 ∉ s.drop (q.length + 1)) : nameM q s = some (s.drop (q.length + 1)) := by unfold nameM; rw [if_pos ⟨h1, h2, h3⟩]
def txV (X : List By) : List Value := X.map fun p => .string (bs p)
theorem txV_swap (Y : List By) (j : Nat) : ((txV Y).set j (.string (bs (Y.getD (j - 1) [])))).set (j - 1) (.string (bs (Y.getD j []))) = txV (swapL [] Y j) := by
  unfold txV swapL; rw [List.map_set, List.map_set]
theorem txV_at {Y : List By} {i : Nat} (hi : i < Y.length) : (txV Y)[i]? = some (.string (bs (Y.getD i []))) := by
  unfold txV; rw [List.getElem?_map]; simp [List.getD_eq_getElem?_getD, List.getElem?_eq_getElem hi]
theorem SortTo.last {X : List By} (h : X.Pairwise (· ≤ ·)) (x : By) : InsInv (· ≤ ·) [] (X ++ [x]) X.length X.length :=
  (SortTo.snoc (SortTo.of_pairwise h)).ins
set_option maxRecDepth 100000 in
set_option maxHeartbeats 12800000 in
theorem ref_names (L : List EntD) (la : Option Addr) (lc : Nat) (fa : Option Addr) (fn fc : Nat) (nx q : Int) (p : By) (w : World) (hEn : EntsR w la L) (hl : L.length ≤ 1099511627776) (hp : p.length ≤ 100000) (hs : ∀ e ∈ L, e.path.length ≤ 100000) :
    Calls Tryz.prog 36 #[.agg #[.slice la L.length lc, .slice fa fn fc, .int .i64 nx, .int .i64 q], .string (bs p)] w fun e w' => ∃ a c X, e = .returned (.slice a X.length c) ∧ X.Pairwise (fun x y : By => x ≤ y) ∧ X.Perm (namesL L (stemM p)) ∧ OwnS w' w.heap.size a c X ∧ Ext w w' := by
  obtain ⟨R, hR⟩ : ∃ R : Ending → World → Prop, R = fun e w' => ∃ a c X, e = .returned (.slice a X.length c) ∧ X.Pairwise (fun x y : By => x ≤ y) ∧ X.Perm (namesL L (stemM p)) ∧ OwnS w' w.heap.size a c X ∧ Ext w w' := ⟨_, rfl⟩
  rw [← hR]
  have HR := Lib.hid hR; clear hR
  have HE := Lib.hid hEn; clear hEn
  have HSH := Lib.hid hs; clear hs
  obtain ⟨n, hn⟩ : ∃ n, n = L.length := ⟨_, rfl⟩
  rw [← hn] at hl ⊢
  have HN := Lib.hid hn; clear hn
  go_enter Tryz.func36, Tryz.ntmps36
  go_upto_region 2 with fail
  have hx_w1 : Ext w ((w.alloc (.cells #[.slice la n lc, .slice fa fn fc, .int .i64 nx, .int .i64 q] 30)).alloc (.cells #[] 9)) := ((Ext.alloc _ _).trans (Ext.alloc _ _))
  have hf_B := (Ext.alloc (w.alloc (.cells #[.slice la n lc, .slice fa fn fc, .int .i64 nx, .int .i64 q] 30)) (.cells #[] 9)).heap (heap_alloc_new w (.cells #[.slice la n lc, .slice fa fn fc, .int .i64 nx, .int .i64 q] 30))
  have hf_G := heap_alloc_new (w.alloc (.cells #[.slice la n lc, .slice fa fn fc, .int .i64 nx, .int .i64 q] 30)) (.cells #[] 9)
  simp only [World.size_alloc] at hf_G
  generalize (w.alloc (.cells #[.slice la n lc, .slice fa fn fc, .int .i64 nx, .int .i64 q] 30)).alloc (.cells #[] 9) = w1 at hx_w1 hf_B hf_G ⊢
  obtain ⟨B, h_B⟩ : ∃ x, x = w.heap.size := ⟨_, rfl⟩
  obtain ⟨G, h_G⟩ : ∃ x, x = w.heap.size + 1 := ⟨_, rfl⟩
  rw [← h_G] at hf_G
  rw [← h_B] at hf_B
  try rw [← h_G, ← h_B]
  have hs_B : w.heap.size ≤ B := by omega
  have hs_G : w.heap.size ≤ G := by omega
  have HB := Lib.hid hf_B; clear hf_B
  have hBG : B < G ∧ w.heap.size ≤ B := ⟨by omega, hs_B⟩
  have hO : OwnS w1 G (some ⟨G, 0, none⟩) 0 [] := row_zero hf_G (Nat.le_refl _)
  have HSR0 : Hid (G ≤ w1.heap.size) := Lib.hid (Nat.le_of_lt (Array.getElem?_eq_some_iff.1 hf_G).1)
  have HO := Lib.hid hO; clear hO hf_G hs_G hs_B h_B h_G
  have HBG := Lib.hid hBG; clear hBG
  have HX := Lib.hid hx_w1; clear hx_w1
  obtain ⟨r, hr⟩ : ∃ r, r = stemM p := ⟨_, rfl⟩
  have hrl : r.length ≤ 100000 := by rw [hr]; unfold stemM; split; exact Nat.zero_le _; exact hp
  rw [← hr] at HR
  obtain ⟨b47, hb47⟩ : ∃ b, b = ((bs p).toList == [47]) := ⟨_, rfl⟩
  have hr2 : Value.string (bs r) = if b47 = true then .string ⟨#[]⟩ else .string (bs p) := by
    rw [hr, hb47, bs_toList]
    unfold stemM
    by_cases hp47 : p = [47]
    · rw [if_pos hp47, if_pos (by simp [hp47])]; rfl
    · rw [if_neg hp47, if_neg (by simp [hp47])]
  go_upto_if 15 with fail
  rw [← hb47]
  have HR2 := Lib.hid hr2
  clear hr hr2 hb47
  go_cut [1] from 14 to 15 (fun s wx => s = .string (bs r) ∧ Hid (wx = w1))
  case first =>
    cases b47 with
    | true =>
      go_wp2_with fail
      go_meet
      exact ⟨HR2.out.symm, Lib.hid rfl⟩
    | false =>
      go_wp2_with fail
      go_meet
      exact ⟨HR2.out.symm, Lib.hid rfl⟩
  case rest =>
    obtain ⟨rfl, hw⟩ := hcut
    obtain rfl := hw.out
    clear hw HR2 hp
    have b0 := blk_cell HB.out 0 (Value.slice la n lc) rfl
    have hrz : (bs r).size = r.length := bs_size r
    go_wp2_with fail
    clear b0
    go_loopw [5, 6] (fun s i wr => ∃ (k : Nat) (X : List By) (a : Option Addr) (c : Nat), s = .slice a X.length c ∧ i = .int .i64 k ∧ k ≤ n ∧ X.length ≤ k ∧ Hid (X.Pairwise (fun x y : By => x ≤ y)) ∧ Hid (X.Perm (namesL (L.take k) r)) ∧ Hid (OwnS wr G a c X) ∧ Hid (Ext w wr) ∧ Hid (wr.heap[B]? = some (.cells #[.slice la n lc, .slice fa fn fc, .int .i64 nx, .int .i64 q] 30 (0, 0))) ∧ Hid (G ≤ wr.heap.size)) (fun _ i _ => n - (intOf i).toNat)
    case atStart => exact ⟨0, [], some ⟨G, 0, none⟩, 0, rfl, rfl, Nat.zero_le _, Nat.le_refl _, Lib.hid List.Pairwise.nil, Lib.hid (by simp [namesL]), HO, HX, HB, HSR0⟩
    case round =>
      clear HO HX HB HSR0
      obtain ⟨k, X, a, c, rfl, rfl, hk, hXk, HPW, HPE, HO, HXR, HBR, HSR⟩ := hrel
      have b0 := blk_cell HBR.out 0 (Value.slice la n lc) rfl
      by_cases hlt : k < n
      · have hkL : k < L.length := by have := HN.out; omega
        obtain ⟨g, off, rfl, _, c0, _, _⟩ := (HE.out.ext HXR.out).at hkL
        have hT := namesL_take hkL r
        have hyl := HSH.out _ (getD_mem hkL ez06)
        have HT := Lib.hid hT; clear hT
        generalize (L.getD k ez06).path = y at c0 HT hyl
        have hyz : (bs y).size = y.length := bs_size y
        have HZ := Lib.hid (And.intro hyz hrz)
        have hb1 : (bs y).size ≤ 100000 := by omega
        have hb2 : (bs r).size ≤ 100000 := by omega
        by_cases hsh : y.length ≤ r.length + 1
        · have hd1 : decide (((bs y).size : Int) ≤ ((bs r).size : Int) + 1) = true := decide_eq_true (by omega)
          have hd2 : decide ((bs y).size ≤ (bs r).size + 1) = true := decide_eq_true (by omega)
          have hT2 := HT.out
          rw [nameM_short hsh, List.append_nil] at hT2
          have HT2 := Lib.hid hT2; clear hT2 HT hyz hrz hsh hyl hrl
          go_wp2_with fail
          go_roundw
          case rel => exact ⟨k + 1, X, a, c, rfl, by go_num, by omega, by omega, HPW, Lib.hid (by rw [HT2.out]; exact HPE.out), HO, HXR, HBR, HSR⟩
          case measure => simp [intOf]; omega
        · have hd1 : decide (((bs y).size : Int) ≤ ((bs r).size : Int) + 1) = false := decide_eq_false (by omega)
          have hd2 : decide ((bs y).size ≤ (bs r).size + 1) = false := decide_eq_false (by omega)
          have i1 : (0 : Int) ≤ ((bs r).size : Int) + 1 := by omega
          have i2 : ((bs r).size : Int) + 1 ≤ ((bs y).size : Int) := by omega
          have he1 : (bs y).extract 0 ((bs r).size + 1) = bs (y.take (r.length + 1)) := by rw [extract_bs, bs_data, hrz]; rfl
          have he2 : (bs r ++ { data := #[47] } : ByteArray) = bs (r ++ [47]) := bs_append r [47]
          by_cases hne : y.take (r.length + 1) = r ++ [47]
          · have hd3 : ((bs (y.take (r.length + 1))).toList == (bs (r ++ [47])).toList) = true := bs_beq_eq hne
            obtain ⟨nm, hnm⟩ : ∃ z, z = y.drop (r.length + 1) := ⟨_, rfl⟩
            obtain ⟨sN, hsN⟩ : ∃ z, z = bs nm := ⟨_, rfl⟩
            have he3 : (bs y).extract ((bs r).size + 1) (bs y).size = sN := by
              rw [extract_bs, bs_data, hsN, hnm, hrz, hyz, List.take_of_length_le (by rw [List.length_drop]; omega)]
            have hnl : sN.size = nm.length := by rw [hsN, bs_size]
            have hnb : nm.length ≤ 100000 := by rw [hnm, List.length_drop]; omega
            have hnz : sN.size ≤ 100000 := by omega
            have HNE := Lib.hid (And.intro (show r.length + 1 < y.length by omega) hne)
            have HSN := Lib.hid (And.intro hnm hsN)
            have HNL := Lib.hid hnl
            clear hnm hsN hne hyz hrz hsh hyl hrl hnl hnb
            generalize bs (y.take (r.length + 1)) = t1 at he1 hd3
            generalize bs (r ++ [47]) = t2 at he2 hd3
            go_wp2_with fail
            go_loopw [9, 10] (fun d i wz => ∃ (j : Nat) (b : Bool), d = .bool b ∧ i = .int .i64 j ∧ j ≤ sN.size ∧ Hid (b = decide (47 ∈ nm.take j)) ∧ Hid (wz = wr)) (fun _ i _ => sN.size - (intOf i).toNat)
            case atStart => exact ⟨0, false, rfl, rfl, Nat.zero_le _, Lib.hid (by simp), Lib.hid rfl⟩
            case round =>
              obtain ⟨j, b, rfl, rfl, hj, HBJ, hwz⟩ := hrel
              obtain rfl := hwz.out
              clear hwz
              by_cases hjl : j < sN.size
              · have hjn : j < nm.length := by have := HNL.out; omega
                have hby : ∀ h, sN[j]'h = nm[j]'hjn := by
                  have e := HSN.out.2
                  subst e
                  intro h
                  rfl
                have htk : nm.take (j + 1) = nm.take j ++ [nm[j]'hjn] := List.take_succ_eq_append_getElem hjn
                by_cases hc : nm[j]'hjn = 47
                · have hcb : (((sN[j]'hjl).toNat : Int) == 47) = true := by rw [hby, hc]; rfl
                  have HTK := Lib.hid (And.intro htk hc); clear htk hc hby
                  go_wp2_with fail
                  go_roundw
                  case rel => exact ⟨j + 1, true, rfl, by go_num, by omega, Lib.hid (by rw [HTK.out.1, HTK.out.2]; simp), Lib.hid (by trivial)⟩
                  case measure => simp [intOf]; omega
                · have hcb : (((sN[j]'hjl).toNat : Int) == 47) = false := by
                    rw [hby]
                    have : (nm[j]'hjn).toNat ≠ 47 := fun e => hc (UInt8.toNat_inj.1 (by rw [e]; rfl))
                    simp; omega
                  have HTK := Lib.hid (And.intro htk hc); clear htk hc hby
                  go_wp2_with fail
                  go_roundw
                  case rel => exact ⟨j + 1, b, rfl, by go_num, by omega, Lib.hid (by
                    rw [HBJ.out, HTK.out.1]
                    have h47 : ¬ (47 = nm[j]'hjn) := fun e => HTK.out.2 e.symm
                    exact decide_eq_decide.2 ⟨fun h => List.mem_append_left _ h, fun h => (List.mem_append.1 h).resolve_right (fun h => h47 (List.mem_singleton.1 h))⟩), Lib.hid (by trivial)⟩
                  case measure => simp [intOf]; omega
              · have hb47 : b = decide (47 ∈ nm) := by
                  have := HBJ.out
                  rwa [List.take_of_length_le (by have := HNL.out; omega)] at this
                have HB47 := Lib.hid hb47; clear hb47
                cases b with
                | true =>
                  have hT2 := HT.out
                  rw [nameM_deep (by have h := HB47.out; rw [HSN.out.1] at h; simpa using h), List.append_nil] at hT2
                  have HT2 := Lib.hid hT2; clear hT2 HT
                  go_wp2_with fail
                  go_roundw
                  case rel => exact ⟨k + 1, X, a, c, rfl, by go_num, by omega, by omega, HPW, Lib.hid (by rw [HT2.out]; exact HPE.out), HO, HXR, HBR, HSR⟩
                  case measure => simp [intOf]; omega
                | false =>
                  have hT2 := HT.out
                  rw [nameM_hit HNE.out.1 HNE.out.2 (by have h := HB47.out; rw [HSN.out.1] at h; simpa using h), ← HSN.out.1] at hT2
                  have HT2 := Lib.hid hT2; clear hT2 HT
                  have esN := HSN.out.2
                  subst esN
                  go_wp2_with (at_builtin; refine Hid.out ?_)
                  refine Lib.hid ?_
                  have hx6 := Ext.alloc wr (.cells #[.string (bs nm)] 9)
                  have hb6 := heap_alloc_new wr (.cells #[.string (bs nm)] 9)
                  have hO6 := ownsRow_keep HO.out (Keep.of_ext (S := fun _ => True) hx6) (fun _ _ _ _ _ => trivial)
                  generalize wr.alloc (.cells #[.string (bs nm)] 9) = w6 at hx6 hb6 hO6 ⊢
                  have hS6 : G ≤ w6.heap.size := Nat.le_trans HSR.out hx6.size
                  have hB6 := hx6.heap HBR.out
                  refine wpList_append_any rfl _ _ 62 9 (.string ⟨#[]⟩) 1 16 rfl Tryz.underlying62 info_string rfl (by decide) G a X.length c (txV X) rfl hO6 (some ⟨wr.heap.size, 0, none⟩) 1 1 [.string (bs nm)] rfl rfl (run_blk hb6) (by intro u hu; simp only [List.mem_cons, List.not_mem_nil, or_false] at hu; rcases hu with rfl; rfl) (by omega) (by decide) hS6 (X.length + 1) rfl ?_
                  intro a' c' w7 hown hkp hbl
                  have hO7 : OwnS w7 G a' c' (X ++ [nm]) := by
                    unfold OwnS
                    rw [List.length_append, List.map_append]
                    exact hown
                  have hx7 : Ext w w7 := ((Keep.of_ext (S := fun j => j < w.heap.size) (HXR.out.trans hx6)).andThen (Keep.of_below hbl) (fun j _ hj => by have := HBG.out; show j < G; omega)).ext_lt
                  have hB7 := (Keep.of_below hbl).heap HBG.out.1 hB6
                  have HO7 := Lib.hid hO7
                  have HX7 := Lib.hid hx7
                  have HB7 := Lib.hid hB7
                  have HS7 : Hid (G ≤ w7.heap.size) := Lib.hid (Nat.le_trans hS6 hkp.size)
                  clear hown hkp hbl hO7 hx7 hB7 hO6 hb6 hx6 hS6 hB6 b0 c0
                  obtain ⟨N2, hN2⟩ : ∃ z, z = X.length := ⟨_, rfl⟩
                  rw [← hN2] at hXk ⊢
                  have HN2 := Lib.hid hN2; clear hN2
                  have hw3 : IntKind.i64.wrap (N2 : Int) = (N2 : Int) := IntWalk.i64_in _ (by omega)
                  go_wp2_with fail
                  go_loopw [11] (fun i wy => ∃ (j : Nat) (Z : List By), i = .int .i64 j ∧ j ≤ N2 ∧ Hid (Z.Perm (X ++ [nm])) ∧ Hid (InsInv (fun x y : By => x ≤ y) [] Z N2 j) ∧ Hid (OwnS wy G a' c' Z) ∧ Hid (Ext w wy) ∧ Hid (wy.heap[B]? = some (.cells #[.slice (some ⟨g, off, none⟩) n lc, .slice fa fn fc, .int .i64 nx, .int .i64 q] 30 (0, 0))) ∧ Hid (G ≤ wy.heap.size)) (fun i _ => (intOf i).toNat)
                  case atStart => exact ⟨N2, X ++ [nm], rfl, Nat.le_refl _, Lib.hid (List.Perm.refl _), Lib.hid (by rw [HN2.out]; exact SortTo.last HPW.out nm), HO7, HX7, HB7, HS7⟩
                  case round =>
                    clear HO7 HX7 HB7 HS7 HO HXR HBR HSR
                    obtain ⟨j, Z, rfl, hj, HP, HIN, HOZ, HXY, HBY, HSY⟩ := hrel
                    have hZl : Z.length = N2 + 1 := by rw [HP.out.length_eq, List.length_append, HN2.out]; rfl
                    have HZL := Lib.hid hZl; clear hZl
                    have hfin : ∀ Z' : List By, Z'.Perm (X ++ [nm]) → SortTo (fun x y : By => x ≤ y) [] Z' (N2 + 1) → Z'.Pairwise (fun x y : By => x ≤ y) ∧ Z'.Perm (namesL (L.take (k + 1)) r) := fun Z' h1 h2 => by
                      have hl2 : Z'.length = N2 + 1 := by rw [h1.length_eq, List.length_append, HN2.out]; rfl
                      refine ⟨SortTo.pairwise (by rw [hl2]; exact h2), ?_⟩
                      rw [HT2.out]
                      exact h1.trans (HPE.out.append_right _)
                    have HFIN := Lib.hid hfin; clear hfin
                    by_cases hj0 : j = 0
                    · have hd0 : decide ((0 : Int) < (j : Int)) = false := decide_eq_false (by omega)
                      have hd1 : decide (0 < j) = false := decide_eq_false (by omega)
                      go_upto_region 19 with fail
                      go_quiet (fail)
                      go_wp2_with fail
                      go_roundw
                      case rel =>
                        have hz := HFIN.out Z HP.out (HIN.out.done byL_tr (Or.inl hj0))
                        exact ⟨k + 1, Z, a', c', by rw [HZL.out], by go_num, by omega, by have := HZL.out; omega, Lib.hid hz.1, Lib.hid hz.2, Lib.hid (ownsRow_keep HOZ.out ((Keep.refl (fun _ => True) _).drewN _) (fun _ _ _ _ _ => trivial)), Lib.hid (HXY.out.drewN _), HBY, HSY⟩
                      case measure => simp [intOf]; omega
                    · obtain ⟨j', rfl⟩ : ∃ j', j = j' + 1 := ⟨j - 1, by omega⟩
                      obtain ⟨g2, rfl, hgb, hgs, hfz, hcell, hset⟩ := own_set HOZ.out (i := j' + 1) (by have := HZL.out; omega)
                      have z1 := hcell (j' + 1) _ (txV_at (by have := HZL.out; omega))
                      have z0 := hcell j' _ (txV_at (by have := HZL.out; omega))
                      obtain ⟨y1, hy1⟩ : ∃ y, y = Z.getD (j' + 1) [] := ⟨_, rfl⟩
                      obtain ⟨y0, hy0⟩ : ∃ y, y = Z.getD j' [] := ⟨_, rfl⟩
                      rw [← hy1] at z1
                      rw [← hy0] at z0
                      have HY := Lib.hid (And.intro hy1 hy0); clear hy1 hy0
                      have hd0 : decide ((0 : Int) < ((j' + 1 : Nat) : Int)) = true := decide_eq_true (by omega)
                      have hd1 : decide (0 < j' + 1) = true := decide_eq_true (by omega)
                      have hd2 : decide ((0 : Int) < (j' : Int) + 1) = true := decide_eq_true (by omega)
                      have i1' : (j' : Int) < (N2 : Int) + 1 := by omega
                      have i2' : (j' : Int) + 1 < (N2 : Int) + 1 := by omega
                      have i3' : (0 : Int) ≤ (j' : Int) := by omega
                      have i4' : (0 : Int) ≤ (j' : Int) + 1 := by omega
                      obtain ⟨l1, hl1⟩ : ∃ z, z = decide (y0 < y1) := ⟨_, rfl⟩
                      obtain ⟨l2, hl2⟩ : ∃ z, z = decide (y0 = y1) := ⟨_, rfl⟩
                      have hlt0 : Op.bytesLess (bs y0).toList (bs y1).toList = l1 := by rw [bs_toList, bs_toList, bytesLess_lt, hl1]
                      have hlt1 : ((bs y0).toList == (bs y1).toList) = l2 := by rw [bs_toList, bs_toList, hl2]; by_cases e : y0 = y1 <;> simp [e]
                      have HL12 := Lib.hid (And.intro hl1 hl2); clear hl1 hl2
                      go_upto_region 19 with fail
                      go_quiet (fail)
                      clear z0 z1 hfz hcell hset hgs
                      have hOd : OwnS (wr.drewN nq) G (some ⟨g2, 0, none⟩) c' Z := ownsRow_keep HOZ.out ((Keep.refl (fun _ => True) _).drewN _) (fun _ _ _ _ _ => trivial)
                      have hXd : Ext w (wr.drewN nq) := HXY.out.drewN _
                      have hSd : G ≤ (wr.drewN nq).heap.size := HSY.out
                      have hBd : (wr.drewN nq).heap[B]? = some (.cells #[.slice (some ⟨g, off, none⟩) n lc, .slice fa fn fc, .int .i64 nx, .int .i64 q] 30 (0, 0)) := HBY.out
                      generalize wr.drewN nq = wd at hOd hXd hSd hBd ⊢
                      clear HOZ HXY HSY HBY
                      cases l1 with
                      | true =>
                        have hgt : ¬ y1 < y0 := by
                          have h1 : y0 < y1 := of_decide_eq_true HL12.out.1.symm
                          exact List.lt_asymm h1
                        have HGT := Lib.hid hgt; clear hgt
                        try simp only [Bool.not_true, Bool.false_and]
                        go_wp2_with fail
                        go_roundw
                        case rel =>
                          have hz := HFIN.out Z HP.out (HIN.out.done byL_tr (Or.inr (by rw [Nat.add_sub_cancel, ← HY.out.1, ← HY.out.2]; exact le_of_not HGT.out)))
                          exact ⟨k + 1, Z, some ⟨g2, 0, none⟩, c', by rw [HZL.out], by go_num, by omega, by have := HZL.out; omega, Lib.hid hz.1, Lib.hid hz.2, Lib.hid hOd, Lib.hid hXd, Lib.hid hBd, Lib.hid hSd⟩
                        case measure => simp [intOf]; omega
                      | false =>
                        cases l2 with
                        | true =>
                          have hgt : ¬ y1 < y0 := by
                            have h1 : y0 = y1 := of_decide_eq_true HL12.out.2.symm
                            rw [h1]; exact List.lt_irrefl _
                          have HGT := Lib.hid hgt; clear hgt
                          try simp only [Bool.not_true, Bool.not_false, Bool.and_false]
                          go_wp2_with fail
                          go_roundw
                          case rel =>
                            have hz := HFIN.out Z HP.out (HIN.out.done byL_tr (Or.inr (by rw [Nat.add_sub_cancel, ← HY.out.1, ← HY.out.2]; exact le_of_not HGT.out)))
                            exact ⟨k + 1, Z, some ⟨g2, 0, none⟩, c', by rw [HZL.out], by go_num, by omega, by have := HZL.out; omega, Lib.hid hz.1, Lib.hid hz.2, Lib.hid hOd, Lib.hid hXd, Lib.hid hBd, Lib.hid hSd⟩
                          case measure => simp [intOf]; omega
                        | false =>
                          have hgt : y1 < y0 := by
                            have h1 : ¬ y0 < y1 := of_decide_eq_false HL12.out.1.symm
                            have h2 : ¬ y0 = y1 := of_decide_eq_false HL12.out.2.symm
                            refine Classical.byContradiction fun h3 => h2 (List.le_antisymm (List.not_lt.1 h3) (List.not_lt.1 h1))
                          have HGT := Lib.hid hgt; clear hgt
                          try simp only [Bool.not_false, Bool.and_true]
                          obtain ⟨g', hg', _, _, hfz, hcell, hset⟩ := own_set hOd (i := j' + 1) (by have := HZL.out; omega)
                          cases hg'
                          have z1 := hcell (j' + 1) _ (txV_at (by have := HZL.out; omega))
                          have z0 := hcell j' _ (txV_at (by have := HZL.out; omega))
                          rw [← HY.out.1] at z1
                          rw [← HY.out.2] at z0
                          obtain ⟨hr1, hb1'⟩ := hset (.string (bs y0))
                          have HR1 := Lib.hid hr1
                          have HB1 := Lib.hid hb1'
                          clear hcell hset hr1 hb1' hOd
                          go_upto_region 23 with fail
                          have hx2 : Keep (fun j => j < G) wd (wd.setCell ⟨g2, j' + 1, none⟩ (.string (bs y0))) := (Keep.of_but HB1.out).mono (fun j _ hj => by show j ≠ g2; omega)
                          have hs2 := HB1.out.size
                          have hr2 := HR1.out
                          generalize wd.setCell ⟨g2, j' + 1, none⟩ (.string (bs y0)) = w2 at hx2 hs2 hr2 ⊢
                          clear z0 z1 hfz HR1 HB1
                          obtain ⟨g', hg', _, _, hfz, hcell, hset⟩ := own_set hr2 (i := j') (by have := HZL.out; omega)
                          cases hg'
                          have z0 := hcell j' (.string (bs y0)) (by
                            rw [List.getElem?_set, if_neg (by omega)]
                            have := txV_at (Y := Z) (i := j') (by have := HZL.out; omega)
                            rw [HY.out.2]; exact this)
                          obtain ⟨hr3, hb3⟩ := hset (.string (bs y1))
                          have HR3 := Lib.hid hr3
                          have HB3 := Lib.hid hb3
                          clear hcell hset hr3 hb3 hr2
                          go_wp2_with fail
                          go_roundw
                          case rel =>
                            have hrow := HR3.out
                            have e : ((txV Z).set (j' + 1) (.string (bs y0))).set j' (.string (bs y1)) = txV (swapL [] Z (j' + 1)) := by
                              rw [← txV_swap, Nat.add_sub_cancel, ← HY.out.1, ← HY.out.2]
                            have hrow : (w2.setCell ⟨g2, j', none⟩ (.string (bs y1))).ownsRow G 9 1 (.slice (some ⟨g2, 0, none⟩) Z.length c') Z.length (((txV Z).set (j' + 1) (.string (bs y0))).set j' (.string (bs y1))) := hrow
                            rw [e] at hrow
                            have hkk : Keep (fun j => j < G) wd (w2.setCell ⟨g2, j', none⟩ (.string (bs y1))) := hx2.andThen (Keep.of_but HB3.out) (fun j _ hj => by show j ≠ g2; omega)
                            refine ⟨j', swapL [] Z (j' + 1), by go_num, by omega, Lib.hid ((swapL_perm (by have := HZL.out; omega)).trans HP.out), Lib.hid ?_, Lib.hid ?_, Lib.hid ?_, Lib.hid (hkk.heap HBG.out.1 hBd), Lib.hid (Nat.le_trans hSd (Nat.le_trans hs2 HB3.out.size))⟩
                            · have := HIN.out.swap (by omega) hj (by have := HZL.out; omega) (by rw [Nat.add_sub_cancel, ← HY.out.1, ← HY.out.2]; exact le_of_lt' HGT.out)
                              rwa [Nat.add_sub_cancel] at this
                            · unfold OwnS
                              rw [swapL_len]
                              exact hrow
                            · exact ((Keep.of_ext (S := fun j => j < w.heap.size) hXd).andThen hkk (fun j _ hj => by have := HBG.out; show j < G; omega)).ext_lt
                          case measure => simp [intOf]
          · have hd3 : ((bs (y.take (r.length + 1))).toList == (bs (r ++ [47])).toList) = false := bs_beq_ne hne
            have hT2 := HT.out
            rw [nameM_other hne, List.append_nil] at hT2
            have HT2 := Lib.hid hT2; clear hT2 HT hyz hrz hsh hyl hrl hne
            generalize bs (y.take (r.length + 1)) = t1 at he1 hd3
            generalize bs (r ++ [47]) = t2 at he2 hd3
            go_wp2_with fail
            go_roundw
            case rel => exact ⟨k + 1, X, a, c, rfl, by go_num, by omega, by omega, HPW, Lib.hid (by rw [HT2.out]; exact HPE.out), HO, HXR, HBR, HSR⟩
            case measure => simp [intOf]; omega
      · have hkn : L.take k = L := List.take_of_length_le (by have := HN.out; omega)
        have hP := HPE.out
        rw [hkn] at hP
        have HP2 := Lib.hid hP; clear hP hkn
        go_wp2_with fail
        rw [HR.out]
        exact ⟨a, c, X, rfl, HPW.out, HP2.out, ownsRow_base_a HO.out (by have := HBG.out; omega), HXR.out⟩
end Go.Proofs.YtldgpcmnmegioaaGreatDoor
