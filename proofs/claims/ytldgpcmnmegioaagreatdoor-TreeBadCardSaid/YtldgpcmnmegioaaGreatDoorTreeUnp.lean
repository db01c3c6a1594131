/- tree.Unpack: operations that bytes are. -/
import Derived.Test.YtldgpcmnmegioaaGreatDoorTreeRec
import Derived.Test.YtldgpcmnmegioaaGreatDoorM2
import Derived.Test.YtldgpcmnmegioaaGreatDoorRecRaw
namespace Go.Proofs.YtldgpcmnmegioaaGreatDoor
open Go.RowKit
theorem rd_err (S : Nat → Prop) (R : Nat) (s : RSt) (w : World) (h : Rd S w R s) :
    Calls Tryz.prog 42 #[.pointer (some ⟨R, 0, none⟩)] w fun e w' => e = .returned (.int .i64 (if rDone s = true then 0 else 4)) ∧ w = w' := by
  have hd := rd_done S R s w h
  have HD := Lib.hid hd; clear hd h
  cases hs : rDone s with
  | true =>
    rw [hs] at HD
    go_enter Tryz.func42, Tryz.ntmps42
    go_wp2_with (go_at_call 47; refine HD.out.mono ?_; rintro e w1 ⟨rfl, rfl⟩)
    go_ret
    exact ⟨rfl, rfl⟩
  | false =>
    rw [hs] at HD
    go_enter Tryz.func42, Tryz.ntmps42
    go_wp2_with (go_at_call 47; refine HD.out.mono ?_; rintro e w1 ⟨rfl, rfl⟩)
    go_ret
    exact ⟨rfl, rfl⟩
theorem blk_plain {w : World} {g : Nat} {us : List Value} {t : TypeId} (h : w.heap[g]? = some (.cells us.toArray t (0, 0))) : ∀ j u, us[j]? = some u → w.cell? ((⟨g, 0, none⟩ : Addr).add j) = some u := by
  intro j u hj
  have e : (⟨g, 0, none⟩ : Addr).add j = ⟨g, j, none⟩ := by
    unfold Addr.add; split
    · rename_i h0; subst h0; rfl
    · rw [Nat.zero_add]
  rw [e]
  exact blk_cell h j u (by simpa using hj)
theorem info_op4 : (Tryz.prog.info? 38).map (fun i => (i.zero, i.size, i.bytes)) = some (some (.agg #[.int .i64 0, .string ⟨#[]⟩, .string ⟨#[]⟩, .slice none 0 0]), 4, 64) := by kernel_rfl
theorem opV_one (X : List (OpD × OpA)) : ∀ u ∈ X.flatMap opV, u.oneCell' = true := by
  intro u hu
  obtain ⟨x, _, hx⟩ := List.mem_flatMap.1 hu
  simp only [opV, List.mem_cons, List.not_mem_nil, or_false] at hx
  rcases hx with rfl | rfl | rfl | rfl <;> rfl
/-- Operations in a row of the call's own. -/
def OwnOps (w : World) (base : Nat) (a : Option Addr) (cap : Nat) (X : List (OpD × OpA)) : Prop :=
  w.ownsRow base 38 4 (.slice a X.length cap) X.length (X.flatMap opV) ∧ ∀ x ∈ X, DataM w x.2.oa x.1.data
theorem OwnOps.ops {w : World} {base : Nat} {a : Option Addr} {cap : Nat} {X : List (OpD × OpA)} (h : OwnOps w base a cap X) : OpsL w a X := by
  obtain ⟨a', c', hv, _, hr, _⟩ := run_of_row h.1
  cases hv
  rcases hr with hr | ⟨g, off, ha, hg, hc⟩
  · left
    have := flat_lenm (F := opV) (m := 4) (fun _ => rfl) X
    rw [hr] at this
    exact List.eq_nil_of_length_eq_zero (by simp only [List.length_nil] at this; omega)
  · refine Or.inr ⟨g, off, ha, hg, fun i hi => ?_⟩
    have eL : X.getD i oz = X[i] := by simp [List.getD_eq_getElem?_getD, List.getElem?_eq_getElem hi]
    rw [eL]
    have hcell : ∀ r u, r < 4 → (opV X[i])[r]? = some u → w.cell? ⟨g, off + i * 4 + r, none⟩ = some u := by
      intro r u hr hu
      have := hc (i * 4 + r) u (by rw [flat_at (F := opV) (m := 4) (fun _ => rfl) X i r hi hr]; exact hu)
      rwa [← Nat.add_assoc] at this
    exact ⟨⟨hcell 0 _ (by omega) rfl, hcell 1 _ (by omega) rfl, hcell 2 _ (by omega) rfl, hcell 3 _ (by omega) rfl⟩, (h.2 _ (List.getElem_mem hi)).bytes⟩
theorem OwnOps.keep {w w' : World} {base : Nat} {a : Option Addr} {cap R : Nat} {X : List (OpD × OpA)} (h : OwnOps w base a cap X) (k : Keep (· ≠ R) w w') (hR : R < base) (hD : Datas (· ≠ R) w) : OwnOps w' base a cap X :=
  ⟨ownsRow_keep h.1 k (fun g _ _ hb _ => by show g ≠ R; omega), fun x hx => (h.2 x hx).keep k hD⟩
theorem datas_row {w : World} {base E m n : Nat} {v : Value} {us : List Value} (h : w.ownsRow base E m v n us) (hE : E ≠ 5) : Datas (fun g => some g ≠ v.ownBlock) w := by
  intro g cs fr hg e
  have e : some g = v.ownBlock := e
  rcases h.2 with ⟨h1, _⟩ | ⟨g', c, cur, h1, _, hg', _⟩
  · rw [h1] at e; cases e
  · rw [h1] at e
    cases e
    rw [hg] at hg'
    injection (Option.some.inj hg') with _ h2
    exact hE h2.symm
theorem datas_rd {S : Nat → Prop} {w : World} {R : Nat} {s : RSt} (h : Rd S w R s) : Datas (· ≠ R) w := by
  obtain ⟨a, c, hg, _⟩ := h
  exact datas_cells hg (by decide)
theorem OwnOps.app {w w3 : World} {base : Nat} {a a' : Option Addr} {cap c' : Nat} {X : List (OpD × OpA)} {x : OpD × OpA} (h : OwnOps w base a cap X) (hx : DataM w x.2.oa x.1.data)
    (hown : w3.ownsRow base 38 4 (.slice a' (X.length + 1) c') (X.length + 1) (X.flatMap opV ++ opV x)) (hg : w.grownBy w3 (Value.slice a X.length cap).ownBlock) : OwnOps w3 base a' c' (X ++ [x]) := by
  have hD := datas_row h.1 (by decide)
  refine ⟨?_, fun y hy => ?_⟩
  · rw [List.length_append, List.flatMap_append, List.flatMap_cons, List.flatMap_nil, List.append_nil]
    exact hown
  · rcases List.mem_append.1 hy with hy | hy
    · exact (h.2 y hy).keep (Keep.of_grown hg) hD
    · rw [List.mem_singleton.1 hy]
      exact hx.keep (Keep.of_grown hg) hD
/-- What Unpack answers. -/
def UnpR (l : By) (w : World) (e : Ending) (w' : World) : Prop :=
  (if rDone (unpackL l).2 = true then ∃ a c X, e = .returned (.tuple #[.slice a X.length c, .int .i64 0]) ∧ X.map Prod.fst = (unpackL l).1 ∧ OpsL w' a X
   else e = .returned (.tuple #[.slice none 0 0, .int .i64 4])) ∧ Ext w w'
set_option maxRecDepth 100000 in
set_option maxHeartbeats 12800000 in
theorem tree_Unpack (a : Option Addr) (c : Nat) (l : By) (w : World) (hb : Bytes w a l) (hl : l.length ≤ 100000) :
    Calls Tryz.prog 18 #[.slice a l.length c] w (UnpR l w) := by
  obtain ⟨Q, hQ⟩ : ∃ Q, Q = UnpR l w := ⟨_, rfl⟩
  rw [← hQ]
  have HQ := Lib.hid hQ; clear hQ
  have hrr := rec_read a c l w hb (by omega)
  have HRR := Lib.hid hrr; clear hrr hb
  obtain ⟨n, hn⟩ : ∃ n, n = l.length := ⟨_, rfl⟩
  rw [← hn] at hl HRR ⊢
  have HN := Lib.hid hn; clear hn
  go_enter Tryz.func18, Tryz.ntmps18
  go_upto_region 3 with (go_at_call 37; refine HRR.out.mono ?_; rintro E w1 ⟨R, rfl, hwR, hrd, hx⟩; have HRD := Lib.hid hrd; have HX1 := Lib.hid hx; clear hrd hx)
  obtain ⟨S, hS⟩ : ∃ S, S = w1.heap.size := ⟨_, rfl⟩
  have hRS : R < S := by rw [hS]; exact HRD.out.lt
  have HS : Hid (S ≤ w1.heap.size ∧ w.heap.size ≤ R) := Lib.hid ⟨by omega, hwR⟩
  clear hS hwR HRR
  obtain ⟨i0, hi, hz, hsz, hby⟩ := info_parts info_op4
  have HI := Lib.hid hi; clear hi
  have HZ := Lib.hid hz; clear hz
  have HSS := Lib.hid hsz; clear hsz
  have HBY := Lib.hid hby; clear hby
  have hO0 : OwnOps w1 S none 0 [] := ⟨World.ownsRow_nil _ _ _ _, fun x hx => by cases hx⟩
  have HO0 := Lib.hid hO0; clear hO0
  have hR0 : Rd (fun k => w.heap.size ≤ k ∧ k < R) w1 R (l, false) := HRD.out
  have hn0 : (l, false).1.length = n := HN.out.symm
  obtain ⟨s0, hs0⟩ : ∃ s0, s0 = ((l, false) : RSt) := ⟨_, rfl⟩
  rw [← hs0] at hR0 hn0
  have HR0 := Lib.hid hR0; clear hR0
  have HE0 := Lib.hid hs0; clear hs0
  have HS1 : Hid (S ≤ w1.heap.size) := Lib.hid HS.out.1
  go_loopg [4] n (fun gk v wr => ∃ (X : List (OpD × OpA)) (ad : Option Addr) (cc : Nat) (s : RSt), v = .slice ad X.length cc ∧ Hid (gk = s.1.length) ∧ Hid ((rEach oneOp s0).1 = X.map Prod.fst ++ (rEach oneOp s).1 ∧ (rEach oneOp s0).2 = (rEach oneOp s).2) ∧ Hid (X.length + s.1.length ≤ n) ∧ Hid (OwnOps wr S ad cc X) ∧ Hid (Rd (fun k => w.heap.size ≤ k ∧ k < R) wr R s) ∧ Hid (Keep (fun k => k ≠ R ∧ k < S) w1 wr) ∧ Hid (S ≤ wr.heap.size))
  case atStart =>
    exact ⟨[], none, 0, s0, rfl, Lib.hid hn0.symm, Lib.hid ⟨rfl, rfl⟩, Lib.hid (by rw [List.length_nil, hn0]; omega), HO0, HR0, Lib.hid (Keep.refl _ _), HS1⟩
  case round =>
    clear HO0 HR0 HRD HS1
    obtain ⟨X, ad, cc, s, rfl, hgk, hrd, hdn, hown, hR, hkp, hSw⟩ := hrel
    have hmore := rd_more _ _ _ _ hR.out
    have HM := Lib.hid hmore; clear hmore
    by_cases hlt : 0 < s.1.length
    · have hl := hdn.out
      go_wp2_with (go_at_call 38; refine HM.out.mono ?_; rintro e w2 ⟨rfl, rfl⟩)
      have lt1 := rNum_len 6 s
      have lt2 := (rRaw_len 40 (rNum 6 s).2).1
      have lt3 := (rRaw_len 40 (rRaw 40 (rNum 6 s).2).2).1
      have hcons := rEach_cons oneOp_takes hlt
      have hless := oneOp_takes s hlt
      have hone : oneOp s = (⟨((rNum 6 s).1 : Nat), (rRaw 40 (rNum 6 s).2).1, (rRaw 40 (rRaw 40 (rNum 6 s).2).2).1, (rRaw 3500 (rRaw 40 (rRaw 40 (rNum 6 s).2).2).2).1⟩, (rRaw 3500 (rRaw 40 (rRaw 40 (rNum 6 s).2).2).2).2) := rfl
      have n1 := fun W h => rd_num (fun k => w.heap.size ≤ k ∧ k < R) R 6 s W h (by omega) (by omega)
      have n2 := fun W h => rd_text (fun k => w.heap.size ≤ k ∧ k < R) R 40 (rNum 6 s).2 W h (by omega) (by omega)
      have n3 := fun W h => rd_text (fun k => w.heap.size ≤ k ∧ k < R) R 40 (rRaw 40 (rNum 6 s).2).2 W h (by omega) (by omega)
      have n4 := fun W h => rd_raw (fun k => w.heap.size ≤ k ∧ k < R) R 3500 (rRaw 40 (rRaw 40 (rNum 6 s).2).2).2 W h (by omega) (by omega)
      generalize rNum 6 s = s1 at lt1 lt2 lt3 hone n1 n2 n3 n4
      generalize rRaw 40 s1.2 = s2 at lt2 lt3 hone n2 n3 n4
      generalize rRaw 40 s2.2 = s3 at lt3 hone n3 n4
      generalize rRaw 3500 s3.2 = s4 at hone n4
      rw [hone] at hcons hless
      have N1 := Lib.hid n1; clear n1
      have N2 := Lib.hid n2; clear n2
      have N3 := Lib.hid n3; clear n3
      have N4 := Lib.hid n4; clear n4
      have HCO := Lib.hid hcons; clear hcons
      have HLE := Lib.hid hless; clear hless
      clear hone lt1 lt2 lt3
      refine (N1.out _ hR.out).mono ?_
      rintro E w2 ⟨rfl, r2, b2⟩
      have R2 := Lib.hid r2; have B2 := Lib.hid b2; clear r2 b2
      go_wp2_with fail
      refine (N2.out _ R2.out).mono ?_
      rintro E w3 ⟨rfl, r3, b3⟩
      have R3 := Lib.hid r3; have B3 := Lib.hid b3; clear r3 b3
      go_wp2_with fail
      refine (N3.out _ R3.out).mono ?_
      rintro E w4 ⟨rfl, r4, b4⟩
      have R4 := Lib.hid r4; have B4 := Lib.hid b4; clear r4 b4
      go_wp2_with fail
      refine (N4.out _ R4.out).mono ?_
      rintro E w5 ⟨a5, c5, rfl, hc5, o5, r5, b5⟩
      have R5 := Lib.hid r5; have B5 := Lib.hid ((B2.out.trans B3.out).trans (B4.out.trans b5)); clear r5 b5
      obtain ⟨a6, c6, he6, _, hd6, _⟩ := DataM.of_row o5
      cases he6
      have HD6 := Lib.hid hd6; clear hd6 o5
      clear R2 R3 R4 B2 B3 B4 N1 N2 N3 N4
      go_wp2_with (at_builtin; refine Hid.out ?_)
      refine Lib.hid ?_
      obtain ⟨x, hx⟩ : ∃ x : OpD × OpA, x = (⟨(s1.1 : Nat), s2.1, s3.1, s4.1⟩, ⟨a5, c5⟩) := ⟨_, rfl⟩
      have hX2 := Ext.alloc w5 (.cells #[.int .i64 (s1.1 : Nat), .string (bs s2.1), .string (bs s3.1), .slice a5 s4.1.length c5] 38)
      have hb2 := heap_alloc_new w5 (.cells #[.int .i64 (s1.1 : Nat), .string (bs s2.1), .string (bs s3.1), .slice a5 s4.1.length c5] 38)
      have HX2 := Lib.hid hX2
      have hO2 : OwnOps (w5.alloc (.cells #[.int .i64 (s1.1 : Nat), .string (bs s2.1), .string (bs s3.1), .slice a5 s4.1.length c5] 38)) S ad cc X := (hown.out.keep (Keep.of_but B5.out) (by omega) (datas_rd hR.out)).keep (R := R) (Keep.of_ext hX2) (by omega) (datas_rd R5.out)
      have hsz := B5.out.size
      have hSW := hSw.out
      refine wpList_append_own _ rfl _ _ 32 rfl S 38 i0 (.agg #[.int .i64 0, .string ⟨#[]⟩, .string ⟨#[]⟩, .slice none 0 0]) 4 64 Tryz.underlying32 HI.out HZ.out HSS.out HBY.out rfl (by decide) (.slice ad X.length cc) X.length (X.flatMap opV) rfl hO2.1 ⟨w5.heap.size, 0, none⟩ 1 1 (opV x) (by first | rfl | skip) (by rw [hx]; rfl) (blk_plain (by rw [hx]; exact hb2)) (fun u hu => opV_one [x] u (by simpa using hu)) (by unfold maxLen; omega) (by omega) (by rw [World.size_alloc]; omega) ?_
      intro v' w7 hown7 hgrow hnil
      obtain ⟨a', c', rfl, hcc, _, _⟩ := run_of_row hown7
      have hO7 := hO2.app (x := x) (by rw [hx]; exact HD6.out.keep (S := fun _ => True) (Keep.of_ext hX2) (datas_all _)) hown7 hgrow
      have hob : ∀ g, (Value.slice ad X.length cc).ownBlock = some g → S ≤ g := fun g e => (World.ownsRow.lt hO2.1 g e).1
      have hR7 := (R5.out.ext hX2).keep (Keep.of_grown hgrow) (fun e => by have := hob R e.symm; omega) (fun g _ hg e => by have := hob g e.symm; have := hg.2; omega)
      have hk7 : Keep (fun k => k ≠ R ∧ k < S) w1 w7 := hkp.out.trans (((Keep.of_but B5.out).mono (fun k _ hk => hk.1)).trans ((Keep.of_ext hX2).trans ((Keep.of_grown hgrow).mono (fun k _ hk e => by have := hob k e.symm; have := hk.2; omega))))
      have HO7 := Lib.hid hO7
      have HR7 := Lib.hid hR7
      have HK7 := Lib.hid hk7
      have HSW7 : Hid (S ≤ w7.heap.size) := Lib.hid (by have := hgrow.size; have := hX2.size; omega)
      clear hown7 hgrow hnil hO7 hob hR7 hk7 hO2 hb2 hX2 HX2 hSW hsz
      go_wp2_with fail
      go_roundg s4.2.1.length
      case measure => have h1 := HLE.out; have h2 := hgk.out; omega
      case rel =>
        refine ⟨X ++ [x], a', c', s4.2, by simp, Lib.hid rfl, Lib.hid ⟨?_, ?_⟩, Lib.hid ?_, HO7, HR7, HK7, HSW7⟩
        · rw [hrd.out.1, HCO.out, hx]; simp
        · rw [hrd.out.2, HCO.out]
        · have h1 := hdn.out
          have h2 := HLE.out
          simp only [List.length_append, List.length_cons, List.length_nil] at h2 ⊢
          omega
    · have hs0 : s.1.length = 0 := by omega
      have hE := hrd.out
      rw [rEach_nil oneOp hs0, List.append_nil, HE0.out] at hE
      have HEM := Lib.hid hE; clear hE hs0
      have herr := rd_err _ _ _ _ hR.out
      have hdd : rDone s = rDone (unpackL l).2 := by unfold unpackL; rw [HEM.out.2]
      rw [hdd] at herr
      have hxt : Ext w wr := ((Keep.of_ext (S := fun j => j < w.heap.size) HX1.out).trans (hkp.out.mono (fun j _ (hj : j < w.heap.size) => by have := HS.out.2; refine ⟨?_, ?_⟩ <;> omega))).ext_lt
      have HXT := Lib.hid hxt; clear hxt hdd
      have HERR := Lib.hid herr; clear herr
      by_cases hdo : rDone (unpackL l).2 = true
      · rw [if_pos hdo] at HERR
        have HDO := Lib.hid hdo; clear hdo
        go_wp2_with (first | (go_at_call 38; refine HM.out.mono ?_; rintro e w2 ⟨rfl, rfl⟩) | (go_at_call 42; refine HERR.out.mono ?_; rintro e w2 ⟨rfl, rfl⟩))
        rw [HQ.out]
        refine ⟨?_, HXT.out⟩
        rw [if_pos HDO.out]
        exact ⟨ad, cc, X, rfl, HEM.out.1.symm, hown.out.ops⟩
      · rw [if_neg hdo] at HERR
        have HDO := Lib.hid hdo; clear hdo
        go_wp2_with (first | (go_at_call 38; refine HM.out.mono ?_; rintro e w2 ⟨rfl, rfl⟩) | (go_at_call 42; refine HERR.out.mono ?_; rintro e w2 ⟨rfl, rfl⟩))
        rw [HQ.out]
        refine ⟨?_, HXT.out⟩
        rw [if_neg HDO.out]
        rfl
end Go.Proofs.YtldgpcmnmegioaaGreatDoor
