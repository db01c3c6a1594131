/- tree.Pack: operations as bytes. -/
import Derived.Test.YtefpllpichhojaaGreatDoorM4
import Derived.Test.YtefpllpichhojaaGreatDoorM7
import Derived.Test.YtefpllpichhojaaGreatDoorM18
import Derived.Test.YtefpllpichhojaaGreatDoorM1
import Derived.Deep.RegionHeld3
namespace Go.Proofs.YtefpllpichhojaaGreatDoor
open Go.RowKit
def opP (o : OpD) : List By := [numI o.kind, raw4 o.path, raw4 o.dest, raw4 o.data]
theorem opP_len (L : List OpD) : (L.flatMap opP).length = 4 * L.length := by
 induction L with
 | nil => rfl
 | cons x L ih => rw [List.flatMap_cons, List.length_append, ih, List.length_cons, show (opP x).length = 4 from rfl]; omega
theorem opP_flat (L : List OpD) : (L.flatMap opP).flatten = packOps L := by
 induction L with
 | nil => rfl
 | cons x L ih =>
   rw [List.flatMap_cons, List.flatten_append, ih]
   unfold packOps
   rw [List.flatMap_cons]
   congr 1
   simp [opP, opB]
theorem opB_len (o : OpD) : (opB o).length = 16 + o.path.length + o.dest.length + o.data.length := by
 simp only [opB, List.length_append, numI_len, raw4_len]; omega
theorem packOps_le {L : List OpD} {o : OpD} (h : o ∈ L) : (opB o).length ≤ (packOps L).length := by
 unfold packOps
 obtain ⟨A, B, rfl⟩ := List.append_of_mem h
 rw [List.flatMap_append, List.flatMap_cons, List.length_append, List.length_append]
 omega
theorem packOps_count (L : List OpD) : 16 * L.length ≤ (packOps L).length := by
 induction L with
 | nil => simp
 | cons x L ih =>
   unfold packOps at ih ⊢
   rw [List.flatMap_cons, List.length_append, List.length_cons, opB_len]; omega
theorem op_take {L : List OpD} {k : Nat} (h : k < L.length) : (L.take (k + 1)).flatMap opP = (L.take k).flatMap opP ++ opP L[k] := by
 rw [List.take_succ_eq_append_getElem h, List.flatMap_append]
 simp
theorem textR (l : By) (hl : l.length ≤ 16777216) (w : World) : Calls Tryz.prog 125 #[.string (bs l)] w (PackR (raw4 l) w) := by
 have := rec_text (bs l) (by rw [bs_size]; exact hl) w
 rw [bs_data] at this
 exact this
theorem part_four {wr w0 w1 w2 w3 w4 : World} {base : Nat} {a : Option Addr} {cap : Nat} {D : List By} {p q r s : Option Addr} {c d e f : Nat} {l m n o : By} (hown : OwnP wr base a cap D) (hx0 : Ext wr w0) (h1 : OwnB w1 w0.heap.size p c l) (hx1 : Ext w0 w1) (h2 : OwnB w2 w1.heap.size q d m) (hx2 : Ext w1 w2) (h3 : OwnB w3 w2.heap.size r e n) (hx3 : Ext w2 w3) (h4 : OwnB w4 w3.heap.size s f o) (hx4 : Ext w3 w4) :
 PartsS (fun k => some k ≠ (Value.slice a D.length cap).ownBlock) w4 [.slice p l.length c, .slice q m.length d, .slice r n.length e, .slice s o.length f] [l, m, n, o] :=
 PartsS.cons ((part_new hown hx0 h1).keep (Keep.of_ext (hx2.trans (hx3.trans hx4)))) (PartsS.cons ((part_new hown (hx0.trans hx1) h2).keep (Keep.of_ext (hx3.trans hx4))) (PartsS.cons ((part_new hown (hx0.trans (hx1.trans hx2)) h3).keep (Keep.of_ext hx4)) (PartsS.one (part_new hown (hx0.trans (hx1.trans (hx2.trans hx3))) h4))))
set_option maxRecDepth 100000 in
set_option maxHeartbeats 12800000 in
theorem tree_Pack (a : Option Addr) (c : Nat) (L : List (OpD × OpA)) (w : World) (hL : OpsL w a L) (hl : (packOps (L.map Prod.fst)).length ≤ 8388608) :
 Calls Tryz.prog 78 #[.slice a L.length c] w (PackR (packOps (L.map Prod.fst)) w) := by
 obtain ⟨R, hR⟩ : ∃ R, R = PackR (packOps (L.map Prod.fst)) w := ⟨_, rfl⟩
 rw [← hR]
 have HR := Lib.hid hR; clear hR
 have HL := Lib.hid hL; clear hL
 have HB := Lib.hid hl
 have hcn := packOps_count (L.map Prod.fst)
 rw [List.length_map] at hcn
 obtain ⟨n, hn⟩ : ∃ n, n = L.length := ⟨_, rfl⟩
 have hnn : n ≤ 8388608 := by omega
 clear hcn hl
 rw [← hn]
 have HN := Lib.hid hn; clear hn
 go_enter Tryz.func78, Tryz.ntmps78
 go_wp2_with fail
 go_loopw [3, 8] (fun v i wr => ∃ (D : List By) (a2 : Option Addr) (cap k : Nat), v = .slice a2 D.length cap ∧ i = .int .i64 k ∧ k ≤ n ∧ Hid (D = ((L.map Prod.fst).take k).flatMap opP) ∧ Hid (OwnP wr w.heap.size a2 cap D) ∧ Ext w wr) (fun _ i _ => n - (intOf i).toNat)
 case atStart => exact ⟨[], none, 0, 0, rfl, rfl, Nat.zero_le _, Lib.hid rfl, Lib.hid (OwnP.nil _ _), Ext.refl _⟩
 case round =>
  obtain ⟨D, a2, cap, k, rfl, rfl, hk, hD, hown, hext⟩ := hrel
  have hsz := hext.size
  by_cases hlt : k < n
  · have hkL : k < L.length := by have := HN.out; omega
    obtain ⟨g, off, rfl, _, ⟨c0, c1, c2, c3⟩, hby⟩ := (HL.out.ext hext).at hkL
    have eo : (L.getD k oz).1 = (L.map Prod.fst)[k]'(by rw [List.length_map]; exact hkL) := by
     rw [List.getElem_map, List.getD_eq_getElem?_getD, List.getElem?_eq_getElem hkL]; rfl
    have hob := packOps_le (L := L.map Prod.fst) (o := (L.getD k oz).1) (by rw [eo]; exact List.getElem_mem _)
    rw [opB_len] at hob
    have hB := HB.out
    have htk := op_take (L := L.map Prod.fst) (k := k) (by rw [List.length_map]; exact hkL)
    rw [← eo] at htk
    generalize (L.getD k oz) = xo at c0 c1 c2 c3 hby htk hob
    clear eo
    obtain ⟨⟨ok, op, ot, od⟩, ⟨oa, oc⟩⟩ := xo
    simp only at c0 c1 c2 c3 hby hob
    have htk2 : ((L.map Prod.fst).take (k + 1)).flatMap opP = ((L.map Prod.fst).take k).flatMap opP ++ [numI ok, raw4 op, raw4 ot, raw4 od] := htk
    have HTK := Lib.hid htk2; clear htk htk2
    have HBY := Lib.hid hby; clear hby
    have hp1 : op.length ≤ 16777216 := by omega
    have hp2 : ot.length ≤ 16777216 := by omega
    have hp3 : od.length ≤ 16777216 := by omega
    clear hob hB
    have hDn : D.length ≤ 167772160 := by rw [hD.out, opP_len, List.length_take]; omega
    go_upto_region 5 with (fail)
    clear c0 c1 c2 c3
    have n0 := cell_new wr #[.int .i64 ok, .string (bs op), .string (bs ot), .slice oa od.length oc] 52 0 _ rfl
    have n1 := cell_new wr #[.int .i64 ok, .string (bs op), .string (bs ot), .slice oa od.length oc] 52 1 _ rfl
    have n2 := cell_new wr #[.int .i64 ok, .string (bs op), .string (bs ot), .slice oa od.length oc] 52 2 _ rfl
    have n3 := cell_new wr #[.int .i64 ok, .string (bs op), .string (bs ot), .slice oa od.length oc] 52 3 _ rfl
    go_region_held3 (fun w' => w'.cell? ⟨wr.heap.size, 0, none⟩ = some (.int .i64 ok) ∧ w'.cell? ⟨wr.heap.size, 1, none⟩ = some (.string (bs op)) ∧ w'.cell? ⟨wr.heap.size, 2, none⟩ = some (.string (bs ot)) ∧ w'.cell? ⟨wr.heap.size, 3, none⟩ = some (.slice oa od.length oc))
     (first | go_keep | exact HC1.out | exact HC2.out | exact HC3.out | exact HC4.out | exact HC5.out)
     (first
      | (go_at_call 124; refine (rec_num _ _).mono ?_; rintro e wa ⟨a1, c1, rfl, hown1, hxa⟩; have hwx : Ext wr wa := ((Ext.alloc _ _).drew).trans hxa; have H1 := Lib.hid hown1; clear hown1; have HC1 := Lib.hid (And.intro (hxa.cell n0) (And.intro (hxa.cell n1) (And.intro (hxa.cell n2) (hxa.cell n3)))))
      | (go_at_call_of 125 (Value.string (bs op)); refine (textR op hp1 _).mono ?_; rintro e wb ⟨b2, c2, rfl, hown2, hxb⟩; have H2 := Lib.hid hown2; clear hown2; have HC2 := Lib.hid (And.intro (hxb.cell HC1.out.1) (And.intro (hxb.cell HC1.out.2.1) (And.intro (hxb.cell HC1.out.2.2.1) (hxb.cell HC1.out.2.2.2)))))
      | (go_at_call_of 125 (Value.string (bs ot)); refine (textR ot hp2 _).mono ?_; rintro e wc ⟨b3, c3, rfl, hown3, hxc⟩; have H3 := Lib.hid hown3; clear hown3; have HC3 := Lib.hid (And.intro (hxc.cell HC2.out.1) (And.intro (hxc.cell HC2.out.2.1) (And.intro (hxc.cell HC2.out.2.2.1) (hxc.cell HC2.out.2.2.2)))))
      | (go_at_call 126; refine (rec_raw _ _ od _ (HBY.out.ext (hwx.trans (hxb.trans hxc))) hp3).mono ?_; rintro e wd ⟨b4, c4, rfl, hown4, hxd⟩; have hwy : Ext wr wd := hwx.trans (hxb.trans (hxc.trans hxd)); have hps := part_four hown.out ((Ext.alloc _ _).drew) H1.out hxa H2.out hxb H3.out hxc hown4 hxd; have HPS := Lib.hid hps; clear hps; have HC4 := Lib.hid (And.intro (hxd.cell HC3.out.1) (And.intro (hxd.cell HC3.out.2.1) (And.intro (hxd.cell HC3.out.2.2.1) (hxd.cell HC3.out.2.2.2)))))
      | (refine step_append_parts (by rfl) _ _ (by rfl) w.heap.size a2 cap D (by rfl) ((hown.out.ext hwy).ext (Ext.alloc _ _)) [.slice a1 (numI ok).length c1, .slice b2 (raw4 op).length c2, .slice b3 (raw4 ot).length c3, .slice b4 (raw4 od).length c4] [numI ok, raw4 op, raw4 ot, raw4 od] wd.heap.size 4 (by rfl) (by rfl) (heap_alloc_new wd _) (HPS.out.keep (Keep.of_ext (Ext.alloc _ _))) (by omega) (by omega) ?_ ?_; (have hs3 := hwy.size; simp; omega); intro g1 cap1 we hown5 hk5 hb5; have HC5 := Lib.hid (And.intro (hk5.cell (hown.out.old (Nat.le_refl _) _ (Nat.le_refl _)) ((Ext.alloc wd _).cell HC4.out.1)) (And.intro (hk5.cell (hown.out.old (Nat.le_refl _) _ (Nat.le_refl _)) ((Ext.alloc wd _).cell HC4.out.2.1)) (And.intro (hk5.cell (hown.out.old (Nat.le_refl _) _ (Nat.le_refl _)) ((Ext.alloc wd _).cell HC4.out.2.2.1)) (hk5.cell (hown.out.old (Nat.le_refl _) _ (Nat.le_refl _)) ((Ext.alloc wd _).cell HC4.out.2.2.2)))))))
    go_wp2_with fail
    go_roundw
    case rel => exact ⟨D ++ [numI ok, raw4 op, raw4 ot, raw4 od], some ⟨g1, 0, none⟩, cap1, k + 1, by simp, by go_num, by omega, Lib.hid (by rw [hD.out, HTK.out]), Lib.hid hown5, ext_below rfl hext (hwy.trans (Ext.alloc wd _)) hb5⟩
    case measure => simp [intOf]; omega
  · have hkk : k = L.length := by have := HN.out; omega
    have hD2 := hD.out
    rw [hkk, List.take_of_length_le (by rw [List.length_map]; exact Nat.le_refl _)] at hD2
    have HD := Lib.hid hD2; clear hD2 hkk hD
    have hpp := hown.out.parts
    have hfl : D.flatten = packOps (L.map Prod.fst) := by rw [HD.out, opP_flat]
    have hpk := fun W hx => rec_pack a2 cap D W (hpp.ext hx) (by rw [hfl]; have := HB.out; omega) (by rw [HD.out, opP_len, List.length_map]; have := HN.out; omega)
    have HPK := Lib.hid hpk; clear hpk hpp
    have HFL := Lib.hid hfl; clear hfl
    have HEXT := Lib.hid hext; clear hext hown
    go_wp2_with (go_at_call 127; refine (HPK.out _ (Ext.refl _)).mono ?_; rintro E w2 ⟨a3, c3, rfl, ho, hx⟩; have HO := Lib.hid ho; have HX := Lib.hid hx; clear ho hx)
    rw [HR.out]
    unfold PackR
    rw [← HFL.out]
    exact ⟨a3, c3, by rw [List.length_flatten]; rfl, HO.out.base hsz, HEXT.out.trans HX.out⟩
end Go.Proofs.YtefpllpichhojaaGreatDoor
