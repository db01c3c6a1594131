/- arc.pack: a package's bytes. -/
import Derived.Test.YtnclibfhbngkjaaGreatDoorArcRight
import Derived.Test.YtnclibfhbngkjaaGreatDoorParts
namespace Go.Proofs.YtnclibfhbngkjaaGreatDoor
open Go.RowKit
attribute [local go_sem ↓] Go.wp_at_zero Go.wp_at_succ
theorem text_raw (l : By) (hl : l.length ≤ 16777216) (w : World) : Calls Tryz.prog 77 #[.string (bs l)] w (PackR (raw4 l) w) := by
  have h := rec_text (bs l) (by rw [bs_size]; exact hl) w
  rwa [bs_data] at h
theorem part_three {wr w0 w1 w2 w3 : World} {base : Nat} {a : Option Addr} {cap : Nat} {D : List By} {p q r : Option Addr} {c d e : Nat} {l m n : By} (hown : OwnP wr base a cap D) (hx0 : Ext wr w0) (h1 : OwnB w1 w0.heap.size p c l) (hx1 : Ext w0 w1) (h2 : OwnB w2 w1.heap.size q d m) (hx2 : Ext w1 w2) (h3 : OwnB w3 w2.heap.size r e n) (hx3 : Ext w2 w3) :
    PartsS (fun k => some k ≠ (Value.slice a D.length cap).ownBlock) w3 [.slice p l.length c, .slice q m.length d, .slice r n.length e] [l, m, n] :=
  PartsS.cons ((part_new hown hx0 h1).keep (Keep.of_ext (hx2.trans hx3))) (PartsS.cons ((part_new hown (hx0.trans hx1) h2).keep (Keep.of_ext hx3)) (PartsS.one (part_new hown (hx0.trans (hx1.trans hx2)) h3)))
def needP (n : NeedD) : List By := [raw4 n.name, numI n.way, raw4 n.ver]
def fileP (f : FileD) : List By := [raw4 f.path, numI ((boolN f.config : Nat) : Int), raw4 f.data]
theorem need_take {L : List NeedD} {k : Nat} (h : k < L.length) : (L.take (k + 1)).flatMap needP = (L.take k).flatMap needP ++ needP (L.getD k nz) := by
  rw [List.take_succ_eq_append_getElem h, List.flatMap_append]
  simp [List.getD_eq_getElem?_getD, List.getElem?_eq_getElem h]
theorem file_take {L : List FileD} {k : Nat} (h : k < L.length) : (L.take (k + 1)).flatMap fileP = (L.take k).flatMap fileP ++ fileP (L.getD k fz) := by
  rw [List.take_succ_eq_append_getElem h, List.flatMap_append]
  simp [List.getD_eq_getElem?_getD, List.getElem?_eq_getElem h]
theorem raw_take {L : List By} {k : Nat} (h : k < L.length) : (L.take (k + 1)).map raw4 = (L.take k).map raw4 ++ [raw4 (L.getD k [])] := by
  rw [List.take_succ_eq_append_getElem h, List.map_append]
  simp [List.getD_eq_getElem?_getD, List.getElem?_eq_getElem h]
theorem flat_needs (L : List NeedD) : (L.flatMap needP).flatten = L.flatMap needB := by
  induction L with
  | nil => rfl
  | cons m ms ih => simp only [List.flatMap_cons, List.flatten_append, ih]; simp [needP, needB]
theorem flat_files (L : List FileD) : (L.flatMap fileP).flatten = L.flatMap fileB := by
  induction L with
  | nil => rfl
  | cons m ms ih =>
    have hb : u32 ((boolN m.config : Nat) : Int) = boolN m.config := u32_of (by unfold boolN; split <;> omega)
    simp only [List.flatMap_cons, List.flatten_append, ih]; simp [fileP, fileB, numI, hb]
theorem flat_raws (cs : List By) : (cs.map raw4).flatten = cs.flatMap raw4 := (List.flatMap_def ..).symm
theorem needP_len (L : List NeedD) : (L.flatMap needP).length = 3 * L.length := by
  induction L with
  | nil => rfl
  | cons m ms ih => simp only [List.flatMap_cons, List.length_append, ih, List.length_cons, needP, List.length_nil]; omega
theorem fileP_len (L : List FileD) : (L.flatMap fileP).length = 3 * L.length := by
  induction L with
  | nil => rfl
  | cons m ms ih => simp only [List.flatMap_cons, List.length_append, ih, List.length_cons, fileP, List.length_nil]; omega
theorem getD_memN {L : List NeedD} {i : Nat} (h : i < L.length) : L.getD i nz ∈ L := by rw [List.getD_eq_getElem?_getD, List.getElem?_eq_getElem h]; simp
theorem getD_memF {L : List FileD} {i : Nat} (h : i < L.length) : L.getD i fz ∈ L := by rw [List.getD_eq_getElem?_getD, List.getElem?_eq_getElem h]; simp
theorem getD_memB {L : List By} {i : Nat} (h : i < L.length) : L.getD i [] ∈ L := by rw [List.getD_eq_getElem?_getD, List.getElem?_eq_getElem h]; simp
/-- How many bytes a small package has. -/
theorem small_lens {p : PkgD} (h : FitP p) : (packP p).length ≤ 100000 ∧ (p.needs.flatMap needB).length ≤ 100000 ∧ (p.conf.flatMap raw4).length ≤ 100000 ∧ (p.files.flatMap fileB).length ≤ 100000 ∧ (p.units.flatMap raw4).length ≤ 100000 := by
  have := packP_size p
  have := h.pack
  omega
theorem parts_six {w : World} {p1 p2 p3 p4 p5 p6 : Option Addr} {q1 q2 q3 q4 q5 q6 : Nat} {l1 l2 l3 l4 l5 l6 : By} (b1 : Bytes w p1 l1) (b2 : Bytes w p2 l2) (b3 : Bytes w p3 l3) (b4 : Bytes w p4 l4) (b5 : Bytes w p5 l5) (b6 : Bytes w p6 l6) :
    Parts (w.alloc (.cells #[.slice p1 l1.length q1, .slice p2 l2.length q2, .slice p3 l3.length q3, .slice p4 l4.length q4, .slice p5 l5.length q5, .slice p6 l6.length q6] 133)) (some ⟨w.heap.size, 0, none⟩) [l1, l2, l3, l4, l5, l6] :=
  parts_lit (us := [.slice p1 l1.length q1, .slice p2 l2.length q2, .slice p3 l3.length q3, .slice p4 l4.length q4, .slice p5 l5.length q5, .slice p6 l6.length q6]) (PartsS.cons b1.row (PartsS.cons b2.row (PartsS.cons b3.row (PartsS.cons b4.row (PartsS.cons b5.row (PartsS.one b6.row))))))

































































































































































































































end Go.Proofs.YtnclibfhbngkjaaGreatDoor
