/- What base.Unpack's walk needs: its readers on a base's own rows; parts of a base. -/
import Derived.Test.YtnclibfhbngkjaaGreatDoorBaseWith
import Derived.Test.YtnclibfhbngkjaaGreatDoorRecRaw
import Derived.Test.YtnclibfhbngkjaaGreatDoorArcOne
import Derived.Test.YtnclibfhbngkjaaGreatDoorOrdersK
import Derived.Test.YtnclibfhbngkjaaGreatDoorBaseOf
import Derived.Test.YtnclibfhbngkjaaGreatDoorArcEach
import Derived.Deep.LoopGhost
namespace Go.Proofs.YtnclibfhbngkjaaGreatDoor
open Go.RowKit
/-- The packages of some names. -/
def partF (f : BaseF) (L : List By) : BaseF := fun x => if x ∈ L then f x else none
theorem partF_nil (f : BaseF) : partF f [] = noneF := by funext x; simp [partF, noneF]
theorem partF_step {f : BaseF} {ss : List By} {k : Nat} {x : By} {e : PkgD} (hk : k < ss.length) (hx : x = ss.getD k []) (he : f x = some e) (hn : e.name = x) : withF (partF f (ss.take k)) e = partF f (ss.take (k + 1)) := by
  have e1 : ss[k] = x := by rw [hx]; simp [List.getD_eq_getElem?_getD, List.getElem?_eq_getElem hk]
  funext z
  unfold withF partF
  rw [List.take_succ_eq_append_getElem hk, e1, hn]
  by_cases hz : z = x
  · subst hz; simp [he]
  · simp [hz]
theorem partF_all {f : BaseF} {ss : List By} (h : NamesF f ss) : partF f ss = f := by
  funext z
  unfold partF
  by_cases hz : z ∈ ss
  · rw [if_pos hz]
  · rw [if_neg hz]
    cases hf : f z with
    | none => rfl
    | some e => exact absurd ((h.2.2 z).2 (by rw [hf]; rfl)) hz
/-- The readers' and the package's blocks are none of those in which bytes lie. -/
def SB (base P Q0 Q1 Q2 Q3 Q4 : Nat) (k : Nat) : Prop := k < base ∧ k ≠ P ∧ k ≠ Q0 ∧ k ≠ Q1 ∧ k ≠ Q2 ∧ k ≠ Q3 ∧ k ≠ Q4
section
variable {S : Nat → Prop} {R : Nat} {W : World}
theorem rdE_text {most : Nat} {p rest : By} (h : Rd S W R (raw4 p ++ rest, false)) (hp : p.length ≤ most) (hm : most ≤ 300) (hr : rest.length ≤ 100000) :
    Calls Tryz.prog 47 #[.pointer (some ⟨R, 0, none⟩), .int .i64 (most : Int)] W (RdR S R W (.string (bs p)) (rest, false)) := by
  have := rd_text S R most _ W h (by simp [raw4_len]; omega) (by omega)
  rw [rRaw_back hp (by omega)] at this
  exact this
theorem rdE_way {n : Int} {rest : By} (h : Rd S W R (numI n ++ rest, false)) (hn : 0 ≤ n ∧ n ≤ 9) (hr : rest.length ≤ 100000) :
    Calls Tryz.prog 50 #[.pointer (some ⟨R, 0, none⟩), .int .i64 9] W (RdR S R W (.int .i64 n) (rest, false)) := by
  have hu : u32 n = n.toNat := by unfold u32; omega
  have := rd_num S R 9 _ W h (by simp [numI, num4_len]; omega) (by omega)
  unfold numI at this
  rw [rNum_back (by rw [hu]; omega) (u32_lt _)] at this
  simp only [hu] at this
  rw [show ((n.toNat : Nat) : Int) = n by omega] at this
  exact this
theorem rdE_config {c : Bool} {rest : By} (h : Rd S W R (num4 (boolN c) ++ rest, false)) (hr : rest.length ≤ 100000) :
    Calls Tryz.prog 51 #[.pointer (some ⟨R, 0, none⟩)] W (RdR S R W (.bool c) (rest, false)) := by
  have hb : boolN c ≤ 1 := by unfold boolN; split <;> omega
  have := rd_truth S R _ W h (by simp [num4_len]; omega)
  rw [rNum_back hb (by omega)] at this
  simp only at this
  rw [show decide (boolN c = 1) = c by cases c <;> rfl] at this
  exact this
theorem rdE_sum {d rest : By} (h : Rd S W R (d ++ rest, false)) (hd : d.length = 4) (hr : rest.length ≤ 100000) :
    Calls Tryz.prog 50 #[.pointer (some ⟨R, 0, none⟩), .int .i64 4294967295] W (RdR S R W (.int .i64 (le32 d : Nat)) (rest, false)) := by
  have hl := le32_lt d
  have := rd_num S R 4294967295 _ W h (by simp; omega) (by omega)
  rw [show d ++ rest = num4 (le32 d) ++ rest by rw [num4_le hd], rNum_back (by omega) hl] at this
  exact this
theorem rdE_list {p rest : By} (h : Rd S W R (raw4 p ++ rest, false)) (hp : p.length ≤ 100000) (hr : rest.length ≤ 100000) :
    Calls Tryz.prog 48 #[.pointer (some ⟨R, 0, none⟩)] W fun e w' => ∃ Q, e = .returned (.pointer (some ⟨Q, 0, none⟩)) ∧ W.heap.size ≤ Q ∧ Rd S w' R (rest, false) ∧ Rd (fun k => W.heap.size ≤ k ∧ k < Q) w' Q (p, false) ∧ But R W w' := by
  have := rd_list S R _ W h (by simp [raw4_len]; omega)
  rw [rList_back (by omega)] at this
  exact this
end
theorem needR_way {n : NeedD} (h : needR n = true) : (0 ≤ n.way ∧ n.way ≤ 9) ∧ n.name.length ≤ 60 ∧ n.ver.length ≤ 60 := by
  unfold needR at h
  simp only [Bool.and_eq_true, Bool.or_eq_true, decide_eq_true_eq] at h
  have h12 := nameL_12 h.1
  refine ⟨by rcases h.2 with h | h <;> omega, by omega, ?_⟩
  rcases h.2 with e | e
  · rw [e.2]; simp
  · have := verR_30 e.2; omega
theorem flat_drop {α : Type} {enc : α → By} {L : List α} {j : Nat} {z : α} (hj : j < L.length) : (L.drop j).flatMap enc = enc (L.getD j z) ++ (L.drop (j + 1)).flatMap enc := by
  rw [List.drop_eq_getElem_cons hj, List.flatMap_cons]
  simp [List.getD_eq_getElem?_getD, List.getElem?_eq_getElem hj]
theorem flat_drop_len {α : Type} (enc : α → By) (L : List α) (j : Nat) : ((L.drop j).flatMap enc).length ≤ (L.flatMap enc).length := by
  conv => rhs; rw [← List.take_append_drop j L]
  rw [List.flatMap_append, List.length_append]
  omega
theorem take_snocU {α : Type} {V : α → List Value} {L : List α} {j : Nat} {z : α} (hj : j < L.length) : (L.take (j + 1)).flatMap V = (L.take j).flatMap V ++ V (L.getD j z) := by
  rw [List.take_succ_eq_append_getElem hj, List.flatMap_append]
  simp [List.getD_eq_getElem?_getD, List.getElem?_eq_getElem hj]
theorem strV1_text (L : List By) : L.flatMap strV1 = textV L := by
  unfold textV strV1
  induction L with
  | nil => rfl
  | cons x L ih => rw [List.flatMap_cons, List.map_cons, ih]; rfl
theorem ent_one {w : World} {V : Nat} {p : PkgD} {A : PkgA} (h : w.heap[V]? = some (.cells #[.string (bs p.name), .string (bs p.ver), .slice A.an p.needs.length A.cn, .slice A.ac p.conf.length A.cc, .slice A.af p.files.length A.cf, .slice A.au p.units.length A.cu] 37 (0, 0))) (hm : EntM w p A) (hc : PkgC p A) : EntsL w (some ⟨V, 0, none⟩) [(p, A)] := by
  refine Or.inr ⟨V, 0, rfl, (Array.getElem?_eq_some_iff.1 h).1, fun i hi => ?_⟩
  have : i = 0 := by simpa using hi
  subst this
  exact ⟨⟨blk_cell h 0 _ rfl, blk_cell h 1 _ rfl, blk_cell h 2 _ rfl, blk_cell h 3 _ rfl, blk_cell h 4 _ rfl, blk_cell h 5 _ rfl⟩, hm, hc⟩
theorem new_u (w : World) : Calls Tryz.prog 13 #[.slice none 0 0] w fun e w' => (∃ b A, e = .returned (.agg #[.map (some b)]) ∧ EntsM w' b 0 noneF A) ∧ Ext w w' := by
  refine (base_new none 0 [] w (Or.inl rfl) (by simp) (by simp)).mono ?_
  rintro e w' ⟨b, A, he, _, hm, hx⟩
  exact ⟨⟨b, A, he, hm⟩, hx⟩
/-- What Unpack answers of a base's own rows. -/
def UnpackR (N : Nat) (f : BaseF) (w : World) (e : Ending) (w' : World) : Prop := (∃ b A, e = .returned (.tuple #[.agg #[.map (some b)], .int .i64 0]) ∧ EntsM w' b N f A) ∧ Ext w w'
end Go.Proofs.YtnclibfhbngkjaaGreatDoor
