/- The document's tree in memory: entries and files as cells one behind the other. -/
import Derived.Test.YtldgpcmnmegioaaGreatDoorM5
import Derived.Test.YtldgpcmnmegioaaGreatDoorTreeDo
namespace Go.Proofs.YtldgpcmnmegioaaGreatDoor
open Go.RowKit
/-- An entry's cells. -/
def entV (e : EntD) : List Value := [.string (bs e.path), .int .i64 e.id, .bool e.dir]
/-- A file's cells. -/
def filV (x : FilD × OpA) : List Value := [.int .i64 x.1.id, .slice x.2.oa x.1.data.length x.2.oc]
def ez06 : EntD := ⟨[], 0, false⟩
def fz06 : FilD × OpA := (⟨0, []⟩, ⟨none, 0⟩)
def EntsR (w : World) (a : Option Addr) (L : List EntD) : Prop := RunM w a (L.flatMap entV)
structure FilsR (w : World) (a : Option Addr) (F : List (FilD × OpA)) : Prop where
  run : RunM w a (F.flatMap filV)
  dat : ∀ x ∈ F, DataM w x.2.oa x.1.data ∧ x.1.data.length ≤ x.2.oc ∧ x.1.data.length ≤ 3500
theorem DataM.ext {w w' : World} {a : Option Addr} {l : By} (h : DataM w a l) (k : Ext w w') : DataM w' a l :=
  h.keep (Keep.of_ext (S := fun _ => True) k) (datas_all w)
theorem FilsR.ext {w w' : World} {a : Option Addr} {F : List (FilD × OpA)} (h : FilsR w a F) (k : Ext w w') : FilsR w' a F :=
  ⟨h.run.ext k, fun x hx => ⟨(h.dat x hx).1.ext k, (h.dat x hx).2⟩⟩
theorem EntsR.ext {w w' : World} {a : Option Addr} {L : List EntD} (h : EntsR w a L) (k : Ext w w') : EntsR w' a L := RunM.ext h k
theorem EntsR.at {w : World} {a : Option Addr} {L : List EntD} (h : EntsR w a L) {i : Nat} (hi : i < L.length) :
    ∃ g off, a = some ⟨g, off, none⟩ ∧ g < w.heap.size ∧ w.cell? ⟨g, off + i * 3, none⟩ = some (.string (bs (L.getD i ez06).path)) ∧ w.cell? ⟨g, off + i * 3 + 1, none⟩ = some (.int .i64 (L.getD i ez06).id) ∧ w.cell? ⟨g, off + i * 3 + 2, none⟩ = some (.bool (L.getD i ez06).dir) := by
  have e : L.getD i ez06 = L[i] := by simp [List.getD_eq_getElem?_getD, List.getElem?_eq_getElem hi]
  rw [e]
  rcases of_runM (m := 3) (fun _ => rfl) (by omega) h with h | ⟨g, off, ha, hg, hc⟩
  · rw [h] at hi; simp at hi
  · exact ⟨g, off, ha, hg, hc i hi 0 _ (by omega) rfl, hc i hi 1 _ (by omega) rfl, hc i hi 2 _ (by omega) rfl⟩
theorem FilsR.at {w : World} {a : Option Addr} {F : List (FilD × OpA)} (h : FilsR w a F) {i : Nat} (hi : i < F.length) :
    ∃ g off, a = some ⟨g, off, none⟩ ∧ g < w.heap.size ∧ w.cell? ⟨g, off + i * 2, none⟩ = some (.int .i64 (F.getD i fz06).1.id) ∧ w.cell? ⟨g, off + i * 2 + 1, none⟩ = some (.slice (F.getD i fz06).2.oa (F.getD i fz06).1.data.length (F.getD i fz06).2.oc) := by
  have e : F.getD i fz06 = F[i] := by simp [List.getD_eq_getElem?_getD, List.getElem?_eq_getElem hi]
  rw [e]
  rcases of_runM (m := 2) (fun _ => rfl) (by omega) h.run with h | ⟨g, off, ha, hg, hc⟩
  · rw [h] at hi; simp at hi
  · exact ⟨g, off, ha, hg, hc i hi 0 _ (by omega) rfl, hc i hi 1 _ (by omega) rfl⟩
theorem getD_mem {α : Type} {L : List α} {i : Nat} (hi : i < L.length) (z : α) : L.getD i z ∈ L := by
  have e : L.getD i z = L[i] := by simp [List.getD_eq_getElem?_getD, List.getElem?_eq_getElem hi]
  rw [e]; exact List.getElem_mem hi
theorem take_getD {α : Type} {L : List α} {i : Nat} (hi : i < L.length) (z : α) : L.take (i + 1) = L.take i ++ [L.getD i z] := by
  rw [List.take_succ_eq_append_getElem hi]
  simp [List.getD_eq_getElem?_getD, List.getElem?_eq_getElem hi]
theorem entV_one (L : List EntD) : ∀ u ∈ L.flatMap entV, u.oneCell' = true := by
  intro u hu
  obtain ⟨x, _, hx⟩ := List.mem_flatMap.1 hu
  simp only [entV, List.mem_cons, List.not_mem_nil, or_false] at hx
  rcases hx with rfl | rfl | rfl <;> rfl
theorem filV_one (L : List (FilD × OpA)) : ∀ u ∈ L.flatMap filV, u.oneCell' = true := by
  intro u hu
  obtain ⟨x, _, hx⟩ := List.mem_flatMap.1 hu
  simp only [filV, List.mem_cons, List.not_mem_nil, or_false] at hx
  rcases hx with rfl | rfl <;> rfl
/-- Where the document's tree lies. -/
structure RefA where
  la : Option Addr
  lc : Nat
  fa : Option Addr
  fc : Nat
  F : List (FilD × OpA)
structure RefM (w : World) (m : RefD) (A : RefA) : Prop where
  ents : EntsR w A.la m.list
  elen : m.list.length ≤ A.lc
  fils : FilsR w A.fa A.F
  flen : m.files.length ≤ A.fc
  fmap : A.F.map Prod.fst = m.files
theorem RefM.ext {w w' : World} {m : RefD} {A : RefA} (h : RefM w m A) (k : Ext w w') : RefM w' m A :=
  ⟨h.ents.ext k, h.elen, h.fils.ext k, h.flen, h.fmap⟩
def refV (m : RefD) (A : RefA) : Value := .agg #[.slice A.la m.list.length A.lc, .slice A.fa m.files.length A.fc, .int .i64 m.next, .int .i64 m.quota]
theorem RefM.flen' {w : World} {m : RefD} {A : RefA} (h : RefM w m A) : A.F.length = m.files.length := by rw [← h.fmap, List.length_map]
theorem RefM.file {w : World} {m : RefD} {A : RefA} (h : RefM w m A) {i : Nat} (hi : i < A.F.length) : (A.F.getD i fz06).1 = m.files.getD i ⟨0, []⟩ := by
  have := h.flen'
  rw [← h.fmap]
  simp [List.getD_eq_getElem?_getD, List.getElem?_eq_getElem hi]
end Go.Proofs.YtldgpcmnmegioaaGreatDoor
