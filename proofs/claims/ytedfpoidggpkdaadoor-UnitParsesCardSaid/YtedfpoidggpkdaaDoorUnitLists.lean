/- (*unit.Unit).lists: where a unit's lists lie, by their words. -/
import Derived.Test.YtedfpoidggpkdaaDoorMaps
import Derived.Test.YtedfpoidggpkdaaDoorUnitSpec
import Derived.Deep.RegionLaw
import Derived.Outline
namespace Go.Proofs.YtedfpoidggpkdaaDoor
open Go.RowKit Go.ChangeMaps
/-- A block is a map whose keys are keys. -/
def KeysOk (k : TypeId) (b : Nat) (w : World) : Prop := ∃ es clock, w.heap[b]? = some (.map es clock) ∧ ∀ e ∈ es.toList, ∃ l, keyOf Tryd.prog k e.key = some l
theorem raw_update {k t e : TypeId} {b : Nat} {w : World} (K : Maps.Keyed Tryd.prog k) (ht : Tryd.prog.underlying t = some (.map k e)) (h : KeysOk k b w) {key v : Value} {kl : Lit} (hkey : keyOf Tryd.prog k key = some kl) :
    ∃ w', (Instr.mapUpdate t (.map (some b)) key v).run Tryd.prog w = .ok () w' ∧ KeysOk k b w' := by
  obtain ⟨es, clock, hb, hk⟩ := h
  rcases K.find w hkey es.toList hk with ⟨h1, h2⟩ | ⟨j, e0, h1, h2, h3⟩
  · refine ⟨setBlock w b (.map (es.push ⟨key, v, clock⟩) (clock + 1)), ?_, _, _, heap_setBlock_same hb _, ?_⟩
    · simp [Instr.mapUpdate, run_underlying ht, MapKept.run_getObj_map hb, K.check w false hkey, h1, MapKept.run_setObj_map _ hb, Result.andThen, setBlock]
    · intro x hx
      simp only [Array.toList_push, List.mem_append, List.mem_singleton] at hx
      rcases hx with hx | rfl
      · exact hk x hx
      · exact ⟨_, hkey⟩
  · have hj : es[j]? = some e0 := by simpa using h2
    refine ⟨setBlock w b (.map (es.modify j (fun e' => { e' with key := key, val := v })) clock), ?_, _, _, heap_setBlock_same hb _, ?_⟩
    · simp [Instr.mapUpdate, run_underlying ht, MapKept.run_getObj_map hb, K.check w false hkey, h1, hj, h3, K.stays w hkey, MapKept.run_setObj_map _ hb, Result.andThen, setBlock]
    · intro x hx
      rw [Array.toList_modify, modify_eq_set _ _ _ _ h2] at hx
      obtain ⟨i, hi, ex⟩ := List.getElem_of_mem hx
      rw [List.getElem_set] at ex
      split at ex
      · rw [← ex]; exact ⟨_, hkey⟩
      · rw [← ex]; exact hk _ (List.getElem_mem _)
/-- The world behind an insertion. -/
noncomputable def insW (t : TypeId) (b : Nat) (key v : Value) (w : World) : World := match (Instr.mapUpdate t (.map (some b)) key v).run Tryd.prog w with
  | .ok _ w' => w'
  | _ => w
theorem ins_raw {k t e : TypeId} {b : Nat} {w : World} (K : Maps.Keyed Tryd.prog k) (ht : Tryd.prog.underlying t = some (.map k e)) (h : KeysOk k b w) {key v : Value} {kl : Lit} (hkey : keyOf Tryd.prog k key = some kl) :
    (Instr.mapUpdate t (.map (some b)) key v).run Tryd.prog w = .ok () (insW t b key v w) ∧ KeysOk k b (insW t b key v w) := by
  obtain ⟨w', h1, h2⟩ := raw_update K ht h hkey (v := v)
  have e : insW t b key v w = w' := by unfold insW; rw [h1]
  rw [e]; exact ⟨h1, h2⟩
theorem ins_map {α : Type} [DecidableEq α] {c : α → Lit} {k t e : TypeId} {b n : Nat} {w : World} {f : α → Option Value} (h : MapF c w k b n f) (K : Maps.Keyed Tryd.prog k) (ht : Tryd.prog.underlying t = some (.map k e)) (hn : n < maxLen) (hc : ∀ x y, c x = c y → x = y) {key v : Value} {kl : α} (hkey : keyOf Tryd.prog k key = some (c kl)) :
    MapF c (insW t b key v w) k b (n + 1) (fun x => if x = kl then some v else f x) ∧ Keep (· ≠ b) w (insW t b key v w) := by
  obtain ⟨w', h1, h2, h3⟩ := h.store K ht hn hc v hkey
  have e : insW t b key v w = w' := by unfold insW; rw [h1]
  rw [e]; exact ⟨h2, h3⟩
/-- What the map has at a word. -/
def listsF (B : Nat) (w : Bs) : Option Value := if wordN w = 0 then none else some (.pointer (some ⟨B, wordN w, none⟩))
theorem lit_str_inj (x y : Bs) (h : Lit.string x = Lit.string y) : x = y := Lit.string.inj h
/-- Words laid one by one, the last one ahead. -/
noncomputable def layW (B b : Nat) (w : World) : List Nat → World
  | [] => w
  | j :: l => insW 101 b (.string (bs (wordOf j))) (.pointer (some ⟨B, j, none⟩)) (layW B b w l)
def layF (B : Nat) (l : List Nat) : Bs → Option Value := fun x => if wordN x ∈ l then some (.pointer (some ⟨B, wordN x, none⟩)) else none
theorem wordN_of (j : Nat) (h : 2 ≤ j ∧ j ≤ 6) : wordN (wordOf j) = j ∧ (bs (wordOf j)).size ≤ 10 := by
  have : j = 2 ∨ j = 3 ∨ j = 4 ∨ j = 5 ∨ j = 6 := by omega
  rcases this with rfl | rfl | rfl | rfl | rfl <;> exact ⟨by decide, by decide⟩
theorem wordOf_N (x : Bs) (h : wordN x ≠ 0) : wordOf (wordN x) = x := by
  unfold wordN at h ⊢
  split
  · rename_i e; rw [e]; rfl
  · split
    · rename_i e; rw [e]; rfl
    · split
      · rename_i e; rw [e]; rfl
      · split
        · rename_i e; rw [e]; rfl
        · split
          · rename_i e; rw [e]; rfl
          · rename_i h1 h2 h3 h4 h5
            simp [h1, h2, h3, h4, h5] at h
theorem lay_map {B b : Nat} {w : World} (h : MapF Lit.string w 9 b 0 (fun _ => none)) : ∀ (l : List Nat), (∀ j ∈ l, 2 ≤ j ∧ j ≤ 6) → l.length ≤ 10 → MapF Lit.string (layW B b w l) 9 b l.length (layF B l) ∧ Keep (· ≠ b) w (layW B b w l)
  | [], _, _ => ⟨h.same (by funext x; simp [layF]), Keep.refl _ _⟩
  | j :: l, hl, hn => by
    obtain ⟨h1, h2⟩ := lay_map h l (fun i hi => hl i (by simp [hi])) (by simp at hn; omega)
    obtain ⟨h3, h4⟩ := wordN_of j (hl j (by simp))
    have hk := key_str (bs (wordOf j)) (by unfold maxLen; omega)
    rw [bs_data] at hk
    obtain ⟨g1, g2⟩ := ins_map h1 str_keyed Tryd.underlying101 (by simp at hn; unfold maxLen; omega) lit_str_inj (v := .pointer (some ⟨B, j, none⟩)) hk
    refine ⟨g1.same ?_, h2.trans g2⟩
    funext x
    simp only [layF, List.mem_cons]
    by_cases hx : x = wordOf j
    · subst hx
      simp [h3]
    · have : wordN x ≠ j := by
        intro e
        apply hx
        rw [← e]
        exact (wordOf_N x (by rw [e]; have := (hl j (by simp)).1; omega)).symm
      simp [hx, this]
theorem lay_keys {B b : Nat} {w : World} (h : KeysOk 9 b w) : ∀ (l : List Nat), KeysOk 9 b (layW B b w l)
  | [] => h
  | j :: l => by
    have hk := key_str (bs (wordOf j)) (by
      have : (bs (wordOf j)).size ≤ 10 := by unfold wordOf; split <;> decide
      unfold maxLen; omega)
    exact (ins_raw str_keyed Tryd.underlying101 (lay_keys h l) hk).2
theorem lay_run {B b : Nat} {w : World} (h : KeysOk 9 b w) (l : List Nat) (j : Nat) :
    (Instr.mapUpdate 101 (.map (some b)) (.string (bs (wordOf j))) (.pointer (some ⟨B, j, none⟩))).run Tryd.prog (layW B b w l) = .ok () (layW B b w (j :: l)) := by
  have hk := key_str (bs (wordOf j)) (by
    have : (bs (wordOf j)).size ≤ 10 := by unfold wordOf; split <;> decide
    unfold maxLen; omega)
  exact (ins_raw str_keyed Tryd.underlying101 (lay_keys h l) hk).1
def okL (l : List Nat) : Bool := (l.all fun j => decide (2 ≤ j ∧ j ≤ 6)) && (decide (l.length = 5) && [2, 3, 4, 5, 6].all fun j => l.contains j)
theorem okL_spec {l : List Nat} (h : okL l = true) : (∀ j ∈ l, 2 ≤ j ∧ j ≤ 6) ∧ l.length = 5 ∧ ∀ j, 2 ≤ j → j ≤ 6 → j ∈ l := by
  unfold okL at h
  simp only [Bool.and_eq_true, decide_eq_true_eq] at h
  obtain ⟨h1, h2, h3⟩ := h
  refine ⟨fun j hj => by simpa using (List.all_eq_true.1 h1) j hj, h2, fun j a b => ?_⟩
  have hj : j ∈ [2, 3, 4, 5, 6] := by
    have : j = 2 ∨ j = 3 ∨ j = 4 ∨ j = 5 ∨ j = 6 := by omega
    rcases this with rfl | rfl | rfl | rfl | rfl <;> simp
  simpa using (List.all_eq_true.1 h3) j hj
set_option maxRecDepth 100000 in
set_option maxHeartbeats 64000000 in
theorem unit_lists (B : Nat) (w : World) :
    Calls Tryd.prog 71 #[.pointer (some ⟨B, 0, none⟩)] w fun e w' => ∃ M, e = .returned (.map (some M)) ∧ MapF Lit.string w' 9 M 5 (listsF B) ∧ Ext w w' := by
  have hmm := @run_makeMap Tryd.prog
  have k0 : KeysOk 9 w.heap.size ((w.alloc (.map #[] 0)).drew) := ⟨#[], 0, (MapKept.heap_alloc w _).1, fun e he => by simp at he⟩
  have m0 := (MapF.made Lit.string w 9).ext ((Ext.refl _).drew)
  obtain ⟨mw, hmw⟩ : ∃ mw : List Nat → World, mw = layW B w.heap.size ((w.alloc (.map #[] 0)).drew) := ⟨_, rfl⟩
  have r := fun j l => lay_run (B := B) k0 l j
  have fin : ∀ l : List Nat, okL l = true → MapF Lit.string (mw l) 9 w.heap.size 5 (listsF B) ∧ Ext w (mw l) := by
    intro l hok
    obtain ⟨h1, h2, h3⟩ := okL_spec hok
    obtain ⟨g1, g2⟩ := lay_map m0 (B := B) l h1 (by omega)
    rw [hmw]
    rw [h2] at g1
    refine ⟨g1.same ?_, ?_⟩
    · funext x
      unfold layF listsF
      by_cases hx : wordN x = 0
      · rw [if_neg (by rw [hx]; intro hm; have := (h1 0 hm).1; omega), if_pos hx]
      · have := wordN_ne1 x
        rw [if_pos (h3 _ (by omega) (wordN_le x)), if_neg hx]
    · have e1 : Ext w ((w.alloc (.map #[] 0)).drew) := (Ext.alloc _ _).drew
      exact ((Keep.of_ext (S := (· < w.heap.size)) e1).trans (g2.mono (fun k _ hk => by have : k < w.heap.size := hk; show k ≠ w.heap.size; omega))).ext_lt
  rw [← hmw] at r
  have h0 : (w.alloc (.map #[] 0)).drew = mw [] := by rw [hmw]; rfl
  have r1 := r 2
  have r2 := r 3
  have r3 := r 4
  have r4 := r 5
  have r5 := r 6
  rw [show bs (wordOf 2) = ⟨#[97, 102, 116, 101, 114]⟩ from rfl] at r1
  rw [show bs (wordOf 3) = ⟨#[98, 101, 102, 111, 114, 101]⟩ from rfl] at r2
  rw [show bs (wordOf 4) = ⟨#[114, 101, 113, 117, 105, 114, 101, 115]⟩ from rfl] at r3
  rw [show bs (wordOf 5) = ⟨#[119, 97, 110, 116, 115]⟩ from rfl] at r4
  rw [show bs (wordOf 6) = ⟨#[112, 97, 114, 116, 111, 102]⟩ from rfl] at r5
  have FIN := Lib.hid fin; clear fin
  clear r k0 m0 hmw
  go_enter Tryd.func71, Tryd.ntmps71
  go_wp2_with fail
  go_region_law (fail)
  all_goals (go_wp2_with fail; go_ret; refine ⟨_, rfl, ?_⟩; exact FIN.out _ (by decide))
end Go.Proofs.YtedfpoidggpkdaaDoor
