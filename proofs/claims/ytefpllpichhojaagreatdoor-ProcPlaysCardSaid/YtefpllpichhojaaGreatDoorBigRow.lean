/- Structs with a whole array in them, built of parts. -/
import Derived.Test.YtefpllpichhojaaGreatDoorM10
import Derived.Laws.Tables
import Derived.Deep.RegionHeld3
namespace Go.Proofs.YtefpllpichhojaaGreatDoor
open Go.RowKit
variable [Low]
omit [Low] in
theorem size_sector : (Tryz.prog.info? 234).map (·.size) = some 64 := by kernel_rfl
omit [Low] in
theorem size_write : (Tryz.prog.info? 257).map (·.size) = some 65 := by kernel_rfl
omit [Low] in
theorem foldl_set : ∀ (l : List Value) (k off : Nat) (cs : Array Value), ((l.zipIdx k).foldl (fun cs (x : Value × Nat) => cs.setIfInBounds (off + x.2) x.1) cs).size = cs.size ∧
 ∀ i, ((l.zipIdx k).foldl (fun cs (x : Value × Nat) => cs.setIfInBounds (off + x.2) x.1) cs)[i]? = if off + k ≤ i ∧ i < off + k + l.length ∧ i < cs.size then l[i - (off + k)]? else cs[i]?
 | [], k, off, cs => ⟨rfl, fun i => by rw [if_neg (by simp only [List.length_nil]; omega)]; rfl⟩
 | v :: l, k, off, cs => by
   rw [List.zipIdx_cons, List.foldl_cons]
   obtain ⟨h1, h2⟩ := foldl_set l (k + 1) off (cs.setIfInBounds (off + k) v)
   refine ⟨by rw [h1, Array.size_setIfInBounds], fun i => ?_⟩
   rw [h2, Array.size_setIfInBounds, List.length_cons]
   by_cases hi : i < cs.size
   · by_cases ha : i = off + k
     · subst ha
       rw [if_neg (by omega), if_pos (by omega), Nat.sub_self]
       simp [hi]
     · by_cases hb : off + k < i ∧ i < off + k + (l.length + 1)
       · rw [if_pos (by omega), if_pos (by omega)]
         have e : i - (off + k) = (i - (off + (k + 1))) + 1 := by omega
         rw [e, List.getElem?_cons_succ]
       · rw [if_neg (by omega), if_neg (by omega), Array.getElem?_setIfInBounds_ne (by omega)]
   · rw [if_neg (by omega), if_neg (by omega), Array.getElem?_eq_none (by simp; omega), Array.getElem?_eq_none (by omega)]
omit [Low] in
theorem fill_part (off : Nat) (V cs : Array Value) (h : off + V.size ≤ cs.size) :
 V.zipIdx.foldl (fun cs (x : Value × Nat) => cs.setIfInBounds (off + x.2) x.1) cs = (cs.toList.take off ++ (V.toList ++ cs.toList.drop (off + V.size))).toArray := by
 have e : V.zipIdx.foldl (fun cs (x : Value × Nat) => cs.setIfInBounds (off + x.2) x.1) cs = (V.toList.zipIdx 0).foldl (fun cs (x : Value × Nat) => cs.setIfInBounds (off + x.2) x.1) cs := by
  rw [← Array.foldl_toList, Array.toList_zipIdx]
 rw [e]
 obtain ⟨h1, h2⟩ := foldl_set V.toList 0 off cs
 apply Array.ext_getElem?
 intro i
 rw [h2, Nat.add_zero, Array.length_toList]
 by_cases ha : i < off
 · rw [if_neg (by omega)]
   simp only [List.getElem?_toArray]
   rw [List.getElem?_append_left (by simp; omega)]
   simp [ha]
 · by_cases hb : i < off + V.size
   · rw [if_pos (by omega)]
     simp only [List.getElem?_toArray]
     rw [List.getElem?_append_right (by simp; omega), List.getElem?_append_left (by simp; omega)]
     congr 1; simp; omega
   · rw [if_neg (by omega)]
     simp only [List.getElem?_toArray]
     rw [List.getElem?_append_right (by simp; omega), List.getElem?_append_right (by simp; omega)]
     simp only [List.length_take, Array.length_toList, List.getElem?_drop, Array.getElem?_toList]
     congr 1; omega
omit [Low] in
theorem fill_cons {place : Nat → Option (Nat × Nat)} {cells : Array Value} {i off size : Nat} {v : Value} {rest : List (Nat × Value)} (hp : place i = some (off, size)) (h1 : v.cells.size = size) (h2 : off + size ≤ cells.size) :
 Instr.fill place cells ((i, v) :: rest) = Instr.fill place (cells.toList.take off ++ (v.cells.toList ++ cells.toList.drop (off + size))).toArray rest := by
 have e := fill_part off v.cells cells (by omega)
 rw [h1] at e
 simp only [Instr.fill, hp]
 rw [if_neg (by simp [h1]; omega), ← e]
def zWrite : Value := .agg (.int .i64 0 :: List.replicate 64 (.int .u8 0)).toArray
omit [Low] in
theorem info_write : (Tryz.prog.info? 257).map (fun i => (i.zero, i.size, i.bytes)) = some (some zWrite, 65, 72) := by kernel_rfl
omit [Low] in
theorem zWrite_size : zWrite.cells.size = 65 := by simp [zWrite, Value.cells]
omit [Low] in
theorem agg_cells (C : Array Value) : (Value.agg C).cells = C := rfl
omit [Low] in
theorem int_cells (k : IntKind) (n : Int) : (Value.int k n).cells = #[.int k n] := rfl
omit [Low] in
set_option maxRecDepth 100000 in
theorem built_write (at_ : Int) {V : List Value} (hV : V.length = 64) : Tryz.prog.built 257 [(0, .int .i64 at_), (1, .agg V.toArray)] = some (.int .i64 at_ :: V).toArray := by
 obtain ⟨i0, hi, hz, hs, hb⟩ := info_parts info_write
 have hpl : (match Tryz.prog.underlying 257 with | some (.struct fs) => fs.toList.mapM (fun f => (Tryz.prog.info? f.type).map fun i => (f.offset, i.size)) | _ => none) = some [(0, 1), (1, 64)] := by kernel_rfl
 have hu := Tryz.underlying257
 unfold Program.built
 rw [hu] at hpl ⊢
 simp only [hi, hz]
 simp only at hpl
 rw [hpl]
 simp only
 have hz := zWrite_size
 rw [fill_cons (off := 0) (size := 1) rfl rfl (by omega), fill_cons (off := 1) (size := 64) rfl (by rw [agg_cells, List.size_toArray, hV]) (by simp [int_cells, hz])]
 simp [Instr.fill, int_cells, agg_cells, hz]
omit [Low] in
theorem run_build_write (at_ : Int) {V : List Value} (hV : V.length = 64) (w : World) : (Instr.build 257 #[(0, .int .i64 at_), (1, .agg V.toArray)]).run Tryz.prog w = .ok (.agg (.int .i64 at_ :: V).toArray) w :=
 run_build w _ _ _ (built_write at_ hV)
omit [Low] in
theorem run_buildSlice_write {C : Array Value} (hC : C.size = 65) (w : World) : (Instr.buildSlice 187 1 #[(0, .agg C)]).run Tryz.prog w = .ok (.slice (some ⟨w.heap.size, 0, none⟩) 1 1) (w.alloc (.cells C 257)) := by
 obtain ⟨i0, hi, hz, hs, hb⟩ := info_parts info_write
 have hu := Tryz.underlying187
 have hzs := zWrite_size
 have hz65 : ((Array.range (1 * 65)).map (fun x => zWrite.cells[x % zWrite.cells.size]!)).size = 65 := by simp
 have hf : Instr.fill (fun i => some (i * 65, 65)) ((Array.range (1 * 65)).map (fun x => zWrite.cells[x % zWrite.cells.size]!)) [(0, .agg C)] = some C := by
  rw [fill_cons (off := 0) (size := 65) rfl (by rw [agg_cells]; exact hC) (by rw [hz65]; omega)]
  simp only [Instr.fill, agg_cells]
  rw [List.take_zero, List.nil_append, List.drop_of_length_le (by rw [Array.length_toList, hz65]; omega), List.append_nil]
 simp only [Nat.one_mul] at hf
 simp [Instr.buildSlice, run_underlying hu, sizeOf, typeInfo, zeroValue, hi, hz, hs, hf, newRow]
section
variable {P : Program} {ops : Array Oper} {o : Oper} {a : Act} {Q : Exit → Act → World → Prop} {W : World} {K : Act → World → Prop} {E' : Prop}
omit [Low] in
theorem exec_load_mid {ev : Operand → Value} (ty : TypeId) (x : Operand) (ho : o.op = .load ty x) (b off : Nat) (hx : ev x = .pointer (some ⟨b, off, none⟩)) (cs : List Value) (d : TypeDesc) (hc : W.rangeAt b off cs)
 (hu : P.underlying ty = some d) (hd : d.isRow = true) (hi : (P.info? ty).map (·.size) = some cs.length) : (execOp ev o).run P W = .ok (.value (.agg cs.toArray)) W := by
 unfold execOp
 simp only [ho, hx, Instr.loadAt, Instr.sureAddr, Sem.run_bind, Sem.run_pure, Result.andThen_ok, run_loadVar_mid W b off ty cs d hc hu hd hi]
omit [Low] in
theorem exec_build_write {ev : Operand → Value} (x y : Operand) (ho : o.op = .build 257 #[(0, x), (1, y)]) (at_ : Int) (hx : ev x = .int .i64 at_) (V : List Value) (hy : ev y = .agg V.toArray) (hV : V.length = 64) :
 (execOp ev o).run Tryz.prog W = .ok (.value (.agg (.int .i64 at_ :: V).toArray)) W := by
 unfold execOp
 simp only [ho, List.map_toArray, List.map_cons, List.map_nil, hx, hy, Sem.run_bind, Sem.run_pure, Result.andThen_ok, run_build_write at_ hV W]
omit [Low] in
theorem step_buildSlice_write (hgd : o.guard = none) (x : Operand) (ho : o.op = .buildSlice 187 1 #[(0, x)]) (C : Array Value) (hx : a.eval x = .agg C) (hC : C.size = 65)
 (h : K (a.put o.dst (.slice (some ⟨W.heap.size, 0, none⟩) 1 1)) (W.alloc (.cells C 257))) : if Region.wanted o (yielded ops a.tmps) = true then Oper.wp Tryz.prog o a W K Q else E' := by
 have hw : Region.wanted o (yielded ops a.tmps) = true := by simp [Region.wanted, hgd]
 rw [if_pos hw]
 unfold Oper.wp execOp
 simp only [ho, List.map_toArray, List.map_cons, List.map_nil, hx, Sem.run_bind, Sem.run_pure, Result.andThen_ok, run_buildSlice_write hC W]
 exact h
omit [Low] in
theorem step_store_mid (hgd : o.guard = none) (ty : TypeId) (x y : Operand) (ho : o.op = .store ty x y) (b off : Nat) (cells : Array Value) (hx : a.eval x = .pointer (some ⟨b, off, none⟩)) (hy : a.eval y = .agg cells)
 (ht : W.there b off cells.size) (hi : (P.info? ty).map (·.size) = some cells.size) (h1 : cells.all (·.oneCell') = true) (h : K (a.put o.dst undef) (W.setCells b off cells.toList)) :
 if Region.wanted o (yielded ops a.tmps) = true then Oper.wp P o a W K Q else E' := by
 have hw : Region.wanted o (yielded ops a.tmps) = true := by simp [Region.wanted, hgd]
 rw [if_pos hw]
 exact wp_store_mid ty x y ho b off cells hx hy ht hi h1 h
end
omit [Low] in
theorem flat_atm {α : Type} {F : α → List Value} {m : Nat} : ∀ (L : List α) (_ : ∀ x ∈ L, (F x).length = m) (i r : Nat) (hi : i < L.length), r < m → (L.flatMap F)[i * m + r]? = (F L[i])[r]?
 | x :: L, hm, 0, r, _, hr => by
   rw [List.flatMap_cons, Nat.zero_mul, Nat.zero_add, List.getElem?_append_left (by rw [hm x (by simp)]; exact hr)]; rfl
 | x :: L, hm, i + 1, r, hi, hr => by
   rw [List.flatMap_cons, List.getElem?_append_right (by rw [hm x (by simp)]; exact Nat.le_trans (Nat.le_mul_of_pos_left m (Nat.succ_pos i)) (Nat.le_add_right _ _)), hm x (by simp)]
   rw [show (i + 1) * m + r - m = i * m + r by rw [Nat.succ_mul]; omega]
   exact flat_atm L (fun y hy => hm y (by simp [hy])) i r (by simpa using hi) hr
omit [Low] in
theorem writeV_len {x : Nat × List UInt8} (h : x.2.length = 64) : (writeV x).length = 65 := by simp [writeV, byteV, h]
omit [Low] in
theorem write_at {w : World} {base cc : Nat} {ca : Option Addr} {L : List (Nat × List UInt8)} (h : w.ownsRow base 257 65 (.slice ca L.length cc) L.length (L.flatMap writeV)) (hl : ∀ x ∈ L, x.2.length = 64) {k : Nat} (hk : k < L.length) :
 ∃ g, ca = some ⟨g, 0, none⟩ ∧ w.rangeAt g (k * 65) (writeV L[k]) ∧ ∃ cur, w.heap[g]? = some (.cells cur 257 (0, 0)) := by
 obtain ⟨_, h | ⟨g, c, cur, hv, _, hg, _, _, hsz, ht⟩⟩ := h
 · rw [h.2] at hk; cases hk
 · cases hv
   refine ⟨g, rfl, fun j v hv => ?_, cur, hg⟩
   have hj : j < 65 := by
    have := (List.getElem?_eq_some_iff.1 hv).1
    rw [writeV_len (hl _ (List.getElem_mem hk))] at this; exact this
   have e := flat_atm (F := writeV) (m := 65) L (fun x hx => writeV_len (hl x hx)) k j hk hj
   rw [cell_of_row _ _ _ _ _ _ hg, ← Array.getElem?_toList, ← hv, ← e, ← ht, List.getElem?_take_of_lt]
   have : (k + 1) * 65 ≤ L.length * 65 := Nat.mul_le_mul_right _ hk
   omega
end Go.Proofs.YtefpllpichhojaaGreatDoor
