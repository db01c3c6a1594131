/- base.Without: a base without some. -/
import Derived.Test.YtnclibfhbngkjaaGreatDoorBaseGet
namespace Go.Proofs.YtnclibfhbngkjaaGreatDoor
open Go.RowKit
attribute [local go_sem ↓] Go.wp_at_zero Go.wp_at_succ
theorem wpList_delete_F {α : Type} {c : α → Lit} {w : World} {k : TypeId} {ops : Array Oper} {rest : List Oper} {o : Oper} {a : Act} {Q : Exit → Act → World → Prop} [DecidableEq α] (hg : o.guard = none) (m x : Operand) (t : TypeId) (hop : o.op = Op.call { callee := Callee.builtin Builtin.delete, args := #[m, x], argTypes := #[t, k] }) (e : TypeId) (K : Maps.Keyed Tryz.prog k) (ht : Tryz.prog.underlying t = some (.map k e))
    (b n : Nat) (f : α → Option Value) (hm : a.eval m = .map (some b)) (h : MapF c w k b n f) (hc : ∀ x y, c x = c y → x = y) (key : Value) (kl : α) (hx : a.eval x = key) (hkey : keyOf Tryz.prog k key = some (c kl))
    (hK : ∀ w', MapF c w' k b n (fun z => if z = kl then none else f z) → Keep (· ≠ b) w w' → wpList Tryz.prog ops Q rest (a.put o.dst (.tuple #[])) w') :
    wpList Tryz.prog ops Q (o :: rest) a w := by
  refine wpList_plain hg fun K' hK' => ?_
  obtain ⟨w', hrun, r1, r2⟩ := h.drop K ht hc hkey o.type
  unfold Oper.wp
  simp [execOp, hop, resolve, invoke, builtin, hm, hx, hrun, Result.andThen]
  exact hK' _ _ (hK w' r1 r2)
set_option maxRecDepth 100000 in
set_option maxHeartbeats 6400000 in
theorem base_without (v : Value) (N : Nat) (f : BaseF) (a : Option Addr) (c : Nat) (L : List By) (w : World) (hb : BaseM w v N f) (hL : Strs w a L) (hl : ∀ x ∈ L, x.length ≤ 100000) (hN : N ≤ 100000) (hLn : L.length ≤ 100000) :
    Calls Tryz.prog 18 #[v, .slice a L.length c] w (WithR N (L.foldl lessF f) w) := by
  obtain ⟨R, hR⟩ : ∃ R, R = WithR N (L.foldl lessF f) w := ⟨_, rfl⟩
  rw [← hR]
  have HR := Lib.hid hR; clear hR
  obtain ⟨pm, A0, rfl, _⟩ := hb.parts
  have HL := Lib.hid hL; clear hL
  have HLL := Lib.hid hl; clear hl
  obtain ⟨n, hn⟩ : ∃ n, n = L.length := ⟨_, rfl⟩
  rw [← hn] at hLn ⊢
  have HN := Lib.hid hn; clear hn
  have hx1 : Ext w ((w.alloc (.cells #[.map pm] 42)).alloc (.cells #[.map none] 42)) := (Ext.alloc _ _).trans (Ext.alloc _ _)
  have hb1 := (Ext.alloc _ (.cells #[.map none] 42)).heap (heap_alloc_new w (.cells #[.map pm] 42))
  have hr1 := heap_alloc_new (w.alloc (.cells #[.map pm] 42)) (.cells #[.map none] 42)
  rw [World.size_alloc] at hr1
  go_enter Tryz.func18, Tryz.ntmps18
  go_upto_region 1 with (fail)
  generalize (w.alloc (.cells #[.map pm] 42)).alloc (.cells #[.map none] 42) = w1 at hx1 hb1 hr1 ⊢
  obtain ⟨BX, hBX⟩ : ∃ x, x = w.heap.size := ⟨_, rfl⟩
  obtain ⟨RS, hRS⟩ : ∃ x, x = w.heap.size + 1 := ⟨_, rfl⟩
  rw [← hRS] at hr1
  rw [← hBX] at hb1
  have HZ : Hid (BX = w.heap.size ∧ RS = w.heap.size + 1) := Lib.hid ⟨hBX, hRS⟩
  rw [← hRS, ← hBX]
  clear hRS hBX
  have p0 := blk_cell hb1 0 (Value.map pm) rfl
  have hw := base_with (.agg #[.map pm]) N f none 0 [] w1 (hb.ext hx1) (Or.inl rfl) (by simp) (by simpa using hN)
  have HW := Lib.hid hw; clear hw hb
  have HX1 := Lib.hid hx1; clear hx1
  have HR1 := Lib.hid hr1; clear hr1 hb1
  go_upto_region 2 with (first
    | (go_at_call 17; refine HW.out.mono ?_; rintro e w2 ⟨bd, A, rfl, hbs, hb2, hx2⟩; have HBS := Lib.hid hbs; clear hbs; have HB2 := Lib.hid hb2; clear hb2; have HX2 := Lib.hid hx2; clear hx2))
  clear p0
  have hx3 := Ext.alloc w2 (.cells #[.map (some bd)] 42)
  have ho3 := heap_alloc_new w2 (.cells #[.map (some bd)] 42)
  generalize w2.alloc (.cells #[.map (some bd)] 42) = w3 at hx3 ho3 ⊢
  obtain ⟨O, hO⟩ : ∃ x, x = w2.heap.size := ⟨_, rfl⟩
  rw [← hO] at ho3 ⊢
  have HOS := Lib.hid hO; clear hO
  have he3 : EntsM w3 bd N f A := HB2.out.ext hx3
  have hr3 := (HX2.out.trans hx3).heap HR1.out
  have hxw := HX1.out.trans (HX2.out.trans hx3)
  have hbl := HB2.out.lt
  have h1s := HX1.out.size
  have h2s := HX2.out.size
  have HE3 := Lib.hid he3; clear he3
  have HR3 := Lib.hid hr3; clear hr3
  have HO3 := Lib.hid ho3; clear ho3
  have HXW := Lib.hid hxw; clear hxw hx3
  go_wp2_with fail
  go_loopw [12] (fun i wr => ∃ k : Nat, i = .int .i64 k ∧ k ≤ n ∧ Hid (EntsM wr bd N ((L.take k).foldl lessF f) A) ∧ Hid (wr.heap[O]? = some (.cells #[.map (some bd)] 42 (0, 0))) ∧ Hid (wr.heap[RS]? = some (.cells #[.map none] 42 (0, 0))) ∧ Hid (Ext w wr)) (fun i _ => n - (intOf i).toNat)
  case atStart => exact ⟨0, rfl, Nat.zero_le _, HE3, HO3, HR3, HXW⟩
  case round =>
    obtain ⟨k, rfl, hk, hE, hO, hRr, hX⟩ := hrel
    by_cases hlt : k < n
    · have hkL : k < L.length := by have := HN.out; omega
      obtain ⟨g, off, rfl, _, hc⟩ := (HL.out.ext hX.out).at (by intro e; rw [e] at hkL; simp at hkL)
      have c0 := hc k hkL
      clear hc
      obtain ⟨x, hx⟩ : ∃ x, x = L.getD k [] := ⟨_, rfl⟩
      rw [← hx] at c0
      have hxl := HLL.out x (by rw [hx, List.getD_eq_getElem?_getD, List.getElem?_eq_getElem hkL]; simp)
      have htk : ((L.take (k + 1)).foldl lessF f) = lessF ((L.take k).foldl lessF f) x := by
        rw [List.take_succ_eq_append_getElem hkL, List.foldl_append, hx]
        simp [hkL]
      have HTK := Lib.hid htk; clear htk hx hkL
      have hkey := key_by hxl
      have q0 := blk_cell hO.out 0 (Value.map (some bd)) rfl
      go_wp2_with (first
        | (at_delete; refine wpList_delete_F rfl _ _ 40 rfl 37 str_keyed Tryz.underlying40 bd N _ rfl hE.out.1 keyS_inj _ x rfl hkey ?_; intro w7 hm7 hk7; go_frame)
        | go_in)
      have hz := HZ.out
      have hbs := HBS.out
      have hOl : bd < wr.heap.size := hE.out.1.lt
      obtain ⟨es, cl, hmb⟩ := hE.out.1.block
      have hneO : O ≠ bd := by intro e; subst e; have := hO.out; rw [hmb] at this; cases this
      have hneR : RS ≠ bd := by intro e; subst e; have := hRr.out; rw [hmb] at this; cases this
      refine ⟨⟨k + 1, by go_num, by omega, Lib.hid ⟨hm7.same ?_, ?_⟩, Lib.hid (hk7.heap hneO hO.out), Lib.hid (hk7.heap hneR hRr.out), Lib.hid (((Keep.of_ext (S := fun j => j < w.heap.size) hX.out).andThen hk7 (fun j hj _ => by omega)).ext_lt)⟩, by simp [intOf]; omega⟩
      · rw [HTK.out]
        funext z
        unfold entF lessF
        by_cases hze : z = x
        · subst hze; simp
        · simp [hze]
      · intro y d hd
        rw [HTK.out] at hd
        unfold lessF at hd
        split at hd
        · cases hd
        · exact ⟨(hE.out.2 y d hd).1.keep_map hk7 hmb, (hE.out.2 y d hd).2⟩
    · obtain rfl : k = n := by omega
      have q0 := blk_cell hO.out 0 (Value.map (some bd)) rfl
      have r0 := blk_cell hRr.out 0 (Value.map none) rfl
      have f0 := blk_free hRr.out 0
      go_wp2_with fail
      refine bodyPost_ret (v := .agg #[.map (some bd)]) (by simp [results, Tryz.results18, go_sem, r0]) rfl ?_
      rw [HR.out]
      have hz := HZ.out
      have hbs := HBS.out
      have hk2 : Keep (fun j => j < w.heap.size) w (wr.setCell ⟨RS, 0, none⟩ (.map (some bd))) := (Keep.of_ext hX.out).setCell (fun j hj => by omega) 0 _
      have hk3 : Keep (fun j => j ≠ RS) wr (wr.setCell ⟨RS, 0, none⟩ (.map (some bd))) := (Keep.refl _ _).setCell (fun j hj => hj) 0 _
      have hlt : L.take k = L := by rw [List.take_of_length_le (by have := HN.out; omega)]
      have hE2 := hE.out
      rw [hlt] at hE2
      exact ⟨bd, A, rfl, by omega, hE2.keep hk3 hRr.out, hk2.ext_lt⟩
end Go.Proofs.YtnclibfhbngkjaaGreatDoor
