/- Several texts of mine, one behind the other: VolLet, Crc, Pack, Crcs, PackAll. -/
import Derived.Test.YtefpllpichhojaaGreatDoorVolSweep
import Derived.Test.YtefpllpichhojaaGreatDoorM9
import Derived.Test.YtefpllpichhojaaGreatDoorM5
import Derived.Outline
import Derived.IntWalk
import Derived.Deep.Cut
import Derived.Test.YtefpllpichhojaaGreatDoorM7
import Derived.Lib.ConvBytes
namespace Go.Proofs.YtefpllpichhojaaGreatDoor
open Go.RowKit
variable [Low]
def lessV (V : VolD) (i : Int) : VolD := { V with hd := fun z => if z = i then (if heldN V.hd i = 1 then none else some (heldN V.hd i - 1)) else V.hd z }
noncomputable def letV (V : VolD) (i : Int) : VolD := sweptV (lessV V i)
omit [Low] in
theorem lessV_held (V : VolD) (i : Int) : heldN (lessV V i).hd i = heldN V.hd i - 1 := by
 have e : (lessV V i).hd i = if heldN V.hd i = 1 then none else some (heldN V.hd i - 1) := by
  unfold lessV
  exact if_pos rfl
 have e2 : heldN (lessV V i).hd i = ((lessV V i).hd i).getD 0 := rfl
 rw [e2, e]
 split
 · rename_i h
   rw [h]; rfl
 · rfl
section
variable {X : Nat → Prop} {w w' : World} {vb db kb n N : Nat} {V : VolD}
theorem VolB.less2 {tb lb hb mb : Nat} {A : Int → NodeA} (h : VolB X w vb db kb n N tb lb hb mb A V) (k : Keep (· ≠ hb) w w') {i : Int} {m : Nat} (hm : MapF keyI w' 3 hb (N + 1) fun z => if z = i then some (.int .i64 (m : Int)) else heldV V.hd z) (he : heldN V.hd i = m + 1) (h0 : ((m : Int) == 0) = false) : VolM X w' vb db kb n (N + 1) (lessV V i) := by
 have hm0 : m ≠ 0 := by
  intro e
  subst e
  exact absurd h0 (by decide)
 have e1 : (lessV V i).hd = fun z => if z = i then some m else V.hd z := by
  unfold lessV
  funext z
  simp only [he]
  rw [if_neg (by omega : ¬ m + 1 = 1)]
  rfl
 have := h.set_held k (f := (lessV V i).hd) (M := N + 1) (by omega) (by rw [e1, ← heldV_set]; exact hm)
 exact ⟨tb, lb, hb, mb, A, this⟩
theorem VolB.less1 {tb lb hb mb : Nat} {A : Int → NodeA} (h : VolB X w vb db kb n N tb lb hb mb A V) (k : Keep (· ≠ hb) w w') {i : Int} {m : Nat} (hm : MapF keyI w' 3 hb (N + 1) fun z => if z = i then none else if z = i then some (.int .i64 (m : Int)) else heldV V.hd z) (he : heldN V.hd i = m + 1) (h0 : ((m : Int) == 0) = true) : VolM X w' vb db kb n (N + 1) (lessV V i) := by
 have hm0 : m = 0 := by
  have := beq_iff_eq.1 h0
  omega
 subst hm0
 have e1 : (lessV V i).hd = fun z => if z = i then none else V.hd z := by
  unfold lessV
  funext z
  simp only [he]
  rfl
 have := h.set_held k (f := (lessV V i).hd) (M := N + 1) (by omega) (by
  rw [e1, ← heldV_del]
  refine hm.same ?_
  funext z
  by_cases hz : z = i
  · simp [hz]
  · simp [hz])
 exact ⟨tb, lb, hb, mb, A, this⟩
set_option maxRecDepth 100000 in
set_option maxHeartbeats 3200000 in
theorem vol_Let (h : VolM X w vb db kb n N V) (i : Int) (h1 : -9223372036854775808 ≤ i) (h2 : i ≤ 9223372036854775807) (h0 : heldN V.hd i ≠ 0) (hk : heldN V.hd i ≤ 1000000) (hN : N + 1 ≤ 1000000000) (hg : GoodT (letV V i).T) :
 Calls Tryz.prog 106 #[.pointer (some ⟨vb, 0, none⟩), .int .i64 i] w fun e w' => e = .returned (.int .i64 0) ∧ VolM X w' vb db kb n (N + 1) (letV V i) ∧ KeepY X w w' := by
 obtain ⟨Q, hQ⟩ : ∃ Q : Ending → World → Prop, Q = fun e w' => e = .returned (.int .i64 0) ∧ VolM X w' vb db kb n (N + 1) (letV V i) ∧ KeepY X w w' := ⟨_, rfl⟩
 rw [← hQ]
 have HQ := Lib.hid hQ; clear hQ
 obtain ⟨tb, lb, hb, mb, A, h⟩ := h
 obtain ⟨k, hkk⟩ : ∃ k, heldN V.hd i = k + 1 := ⟨heldN V.hd i - 1, by omega⟩
 have hkn : ((heldV V.hd i).getD (.int .i64 0)) = .int .i64 ((k + 1 : Nat) : Int) := by
  unfold heldN at hkk
  unfold heldV
  cases hc : V.hd i with
  | none => rw [hc] at hkk; simp at hkk
  | some m => rw [hc] at hkk; simp at hkk; subst hkk; rfl
 have hb1 : (((k + 1 : Nat) : Int) == 0) = false := int_bne0 (by omega)
 have hb2 : ((k + 1 : Nat) : Int) - 1 = (k : Int) := by omega
 have c3 := blk_cell h.top 3 (.map (some hb)) rfl
 have hnv : vb ≠ hb := fun e => by obtain ⟨es, cl, hg⟩ := h.held.block; have := h.top; rw [e, hg] at this; cases this
 have hlk := h.held.lookup int_keyedA Tryz.underlying122 (Tryz.zeroValue3 w) (key_int h1 h2)
 rw [hkn] at hlk
 have hkl : k ≤ 1000000 := by omega
 have HV := Lib.hid h; have HKK := Lib.hid hkk; have HNV := Lib.hid hnv; have HGG := Lib.hid hg
 clear h hkn hkk hk h0 hnv hg
 have hbk : -9223372036854775808 ≤ (k : Int) ∧ (k : Int) ≤ 9223372036854775807 := by omega
 go_enter Tryz.func106, Tryz.ntmps106
 go_wp2_with (first
  | (at_mapUpdate; refine wpList_store_F rfl _ _ _ 122 rfl 3 int_keyedA Tryz.underlying122 hb N _ rfl HV.out.held (by unfold maxLen; omega) keyI_inj _ (.int .i64 (k : Int)) i rfl rfl (key_int h1 h2) ?_; intro w3 hm3 hk3; have c3 := hk3.cell HNV.out c3; have hlk := hm3.lookup int_keyedA Tryz.underlying122 (Tryz.zeroValue3 w3) (key_int h1 h2); rw [if_pos rfl] at hlk; dsimp only [Option.getD] at hlk)
  | (at_delete; refine wpList_delete_F rfl _ _ 122 rfl 3 int_keyedA Tryz.underlying122 hb (N + 1) _ rfl hm3 keyI_inj _ i rfl (key_int h1 h2) ?_; intro w4 hm4 hk4)
  | (go_at_call 80; (first | refine (vol_sweep (V := lessV V i) (HV.out.less1 (hk3.trans hk4) hm4 HKK.out ‹_›) HGG.out hN).mono ?_ | refine (vol_sweep (V := lessV V i) (HV.out.less2 hk3 hm3 HKK.out ‹_›) HGG.out hN).mono ?_); rintro e w5 ⟨rfl, hv5, hy5⟩))
 · rw [HQ.out]
   obtain ⟨es, cl, hg⟩ := HV.out.held.block
   exact ⟨rfl, hv5, (KeepY.of_map (hk3.trans hk4) HV.out.lows.2 HV.out.out.1 hg).trans hy5⟩
 · rw [HQ.out]
   obtain ⟨es, cl, hg⟩ := HV.out.held.block
   exact ⟨rfl, hv5, (KeepY.of_map hk3 HV.out.lows.2 HV.out.out.1 hg).trans hy5⟩
end
end Go.Proofs.YtefpllpichhojaaGreatDoor
namespace Go.Proofs.YtefpllpichhojaaGreatDoor
open Go.RowKit
theorem crcK_succ : ∀ (n : Nat) (x : BitVec 32), crcK (n + 1) x = crc1 (crcK n x)
 | 0, _ => rfl
 | n + 1, x => by rw [crcK, crcK_succ n, ← crcK]
theorem crcF_take {l : List UInt8} {k : Nat} (s : BitVec 32) (h : k < l.length) : crcF s (l.take (k + 1)) = crc8 (crcF s (l.take k) ^^^ bv (l.getD k 0)) := by
 rw [List.take_succ_eq_append_getElem h, crcF_append]
 simp [crcF, crcB, List.getD_eq_getElem?_getD, h]
theorem of_toNat (y : BitVec 32) : BitVec.ofInt 32 (y.toNat : Int) = y := by rw [BitVec.ofInt_natCast, BitVec.ofNat_toNat, BitVec.setWidth_eq]
theorem u32_same (y : BitVec 32) : IntKind.u32.wrap (y.toNat : Int) = (y.toNat : Int) := IntWalk.u32_in _ ⟨by omega, by have := y.isLt; omega⟩
theorem bits_xor (y : BitVec 32) (b : UInt8) : bits BinOp.xor IntKind.u32 (y.toNat : Int) (b.toNat : Int) = ((y ^^^ bv b).toNat : Int) := by
 have e : BitVec.ofInt 32 (b.toNat : Int) = bv b := by rw [BitVec.ofInt_natCast]; rfl
 show IntKind.u32.wrap ((BitVec.ofInt 32 (y.toNat : Int) ^^^ BitVec.ofInt 32 (b.toNat : Int)).toNat : Int) = _
 rw [of_toNat, e]; exact u32_same _
theorem low_bit (z : BitVec 32) : z.getLsbD 0 = decide (z.toNat % 2 = 1) := by
 rw [BitVec.getLsbD, Nat.testBit_zero]
theorem bits_and1 (z : BitVec 32) : bits BinOp.and IntKind.u32 (z.toNat : Int) 1 = if z.getLsbD 0 then 1 else 0 := by
 show IntKind.u32.wrap ((BitVec.ofInt 32 (z.toNat : Int) &&& BitVec.ofInt 32 1).toNat : Int) = _
 rw [of_toNat, low_bit]
 have e : (z &&& BitVec.ofInt 32 1).toNat = z.toNat % 2 := by
  rw [BitVec.toNat_and]
  have : (BitVec.ofInt 32 1).toNat = 1 := by decide
  rw [this, Nat.and_one_is_mod]
 rw [u32_same, e]
 by_cases h : z.toNat % 2 = 1
 · rw [h]; rfl
 · have : z.toNat % 2 = 0 := by omega
   rw [this]; rfl
theorem shr1 (z : BitVec 32) : (z.toNat : Int) / (2 : Int) = ((z >>> 1).toNat : Int) := by
 rw [BitVec.toNat_ushiftRight, Nat.shiftRight_eq_div_pow]; omega
theorem bits_not (x : BitVec 32) : bits BinOp.xor IntKind.u32 IntKind.u32.max (x.toNat : Int) = ((~~~ x).toNat : Int) := by
 show IntKind.u32.wrap ((BitVec.ofInt 32 IntKind.u32.max ^^^ BitVec.ofInt 32 (x.toNat : Int)).toNat : Int) = _
 have e : BitVec.ofInt 32 IntKind.u32.max = BitVec.allOnes 32 := by decide
 rw [of_toNat, e, u32_same, BitVec.allOnes_xor]
theorem bits_step (z : BitVec 32) (h : z.getLsbD 0 = true) : bits BinOp.xor IntKind.u32 ((z.toNat : Int) / 2) 3988292384 = ((crc1 z).toNat : Int) := by
 rw [shr1]
 show IntKind.u32.wrap ((BitVec.ofInt 32 ((z >>> 1).toNat : Int) ^^^ BitVec.ofInt 32 3988292384).toNat : Int) = _
 have e : BitVec.ofInt 32 3988292384 = 0xEDB88320#32 := by decide
 rw [of_toNat, e, u32_same]
 unfold crc1
 rw [if_pos h]
theorem bits_no (z : BitVec 32) (h : z.getLsbD 0 = false) : (z.toNat : Int) / 2 = ((crc1 z).toNat : Int) := by
 rw [shr1]
 unfold crc1
 rw [if_neg (by rw [h]; decide)]
end Go.Proofs.YtefpllpichhojaaGreatDoor
namespace Go.Proofs.YtefpllpichhojaaGreatDoor
open Go.RowKit
def PackR (l : List UInt8) (w : World) (e : Ending) (w' : World) : Prop := ∃ a c, e = .returned (.slice a l.length c) ∧ OwnB w' w.heap.size a c l ∧ Ext w w'
theorem Ext.of_below' {a b c : World} (h : Ext a b) (k : Below a.heap.size b c) : Ext a c := Below.trans h k
theorem byte_of (n : Nat) : ((UInt8.ofNat n).toNat : Int) = (n : Int) % 256 := by
 rw [UInt8.toNat_ofNat']; omega
theorem ownB_lit (w : World) (cs : Array Value) (l : List UInt8) (h : cs.toList = l.map fun b => Value.int .u8 (b.toNat : Int)) (hl : l.length ≤ 1099511627776) :
 OwnB (w.alloc (.cells cs 5)) w.heap.size (some ⟨w.heap.size, 0, none⟩) l.length l := by
 have hcs : cs.size = l.length := by rw [← Array.length_toList, h, List.length_map]
 refine ⟨by simp, Or.inr ⟨w.heap.size, l.length, cs, rfl, Nat.le_refl _, heap_alloc_new w _, Nat.le_refl _, by unfold maxLen; omega, by rw [hcs, Nat.mul_one], ?_⟩⟩
 rw [h, Nat.mul_one, List.take_of_length_le (by simp)]
theorem rec_number (n : Nat) (hn : n < 4294967296) (w : World) :
 Calls Tryz.prog 171 #[.int .u32 (n : Int)] w (PackR (num4 n) w) := by
 have e0 := byte_of n
 have e1 := byte_of (n / 256)
 have e2 := byte_of (n / 65536)
 have e3 := byte_of (n / 16777216)
 have H := Lib.hid (And.intro e0 (And.intro e1 (And.intro e2 e3)))
 clear e0 e1 e2 e3
 go_enter Tryz.func171, Tryz.ntmps171
 go_wp2_with fail
 go_ret
 refine ⟨_, _, rfl, ownB_lit _ _ (num4 n) ?_ (by simp [num4_len]), Ext.alloc _ _⟩
 obtain ⟨e0, e1, e2, e3⟩ := H.out
 simp only [num4, List.map_cons, List.map_nil, e0, e1, e2, e3]
 simp
 omega
theorem rec_num (n : Int) (w : World) :
 Calls Tryz.prog 124 #[.int .i64 n] w (PackR (numI n) w) := by
 have e : n % 4294967296 = ((u32 n : Nat) : Int) := by unfold u32; omega
 have hn := rec_number (u32 n) (u32_lt n)
 have H := Lib.hid hn; clear hn
 go_enter Tryz.func124, Tryz.ntmps124
 go_wp2_with fail
 refine (H.out _).mono ?_
 rintro e1 w1 ⟨a, c, rfl, hown, hx⟩
 have HO := Lib.hid hown; clear hown
 have HX := Lib.hid hx; clear hx
 go_wp2_with fail
 go_ret
 exact ⟨a, c, rfl, HO.out, HX.out⟩
theorem rec_raw (a : Option Addr) (c : Nat) (l : List UInt8) (w : World) (hb : Bytes w a l) (hl : l.length ≤ 16777216) :
 Calls Tryz.prog 126 #[.slice a l.length c] w (PackR (raw4 l) w) := by
 have HB := Lib.hid hb; clear hb
 have hn := rec_number l.length (by omega)
 have H := Lib.hid hn; clear hn
 go_enter Tryz.func126, Tryz.ntmps126
 go_wp2_with fail
 refine (H.out _).mono ?_
 rintro e1 w1 ⟨a1, c1, rfl, hown, hx⟩
 have HO := Lib.hid hown; clear hown
 have HX := Lib.hid hx; clear hx
 go_wp2_with (at_builtin; refine append_bytes rfl (.tmp 6) (.tmp 7) 50 rfl Tryz.underlying50 w.heap.size a1 c1 (num4 l.length) l 4 l.length rfl rfl rfl HO.out _ _ rfl (HB.out.ext HX.out) (by omega) HX.out.size ?_; intro ad cap w2 hown hx; have HO2 := Lib.hid hown; clear hown; have HX2 := Lib.hid hx; clear hx)
 go_ret
 refine ⟨ad, cap, ?_, HO2.out, Ext.of_below' HX.out HX2.out⟩
 rw [raw4_len]; rfl
theorem bytes_made (w : World) (s : ByteArray) : Bytes (Lib.bytesWorld w 5 s) (some ⟨w.heap.size, 0, none⟩) s.data.toList := by
 refine Or.inr ⟨w.heap.size, 0, rfl, by rw [Lib.bytesWorld_size]; omega, fun i hi => ?_⟩
 rw [Nat.zero_add, Lib.bytesWorld_cell w _ s i (by simpa using hi)]
 rfl
theorem rec_text (s : ByteArray) (hs : s.size ≤ 16777216) (w : World) :
 Calls Tryz.prog 125 #[.string s] w (PackR (raw4 s.data.toList) w) := by
 have hc := fun w' => Lib.run_convert_string_bytes (P := Tryz.prog) w' 9 50 5 s Tryz.underlying9 Tryz.underlying50 Tryz.underlying5
 have hr := fun c => rec_raw (some ⟨w.heap.size, 0, none⟩) c s.data.toList _ (bytes_made w s) (by rw [size_len]; exact hs)
 rw [size_len] at hr
 have H := Lib.hid hr; clear hr
 go_enter Tryz.func125, Tryz.ntmps125
 go_wp2_with fail
 refine (H.out _).mono ?_
 rintro e1 w1 ⟨a1, c1, rfl, hown, hx⟩
 have HO := Lib.hid hown; clear hown
 have HX := Lib.hid hx; clear hx
 go_wp2_with fail
 go_ret
 have hx1 : Ext w (Lib.bytesWorld w 5 s) := ⟨rfl, rfl, rfl, by rw [Lib.bytesWorld_size]; omega, fun j hj => Lib.bytesWorld_at_old w _ s j hj⟩
 exact ⟨a1, c1, rfl, ⟨HO.out.1, HO.out.2.imp id (fun ⟨g, c, cur, h1, h2, h3⟩ => ⟨g, c, cur, h1, Nat.le_trans hx1.size h2, h3⟩)⟩, hx1.trans HX.out⟩
def PartsS (S : Nat → Prop) (w : World) (vs : List Value) (L : List (List UInt8)) : Prop :=
 vs.length = L.length ∧ ∀ i, i < L.length → ∃ p c, vs[i]? = some (.slice p (L.getD i []).length c) ∧ BytesS S w p (L.getD i [])
theorem PartsS.keep {S : Nat → Prop} {w w' : World} {vs : List Value} {L : List (List UInt8)} (h : PartsS S w vs L) (k : Keep S w w') : PartsS S w' vs L :=
 ⟨h.1, fun i hi => by obtain ⟨p, c, h1, h2⟩ := h.2 i hi; exact ⟨p, c, h1, Row.keep h2 k⟩⟩
theorem PartsS.mono {S T : Nat → Prop} {w : World} {vs : List Value} {L : List (List UInt8)} (h : PartsS S w vs L) (hT : ∀ k, k < w.heap.size → S k → T k) : PartsS T w vs L :=
 ⟨h.1, fun i hi => by obtain ⟨p, c, h1, h2⟩ := h.2 i hi; exact ⟨p, c, h1, Row.mono h2 hT⟩⟩
theorem PartsS.append {S : Nat → Prop} {w : World} {us vs : List Value} {K L : List (List UInt8)} (h : PartsS S w us K) (k : PartsS S w vs L) : PartsS S w (us ++ vs) (K ++ L) := by
 refine ⟨by simp [h.1, k.1], fun i hi => ?_⟩
 by_cases hk : i < K.length
 · obtain ⟨p, c, h1, h2⟩ := h.2 i hk
   refine ⟨p, c, ?_, ?_⟩
   · rw [List.getElem?_append_left (by rw [h.1]; exact hk), h1]
     simp [List.getD_eq_getElem?_getD, List.getElem?_append_left hk]
   · simpa [List.getD_eq_getElem?_getD, List.getElem?_append_left hk] using h2
 · have hi' : i - K.length < L.length := by simp at hi; omega
   obtain ⟨p, c, h1, h2⟩ := k.2 (i - K.length) hi'
   have e : (K ++ L).getD i [] = L.getD (i - K.length) [] := by simp [List.getD_eq_getElem?_getD, List.getElem?_append_right (show K.length ≤ i by omega)]
   refine ⟨p, c, ?_, ?_⟩
   · rw [List.getElem?_append_right (by rw [h.1]; omega), h.1, h1, e]
   · rw [e]; exact h2
theorem PartsS.nil (S : Nat → Prop) (w : World) : PartsS S w [] [] := ⟨rfl, fun i hi => by simp at hi⟩
theorem PartsS.one {S : Nat → Prop} {w : World} {p : Option Addr} {c : Nat} {l : List UInt8} (h : BytesS S w p l) : PartsS S w [.slice p l.length c] [l] := by
 refine ⟨rfl, fun i hi => ?_⟩
 have : i = 0 := by simp at hi; exact hi
 subst this
 exact ⟨p, c, rfl, h⟩
theorem PartsS.cons {S : Nat → Prop} {w : World} {p : Option Addr} {c : Nat} {l : List UInt8} {vs : List Value} {L : List (List UInt8)} (h : BytesS S w p l) (k : PartsS S w vs L) : PartsS S w (.slice p l.length c :: vs) (l :: L) := (PartsS.one h).append k
def Parts (w : World) (a : Option Addr) (L : List (List UInt8)) : Prop := ∃ vs, Row (fun _ => True) w a vs ∧ PartsS (fun _ => True) w vs L
theorem Parts.ext {w w' : World} {a : Option Addr} {L : List (List UInt8)} (h : Parts w a L) (k : Ext w w') : Parts w' a L := by
 obtain ⟨vs, h1, h2⟩ := h
 exact ⟨vs, h1.keep (Keep.of_ext k), h2.keep (Keep.of_ext k)⟩
theorem Parts.at {w : World} {a : Option Addr} {L : List (List UInt8)} (h : Parts w a L) {i : Nat} (hi : i < L.length) :
 ∃ g off p c, a = some ⟨g, off, none⟩ ∧ w.cell? ⟨g, off + i, none⟩ = some (.slice p (L.getD i []).length c) ∧ Bytes w p (L.getD i []) := by
 obtain ⟨vs, h1, h2⟩ := h
 obtain ⟨p, c, h3, h4⟩ := h2.2 i hi
 have hv : i < vs.length := by rw [h2.1]; exact hi
 obtain ⟨g, off, ha, _, _, hc⟩ := h1.at (by intro e; rw [e] at hv; simp at hv)
 exact ⟨g, off, p, c, ha, (hc i hv).trans h3, h4.bytes⟩
end Go.Proofs.YtefpllpichhojaaGreatDoor
namespace Go.Proofs.YtefpllpichhojaaGreatDoor
open Go.RowKit
theorem crcF_rows {L : List (List UInt8)} {k : Nat} (h : k < L.length) : crcF crc0 (L.take (k + 1)).flatten = crcF (crcF crc0 (L.take k).flatten) (L.getD k []) := by
 rw [List.take_succ_eq_append_getElem h, List.flatten_append, crcF_append]
 simp [List.getD_eq_getElem?_getD, h]
set_option maxHeartbeats 1600000 in
theorem crc_ofs (a0 : Option Addr) (c0 : Nat) (L : List (List UInt8)) (w : World) (hP : Parts w a0 L) (hl : ∀ l ∈ L, l.length ≤ 1099511627776) (hn : L.length ≤ 1000) :
 Calls Tryz.prog 168 #[.slice a0 L.length c0] w fun e w' => e = .returned (.int .u32 ((crcL L.flatten).toNat : Int)) ∧ w = w' := by
 have HP := Lib.hid hP; clear hP
 have HL := Lib.hid hl; clear hl
 obtain ⟨Q, hQ⟩ : ∃ Q : Ending → World → Prop, Q = fun e w' => e = .returned (.int .u32 ((crcL L.flatten).toNat : Int)) ∧ w = w' := ⟨_, rfl⟩
 rw [← hQ]
 have HQ := Lib.hid hQ; clear hQ
 obtain ⟨n, hnn⟩ : ∃ n, n = L.length := ⟨_, rfl⟩
 rw [← hnn] at hn ⊢
 have HN := Lib.hid hnn; clear hnn
 go_enter Tryz.func168, Tryz.ntmps168
 go_wp2_with fail
 go_loop [3, 10] (fun v i => ∃ (k : Nat) (x : BitVec 32), i = .int .i64 k ∧ v = .int .u32 (x.toNat : Int) ∧ Hid (x = crcF crc0 (L.take k).flatten) ∧ k ≤ n) (fun _ i => n - (intOf i).toNat)
 case atStart => exact ⟨0, crc0, rfl, rfl, Lib.hid rfl, by omega⟩
 case round =>
  obtain ⟨k, x, rfl, rfl, hx, hk⟩ := hrel
  by_cases hk0 : k < n
  · have hkL : k < L.length := by have := HN.out; omega
    obtain ⟨g0, o0, p, cp, rfl, hce, hby⟩ := HP.out.at hkL
    have hll : (L.getD k []).length ≤ 1099511627776 := HL.out _ (by
     have e : L.getD k [] = L[k] := by simp [List.getD_eq_getElem?_getD, List.getElem?_eq_getElem hkL]
     rw [e]; exact List.getElem_mem hkL)
    have hst := crcF_rows hkL
    rw [← hx.out] at hst
    have HST := Lib.hid hst; clear hst
    generalize L.getD k [] = l at hce hby hll HST
    have HB := Lib.hid hby; clear hby
    go_wp2_with fail
    go_loop [3, 16] (fun v i => ∃ (m : Nat) (y : BitVec 32), i = .int .i64 m ∧ v = .int .u32 (y.toNat : Int) ∧ m ≤ l.length ∧ Hid (y = crcF x (l.take m))) (fun _ i => l.length - (intOf i).toNat)
    case atStart => exact ⟨0, x, rfl, rfl, by omega, Lib.hid rfl⟩
    case round =>
     obtain ⟨m, y, rfl, rfl, hm, hy⟩ := hrel
     by_cases hlt : m < l.length
     · obtain ⟨g, o, rfl, _, hc⟩ := HB.out.at (by intro e; rw [e] at hlt; simp at hlt)
       have hcell := hc m hlt
       clear hc
       obtain ⟨b, hb⟩ : ∃ b, b = l.getD m 0 := ⟨_, rfl⟩
       have hbb : byteAt l m = b.toNat := by rw [hb]; rfl
       rw [hbb] at hcell
       have HBE := Lib.hid hb; clear hb hbb
       have hb8 := b.toNat_lt
       have ex : bits BinOp.xor IntKind.u32 (y.toNat : Int) (b.toNat : Int) = ((y ^^^ bv b).toNat : Int) := bits_xor y b
       go_wp2_with fail
       clear ex
       go_loop [3, 24] (fun v i => ∃ (n : Nat) (z : BitVec 32), i = .int .i64 n ∧ v = .int .u32 (z.toNat : Int) ∧ n ≤ 8 ∧ Hid (z = crcK n (y ^^^ bv b))) (fun _ i => 8 - (intOf i).toNat)
       case atStart => exact ⟨0, y ^^^ bv b, rfl, rfl, by omega, Lib.hid rfl⟩
       case round =>
        obtain ⟨n, z, rfl, rfl, hn, hz⟩ := hrel
        by_cases hn8 : n < 8
        · have hand := bits_and1 z
          cases hlow : z.getLsbD 0 with
          | true =>
            have hst := bits_step z hlow
            rw [hlow, if_pos rfl] at hand
            clear hlow
            go_wp2_with fail
            go_round
            case rel => exact ⟨n + 1, crc1 z, by go_num, rfl, by omega, Lib.hid (by rw [hz.out, crcK_succ])⟩
            case measure => simp [intOf]; omega
          | false =>
            have HNO := Lib.hid (bits_no z hlow)
            rw [hlow, if_neg (by decide)] at hand
            clear hlow
            go_wp2_with fail
            go_round
            case rel => exact ⟨n + 1, crc1 z, by go_num, by rw [HNO.out], by omega, Lib.hid (by rw [hz.out, crcK_succ])⟩
            case measure => simp [intOf]; omega
        · obtain rfl : n = 8 := by omega
          go_wp2_with fail
          go_round
          case rel => exact ⟨m + 1, z, by go_num, rfl, by omega, Lib.hid (by rw [crcF_take _ hlt, ← HBE.out, ← hy.out]; exact hz.out)⟩
          case measure => simp [intOf]; omega
     · have hml : m = l.length := by omega
       have hyy := hy.out
       rw [hml, List.take_length] at hyy
       have HY := Lib.hid hyy; clear hyy hml
       go_wp2_with fail
       go_round
       case rel => exact ⟨k + 1, y, by go_num, rfl, Lib.hid (by rw [HST.out]; exact HY.out), by omega⟩
       case measure => simp [intOf]; omega
  · have hk1 : x = crcF crc0 L.flatten := by
        have := hx.out
        rwa [show k = L.length by have := HN.out; omega, List.take_length] at this
    have HX := Lib.hid hk1; clear hk1 hx
    go_wp2_with fail
    rw [HQ.out, bits_not, HX.out]
    exact ⟨rfl, rfl⟩
end Go.Proofs.YtefpllpichhojaaGreatDoor
namespace Go.Proofs.YtefpllpichhojaaGreatDoor
open Go.RowKit
theorem flat_take {L : List (List UInt8)} {k : Nat} (h : k < L.length) : (L.take (k + 1)).flatten = (L.take k).flatten ++ L.getD k [] := by
 rw [List.take_succ_eq_append_getElem h, List.flatten_append]
 simp [List.getD_eq_getElem?_getD, List.getElem?_eq_getElem h]
theorem flat_take_le (L : List (List UInt8)) (k : Nat) : (L.take k).flatten.length ≤ L.flatten.length := by
 conv => rhs; rw [← List.take_append_drop k L]
 rw [List.flatten_append, List.length_append]; omega
set_option maxHeartbeats 800000 in
theorem rec_pack (a : Option Addr) (c : Nat) (L : List (List UInt8)) (w : World) (hp : Parts w a L) (hl : L.flatten.length ≤ 16777216) (hn : L.length ≤ 1099511627776) :
 Calls Tryz.prog 127 #[.slice a L.length c] w (PackR L.flatten w) := by
 have HP := Lib.hid hp; clear hp
 go_enter Tryz.func127, Tryz.ntmps127
 go_wp2_with fail
 go_loopw [3, 8] (fun v i wr => ∃ (D : List UInt8) (a2 : Option Addr) (cap k : Nat), v = .slice a2 D.length cap ∧ i = .int .i64 k ∧ k ≤ L.length ∧ Hid (D = (L.take k).flatten) ∧ Hid (OwnB wr w.heap.size a2 cap D) ∧ Ext w wr) (fun _ i _ => L.length - (intOf i).toNat)
 case atStart => exact ⟨[], none, 0, 0, rfl, rfl, Nat.zero_le _, Lib.hid rfl, Lib.hid (OwnB.nil _ _), Ext.refl _⟩
 case round =>
  obtain ⟨D, a2, cap, k, rfl, rfl, hk, hD, hown, hext⟩ := hrel
  have hsz := hext.size
  by_cases hlt : k < L.length
  · have hpx := HP.out.ext hext
    obtain ⟨g, off, p, cp, rfl, hcell, hb⟩ := hpx.at hlt
    have hb63 : D.length + (L.getD k []).length ≤ 16777216 := by
     have h1 := flat_take_le L (k + 1)
     rw [flat_take hlt, List.length_append, ← hD.out] at h1
     omega
    obtain ⟨q, hq⟩ : ∃ q, q = L.getD k [] := ⟨_, rfl⟩
    rw [← hq] at hcell hb hb63
    have HQ := Lib.hid hq; clear hq hpx
    have HB := Lib.hid hb; clear hb
    go_wp2_with (at_builtin; refine append_bytes rfl (.tmp 12) (.tmp 13) 215 rfl Tryz.underlying215 w.heap.size a2 cap D q D.length q.length rfl rfl rfl hown.out _ _ rfl HB.out (by omega) hsz ?_; intro ad cap' w2 hown2 hx2)
    go_roundw
    case rel => exact ⟨D ++ q, ad, cap', k + 1, by simp, by go_num, by omega, Lib.hid (by rw [flat_take hlt, ← HQ.out, ← hD.out]), Lib.hid hown2, Below.trans hext hx2⟩
    case measure => simp [intOf]; omega
  · have hkk : k = L.length := by omega
    have hD2 := hD.out
    rw [hkk, List.take_length] at hD2
    subst hD2
    clear hD
    go_wp2
    go_ret
    exact ⟨a2, cap, rfl, hown.out, hext⟩
end Go.Proofs.YtefpllpichhojaaGreatDoor
