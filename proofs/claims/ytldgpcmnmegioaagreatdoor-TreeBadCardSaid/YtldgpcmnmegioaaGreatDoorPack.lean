/- rec's packers: numbers, bytes, texts, lists of parts. -/
import Derived.Test.YtldgpcmnmegioaaGreatDoorRecRaw
import Derived.Test.YtldgpcmnmegioaaGreatDoorM3
import Derived.Outline
import Derived.Lib.ConvBytes
namespace Go.Proofs.YtldgpcmnmegioaaGreatDoor
open Go.RowKit
/-- What a packer gives. -/
def PackR (l : List UInt8) (w : World) (e : Ending) (w' : World) : Prop := ∃ a c, e = .returned (.slice a l.length c) ∧ OwnB w' w.heap.size a c l ∧ Ext w w'
/-- A call that wrote nothing older than base, behind one that wrote nothing at all. -/
theorem Ext.of_below' {a b c : World} (h : Ext a b) (k : Below a.heap.size b c) : Ext a c := Below.trans h k
theorem byte_of (n : Nat) : ((UInt8.ofNat n).toNat : Int) = (n : Int) % 256 := by
  rw [UInt8.toNat_ofNat']; omega
theorem ownB_lit (w : World) (cs : Array Value) (l : List UInt8) (h : cs.toList = l.map fun b => Value.int .u8 (b.toNat : Int)) (hl : l.length ≤ 1099511627776) :
    OwnB (w.alloc (.cells cs 5)) w.heap.size (some ⟨w.heap.size, 0, none⟩) l.length l := by
  have hcs : cs.size = l.length := by rw [← Array.length_toList, h, List.length_map]
  refine ⟨by simp, Or.inr ⟨w.heap.size, l.length, cs, rfl, Nat.le_refl _, heap_alloc_new w _, Nat.le_refl _, by unfold maxLen; omega, by rw [hcs, Nat.mul_one], ?_⟩⟩
  rw [h, Nat.mul_one, List.take_of_length_le (by simp)]
theorem rec_number (n : Nat) (hn : n < 4294967296) (w : World) :
    Calls Tryz.prog 62 #[.int .u32 (n : Int)] w (PackR (num4 n) w) := by
  have e0 := byte_of n
  have e1 := byte_of (n / 256)
  have e2 := byte_of (n / 65536)
  have e3 := byte_of (n / 16777216)
  have H := Lib.hid (And.intro e0 (And.intro e1 (And.intro e2 e3)))
  clear e0 e1 e2 e3
  go_enter Tryz.func62, Tryz.ntmps62
  go_wp2_with fail
  go_ret
  refine ⟨_, _, rfl, ownB_lit _ _ (num4 n) ?_ (by simp [num4_len]), Ext.alloc _ _⟩
  obtain ⟨e0, e1, e2, e3⟩ := H.out
  simp only [num4, List.map_cons, List.map_nil, e0, e1, e2, e3]
  simp
  omega
theorem rec_num (n : Int) (w : World) :
    Calls Tryz.prog 43 #[.int .i64 n] w (PackR (numI n) w) := by
  have e : n % 4294967296 = ((u32 n : Nat) : Int) := by unfold u32; omega
  have hn := rec_number (u32 n) (u32_lt n)
  have H := Lib.hid hn; clear hn
  go_enter Tryz.func43, Tryz.ntmps43
  go_wp2_with fail
  refine (H.out _).mono ?_
  rintro e1 w1 ⟨a, c, rfl, hown, hx⟩
  have HO := Lib.hid hown; clear hown
  have HX := Lib.hid hx; clear hx
  go_wp2_with fail
  go_ret
  exact ⟨a, c, rfl, HO.out, HX.out⟩
theorem rec_raw (a : Option Addr) (c : Nat) (l : List UInt8) (w : World) (hb : Bytes w a l) (hl : l.length ≤ 16777216) :
    Calls Tryz.prog 45 #[.slice a l.length c] w (PackR (raw4 l) w) := by
  have HB := Lib.hid hb; clear hb
  have hn := rec_number l.length (by omega)
  have H := Lib.hid hn; clear hn
  go_enter Tryz.func45, Tryz.ntmps45
  go_wp2_with fail
  refine (H.out _).mono ?_
  rintro e1 w1 ⟨a1, c1, rfl, hown, hx⟩
  have HO := Lib.hid hown; clear hown
  have HX := Lib.hid hx; clear hx
  go_wp2_with (at_builtin; refine append_bytes rfl (.tmp 6) (.tmp 7) 36 rfl Tryz.underlying36 w.heap.size a1 c1 (num4 l.length) l 4 l.length rfl rfl rfl HO.out _ _ rfl (HB.out.ext HX.out) (by omega) HX.out.size ?_; intro ad cap w2 hown hx; have HO2 := Lib.hid hown; clear hown; have HX2 := Lib.hid hx; clear hx)
  go_ret
  refine ⟨ad, cap, ?_, HO2.out, Ext.of_below' HX.out HX2.out⟩
  rw [raw4_len]; rfl
theorem bytes_made (w : World) (s : ByteArray) : Bytes (Lib.bytesWorld w 5 s) (some ⟨w.heap.size, 0, none⟩) s.data.toList := by
  refine Or.inr ⟨w.heap.size, 0, rfl, by rw [Lib.bytesWorld_size]; omega, fun i hi => ?_⟩
  rw [Nat.zero_add, Lib.bytesWorld_cell w _ s i (by simpa using hi)]
  rfl
theorem rec_text (s : ByteArray) (hs : s.size ≤ 16777216) (w : World) :
    Calls Tryz.prog 44 #[.string s] w (PackR (raw4 s.data.toList) w) := by
  have hc := fun w' => Lib.run_convert_string_bytes (P := Tryz.prog) w' 9 36 5 s Tryz.underlying9 Tryz.underlying36 Tryz.underlying5
  have hr := fun c => rec_raw (some ⟨w.heap.size, 0, none⟩) c s.data.toList _ (bytes_made w s) (by rw [size_len]; exact hs)
  rw [size_len] at hr
  have H := Lib.hid hr; clear hr
  go_enter Tryz.func44, Tryz.ntmps44
  go_wp2_with fail
  refine (H.out _).mono ?_
  rintro e1 w1 ⟨a1, c1, rfl, hown, hx⟩
  have HO := Lib.hid hown; clear hown
  have HX := Lib.hid hx; clear hx
  go_wp2_with fail
  go_ret
  have hx1 : Ext w (Lib.bytesWorld w 5 s) := ⟨rfl, rfl, rfl, by rw [Lib.bytesWorld_size]; omega, fun j hj => Lib.bytesWorld_at_old w _ s j hj⟩
  exact ⟨a1, c1, rfl, ⟨HO.out.1, HO.out.2.imp id (fun ⟨g, c, cur, h1, h2, h3⟩ => ⟨g, c, cur, h1, Nat.le_trans hx1.size h2, h3⟩)⟩, hx1.trans HX.out⟩
/-- Parts in memory, in blocks of a kind. -/
def PartsS (S : Nat → Prop) (w : World) (vs : List Value) (L : List (List UInt8)) : Prop :=
  vs.length = L.length ∧ ∀ i, i < L.length → ∃ p c, vs[i]? = some (.slice p (L.getD i []).length c) ∧ BytesS S w p (L.getD i [])
theorem PartsS.keep {S : Nat → Prop} {w w' : World} {vs : List Value} {L : List (List UInt8)} (h : PartsS S w vs L) (k : Keep S w w') : PartsS S w' vs L :=
  ⟨h.1, fun i hi => by obtain ⟨p, c, h1, h2⟩ := h.2 i hi; exact ⟨p, c, h1, Row.keep h2 k⟩⟩
theorem PartsS.mono {S T : Nat → Prop} {w : World} {vs : List Value} {L : List (List UInt8)} (h : PartsS S w vs L) (hT : ∀ k, k < w.heap.size → S k → T k) : PartsS T w vs L :=
  ⟨h.1, fun i hi => by obtain ⟨p, c, h1, h2⟩ := h.2 i hi; exact ⟨p, c, h1, Row.mono h2 hT⟩⟩
theorem PartsS.append {S : Nat → Prop} {w : World} {us vs : List Value} {K L : List (List UInt8)} (h : PartsS S w us K) (k : PartsS S w vs L) : PartsS S w (us ++ vs) (K ++ L) := by
  refine ⟨by simp [h.1, k.1], fun i hi => ?_⟩
  by_cases hk : i < K.length
  · obtain ⟨p, c, h1, h2⟩ := h.2 i hk
    refine ⟨p, c, ?_, ?_⟩
    · rw [List.getElem?_append_left (by rw [h.1]; exact hk), h1]
      simp [List.getD_eq_getElem?_getD, List.getElem?_append_left hk]
    · simpa [List.getD_eq_getElem?_getD, List.getElem?_append_left hk] using h2
  · have hi' : i - K.length < L.length := by simp at hi; omega
    obtain ⟨p, c, h1, h2⟩ := k.2 (i - K.length) hi'
    have e : (K ++ L).getD i [] = L.getD (i - K.length) [] := by simp [List.getD_eq_getElem?_getD, List.getElem?_append_right (show K.length ≤ i by omega)]
    refine ⟨p, c, ?_, ?_⟩
    · rw [List.getElem?_append_right (by rw [h.1]; omega), h.1, h1, e]
    · rw [e]; exact h2
theorem PartsS.nil (S : Nat → Prop) (w : World) : PartsS S w [] [] := ⟨rfl, fun i hi => by simp at hi⟩
theorem PartsS.one {S : Nat → Prop} {w : World} {p : Option Addr} {c : Nat} {l : List UInt8} (h : BytesS S w p l) : PartsS S w [.slice p l.length c] [l] := by
  refine ⟨rfl, fun i hi => ?_⟩
  have : i = 0 := by simp at hi; exact hi
  subst this
  exact ⟨p, c, rfl, h⟩
theorem PartsS.cons {S : Nat → Prop} {w : World} {p : Option Addr} {c : Nat} {l : List UInt8} {vs : List Value} {L : List (List UInt8)} (h : BytesS S w p l) (k : PartsS S w vs L) : PartsS S w (.slice p l.length c :: vs) (l :: L) := (PartsS.one h).append k
/-- A slice of parts. -/
def Parts (w : World) (a : Option Addr) (L : List (List UInt8)) : Prop := ∃ vs, Row (fun _ => True) w a vs ∧ PartsS (fun _ => True) w vs L
theorem Parts.ext {w w' : World} {a : Option Addr} {L : List (List UInt8)} (h : Parts w a L) (k : Ext w w') : Parts w' a L := by
  obtain ⟨vs, h1, h2⟩ := h
  exact ⟨vs, h1.keep (Keep.of_ext k), h2.keep (Keep.of_ext k)⟩
theorem Parts.at {w : World} {a : Option Addr} {L : List (List UInt8)} (h : Parts w a L) {i : Nat} (hi : i < L.length) :
    ∃ g off p c, a = some ⟨g, off, none⟩ ∧ w.cell? ⟨g, off + i, none⟩ = some (.slice p (L.getD i []).length c) ∧ Bytes w p (L.getD i []) := by
  obtain ⟨vs, h1, h2⟩ := h
  obtain ⟨p, c, h3, h4⟩ := h2.2 i hi
  have hv : i < vs.length := by rw [h2.1]; exact hi
  obtain ⟨g, off, ha, _, _, hc⟩ := h1.at (by intro e; rw [e] at hv; simp at hv)
  exact ⟨g, off, p, c, ha, (hc i hv).trans h3, h4.bytes⟩
end Go.Proofs.YtldgpcmnmegioaaGreatDoor
