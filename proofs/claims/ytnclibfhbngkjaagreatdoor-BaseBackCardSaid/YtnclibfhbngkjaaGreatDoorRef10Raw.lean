/- The document's packer of packages: numbers, bytes; conversions and appends in whatever order. -/
import Derived.Test.YtnclibfhbngkjaaGreatDoorPack
import Derived.Test.YtnclibfhbngkjaaGreatDoorM1
import Derived.Deep.AppendLies
import Derived.Deep.RegionHeld3
namespace Go.Proofs.YtnclibfhbngkjaaGreatDoor
open Go.RowKit
/-- A conversion between a text and bytes, under a name of its own: so that a drawn region doesn't try to take it first. -/
def cvOp (s t : TypeId) (x : Operand) : Op := .convert s t x
theorem cvOp_eq (s t : TypeId) (x : Operand) : cvOp s t x = .convert s t x := rfl
theorem cv_text (x : Operand) : Op.convert 9 74 x = cvOp 9 74 x := rfl
theorem cv_bytes (x : Operand) : Op.convert 74 9 x = cvOp 74 9 x := rfl
theorem num10 (n : Nat) (hn : n < 4294967296) (w : World) :
    Calls Tryz.prog 75 #[.int .i64 (n : Int)] w (PackR (num4 n) w) := by
  have e0 := byte_of n
  have e1 := byte_of (n / 256)
  have e2 := byte_of (n / 65536)
  have e3 := byte_of (n / 16777216)
  have H := Lib.hid (And.intro e0 (And.intro e1 (And.intro e2 e3)))
  clear e0 e1 e2 e3
  go_enter Tryz.func75, Tryz.ntmps75
  go_wp2_with fail
  go_ret
  refine ⟨_, _, rfl, ownB_lit _ _ (num4 n) ?_ (by simp [num4_len]), Ext.alloc _ _⟩
  obtain ⟨e0, e1, e2, e3⟩ := H.out
  simp only [num4, List.map_cons, List.map_nil, e0, e1, e2, e3]
  simp
  try omega
theorem raw10 (a : Option Addr) (c n : Nat) (l : List UInt8) (w : World) (hn : l.length = n) (hb : Bytes w a l) (hl : n ≤ 16777216) :
    Calls Tryz.prog 74 #[.slice a n c] w (PackR (raw4 l) w) := by
  subst hn
  have HB := Lib.hid hb; clear hb
  have hn := num10 l.length (by omega)
  have H := Lib.hid hn; clear hn
  go_enter Tryz.func74, Tryz.ntmps74
  go_wp2_with fail
  refine (H.out _).mono ?_
  rintro e1 w1 ⟨a1, c1, rfl, hown, hx⟩
  have HO := Lib.hid hown; clear hown
  have HX := Lib.hid hx; clear hx
  go_wp2_with (at_builtin; refine append_bytes rfl (.tmp 5) (.tmp 6) 74 rfl Tryz.underlying74 w.heap.size a1 c1 (num4 l.length) l 4 l.length rfl rfl rfl HO.out _ _ rfl (HB.out.ext HX.out) (by omega) HX.out.size ?_; intro ad cap w2 hown hx; have HO2 := Lib.hid hown; clear hown; have HX2 := Lib.hid hx; clear hx)
  go_ret
  refine ⟨ad, cap, ?_, HO2.out, Ext.of_below' HX.out HX2.out⟩
  rw [raw4_len]; rfl
theorem OwnB.at_pos {w : World} {base : Nat} {a : Option Addr} {cap : Nat} {D : List UInt8} (h : OwnB w base a cap D) (hD : 0 < D.length) : ∃ g, a = some ⟨g, 0, none⟩ := by
  rcases h.2 with ⟨_, h2⟩ | ⟨g, c, cur, h1, _⟩
  · omega
  · simp only [Value.slice.injEq] at h1
    exact ⟨g, h1.1⟩
/-- Bytes that a conversion made. -/
def ConvB (w : World) (c : Nat) (l : List UInt8) : Prop := ∃ cs m, w.heap[c]? = some (.cells cs 5 (m, m + 1)) ∧ Bytes w (some ⟨c, 0, none⟩) l
theorem ConvB.ext {w w' : World} {c : Nat} {l : List UInt8} (h : ConvB w c l) (k : Ext w w') : ConvB w' c l := by
  obtain ⟨cs, m, h1, h2⟩ := h
  exact ⟨cs, m, k.heap h1, h2.ext k⟩
theorem ConvB.keep {w w' : World} {c : Nat} {l : List UInt8} {base k : Nat} {ad : Option Addr} {cap : Nat} {D : List UInt8} (h : ConvB w c l) (hown : OwnB w base ad cap D) (hk : D.length = k)
    (hkp : Keep (fun j => some j ≠ (Value.slice ad k cap).ownBlock) w w') : ConvB w' c l := by
  obtain ⟨cs, m, h1, h2⟩ := h
  have hne : some c ≠ (Value.slice ad k cap).ownBlock := by
    subst hk
    rcases hown.2 with ⟨e, _⟩ | ⟨g, c2, cur, e, _, hg, _⟩
    · rw [e]; simp [Value.ownBlock]
    · rw [e]
      intro e2
      have e3 : c = g := by simpa [Value.ownBlock] using e2
      rw [e3, hg] at h1
      have := Option.some.inj h1
      simp at this
  refine ⟨cs, m, hkp.heap hne h1, ?_⟩
  rcases h2 with h2 | ⟨g, off, ha, hlt, hc⟩
  · exact Or.inl h2
  · have ha' := ha
    simp only [Option.some.injEq, Addr.mk.injEq, and_true] at ha'
    obtain ⟨rfl, rfl⟩ := ha'
    exact Or.inr ⟨c, 0, rfl, Nat.lt_of_lt_of_le hlt hkp.size, fun i hi => hkp.cell hne (hc i hi)⟩
theorem ConvB.new (w : World) (s : ByteArray) : ConvB (Lib.bytesWorld w 5 s) w.heap.size s.data.toList := ⟨_, _, Lib.bytesWorld_at_new w _ s, bytes_made w s⟩
theorem bytesWorld_ext (w : World) (s : ByteArray) : Ext w (Lib.bytesWorld w 5 s) := ⟨rfl, rfl, rfl, by rw [Lib.bytesWorld_size]; omega, fun j hj => Lib.bytesWorld_at_old w _ s j hj⟩
section
variable {ops : Array Oper} {o : Oper} {a : Act} {Q : Exit → Act → World → Prop} {W : World} {K : Act → World → Prop}
/-- '[]byte(text)'. -/
theorem wp_conv (x : Operand) (ho : o.op = .convert 9 74 x) (l : List UInt8) (hx : a.eval x = .string (bs l))
    (h : ∀ g c w', W.heap.size = g → ConvB w' g l → Ext W w' → K (a.put o.dst (.slice (some ⟨g, 0, none⟩) l.length c)) w') : o.wp Tryz.prog a W K Q := by
  have hr := Lib.run_convert_string_bytes (P := Tryz.prog) W 9 74 5 (bs l) Tryz.underlying9 Tryz.underlying74 Tryz.underlying5
  unfold Oper.wp execOp
  simp only [ho, Sem.run_bind, Sem.run_pure, hx, hr, Result.andThen_ok]
  have := h W.heap.size (grownCap W (bs l).size 0 5) _ rfl (by have := ConvB.new W (bs l); rwa [bs_data] at this) (bytesWorld_ext W (bs l))
  rw [bs_size] at this ⊢
  exact this
/-- 'append(out, b...)', b not empty. -/
theorem wp_app (s x : Operand) (ho : o.op = .call { callee := .builtin .append, args := #[s, x], argTypes := #[74, 74] })
    (base : Nat) (ad : Option Addr) (cap : Nat) (D p : List UInt8) (k m : Nat) (hk : D.length = k) (hm : p.length = m) (hs : a.eval s = .slice ad k cap) (hown : OwnB W base ad cap D)
    (b : Option Addr) (c : Nat) (hx : a.eval x = .slice b m c) (hb : Bytes W b p) (hpos : 0 < m) (h63 : k + m ≤ 1099511627776) (hbase : base ≤ W.heap.size)
    (h : ∀ g cap' w', OwnB w' base (some ⟨g, 0, none⟩) cap' (D ++ p) → Keep (fun j => some j ≠ (Value.slice ad k cap).ownBlock) W w' → Below base W w' → K (a.put o.dst (.slice (some ⟨g, 0, none⟩) (k + m) cap')) w') : o.wp Tryz.prog a W K Q := by
  subst hk hm
  obtain ⟨i0, hi0, hz0, hz1, hz2⟩ := info_parts info_byte
  obtain ⟨gb, off, rfl, _, hc⟩ := hb.at (by intro e; rw [e] at hpos; simp at hpos)
  have hcells : ∀ j u, (p.map fun b => Value.int .u8 (b.toNat : Int))[j]? = some u → W.cell? ((⟨gb, off, none⟩ : Addr).add j) = some u := by
    intro j u hj
    have hj' : j < p.length := by
      have := (List.getElem?_eq_some_iff.1 hj).1
      simpa using this
    have e : (⟨gb, off, none⟩ : Addr).add j = ⟨gb, off + j, none⟩ := by
      unfold Addr.add; split
      · rename_i h0; subst h0; rfl
      · rfl
    rw [e, hc j hj']
    simp [hj'] at hj
    rw [← hj]; simp [byteAt, hj']
  refine wp_append_lies _ s x _ ho base 5 i0 _ 1 1 Tryz.underlying74 hi0 hz0 hz1 hz2 rfl (by omega) (.slice ad D.length cap) D.length _ hs hown ⟨gb, off, none⟩ p.length c _ hx (by simp) hcells
    (by intro u hu; simp at hu; obtain ⟨b, _, rfl⟩ := hu; rfl) hpos (by unfold maxLen; omega) (by omega) hbase _ rfl ?_
  intro g cap' w' hown' hg hat _
  refine h g cap' w' ?_ (Keep.of_grown hg) ((Below.refl _ _).grown hg hbase (fun k hk => (World.ownsRow.lt hown k hk).1))
  unfold OwnB
  rw [List.length_append, List.map_append]
  exact hown'
/-- A guard: is it this append? -/
theorem at_app {E : Prop} {d : Option Tmp} {tt : Array TypeId} {ty : TypeId} {pos : String} {af : Array Edge} {gd : Option (Nat × Bool)} {y : Nat → Option Bool} (s x : Operand)
    (h : if Region.wanted ⟨d, .call { callee := .builtin .append, args := #[s, x], argTypes := tt }, ty, pos, af, gd⟩ y = true then Oper.wp Tryz.prog ⟨d, .call { callee := .builtin .append, args := #[s, x], argTypes := tt }, ty, pos, af, gd⟩ a W K Q else E) :
    if Region.wanted ⟨d, .call { callee := .builtin .append, args := #[s, x], argTypes := tt }, ty, pos, af, gd⟩ y = true then Oper.wp Tryz.prog ⟨d, .call { callee := .builtin .append, args := #[s, x], argTypes := tt }, ty, pos, af, gd⟩ a W K Q else E := h
theorem upon_conv {f : Value → World → Result Next} (l : List UInt8)
    (h : ∀ g c w', W.heap.size = g → ConvB w' g l → Ext W w' → Oper.upon Tryz.prog o a K Q ((Result.ok (.slice (some ⟨g, 0, none⟩) l.length c) w').andThen f)) :
    Oper.upon Tryz.prog o a K Q ((Sem.run Tryz.prog (convert 9 74 (.string (bs l))) W).andThen f) := by
  have hr := Lib.run_convert_string_bytes (P := Tryz.prog) W 9 74 5 (bs l) Tryz.underlying9 Tryz.underlying74 Tryz.underlying5
  rw [hr]
  have := h W.heap.size (grownCap W (bs l).size 0 5) _ rfl (by have := ConvB.new W (bs l); rwa [bs_data] at this) (bytesWorld_ext W (bs l))
  rw [bs_size] at this ⊢
  exact this
theorem step_conv {E : Prop} (hgd : o.guard = none) (x : Operand) (ho : o.op = .convert 9 74 x) (l : List UInt8) (hx : a.eval x = .string (bs l))
    (h : ∀ g c w', W.heap.size = g → ConvB w' g l → Ext W w' → K (a.put o.dst (.slice (some ⟨g, 0, none⟩) l.length c)) w') :
    if Region.wanted o (yielded ops a.tmps) = true then Oper.wp Tryz.prog o a W K Q else E := by
  have hw : Region.wanted o (yielded ops a.tmps) = true := by simp [Region.wanted, hgd]
  rw [if_pos hw]
  exact wp_conv x ho l hx h
theorem step_app {E : Prop} (hgd : o.guard = none) (s x : Operand) (ho : o.op = .call { callee := .builtin .append, args := #[s, x], argTypes := #[74, 74] })
    (base : Nat) (ad : Option Addr) (cap : Nat) (D p : List UInt8) (k m : Nat) (hk : D.length = k) (hm : p.length = m) (hs : a.eval s = .slice ad k cap) (hown : OwnB W base ad cap D)
    (b : Option Addr) (c : Nat) (hx : a.eval x = .slice b m c) (hb : Bytes W b p) (hpos : 0 < m) (h63 : k + m ≤ 1099511627776) (hbase : base ≤ W.heap.size)
    (h : ∀ g cap' w', OwnB w' base (some ⟨g, 0, none⟩) cap' (D ++ p) → Keep (fun j => some j ≠ (Value.slice ad k cap).ownBlock) W w' → Below base W w' → K (a.put o.dst (.slice (some ⟨g, 0, none⟩) (k + m) cap')) w') :
    if Region.wanted o (yielded ops a.tmps) = true then Oper.wp Tryz.prog o a W K Q else E := by
  have hw : Region.wanted o (yielded ops a.tmps) = true := by simp [Region.wanted, hgd]
  rw [if_pos hw]
  exact wp_app s x ho base ad cap D p k m hk hm hs hown b c hx hb hpos h63 hbase h
end
end Go.Proofs.YtnclibfhbngkjaaGreatDoor
