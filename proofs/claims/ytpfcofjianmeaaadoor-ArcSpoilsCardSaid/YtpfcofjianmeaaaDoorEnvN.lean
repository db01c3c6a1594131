/- What a world's run of the statements on numerals keeps besides: a table and two errors of Go's library; slices of numbers. -/
import Derived.Test.YtpfcofjianmeaaaDoorEnv
import Derived.Test.YtpfcofjianmeaaaDoorNumSpec
import Derived.Test.YtpfcofjianmeaaaDoorShelf
import Derived.Test.YtpfcofjianmeaaaDoorOwn
namespace Go.Proofs.YtpfcofjianmeaaaDoor
open Go.RowKit
theorem Ext.var {w w' : World} (h : Ext w w') {P : Program} {n : String} {cs : Array Value} (hv : w.var? P n = some cs) : w'.var? P n = some cs := by
  unfold World.var? at hv ⊢
  cases hg : P.globalNamed n with
  | none => rw [hg] at hv; cases hv
  | some g =>
    rw [hg] at hv
    simp only [Option.bind_some] at hv ⊢
    cases ho : w.heap[g]? with
    | none => rw [ho] at hv; cases hv
    | some o => rw [h.heap ho]; rw [ho] at hv; exact hv
structure EnvN (w : World) : Prop where
  env : Env w
  pow : Lib.TabIs Tryd.prog w "internal/strconv.uint64pow10" .u64 Lib.pow10Tab
  one : ∃ t p, w.var? Tryd.prog "strconv.ErrSyntax" = some #[.iface t p]
  two : ∃ t p, w.var? Tryd.prog "strconv.ErrRange" = some #[.iface t p]
theorem EnvN.ext {w w' : World} (h : EnvN w) (k : Ext w w') : EnvN w' := by
  obtain ⟨t1, p1, h1⟩ := h.one
  obtain ⟨t2, p2, h2⟩ := h.two
  exact ⟨h.env.ext k, k.var h.pow, ⟨t1, p1, k.var h1⟩, ⟨t2, p2, k.var h2⟩⟩
theorem ext_grow (w : World) (k : Nat) (os : Array Obj) : Ext w (Go.Sort.grow (w.drewN k) os) := by
  refine ⟨rfl, rfl, rfl, by simp [Go.Sort.grow, World.drewN], fun j hj => ?_⟩
  show (w.heap ++ os)[j]? = _
  rw [Array.getElem?_append_left hj]
/-- strconv.Itoa. -/
theorem itoa_any (n : Int) (h0 : 0 ≤ n) (h1 : n ≤ 9223372036854775807) (w : World) (hE : EnvN w) :
    Calls Tryd.prog 57 #[.int .i64 n] w fun e w' => e = .returned (.string (bs (Lib.itoa n))) ∧ Ext w w' := by
  refine (Tryd.strconv_Itoa n (by omega) h1 w hE.pow).mono ?_
  rintro e w' ⟨rfl, k, os, rfl⟩
  exact ⟨rfl, ext_grow _ _ _⟩
/-- strconv.Atoi of a numeral. -/
theorem atoi_ok (s : ByteArray) (hs : s.size ≤ 1000000) (v : Int) (h : Lib.atoiAll s.data.toList = .ok v) (w : World) :
    Calls Tryd.prog 56 #[.string s] w fun e w' => e = .returned (.tuple #[.int .i64 v, .nilIface]) ∧ Ext w w' := by
  refine (Tryd.strconv_Atoi_ok s (by omega) v h w).mono ?_
  rintro e w' ⟨rfl, rfl | ⟨t, rfl⟩⟩
  · exact ⟨rfl, Ext.refl _⟩
  · exact ⟨rfl, Lib.bytesWorld_below _ _ _⟩
/-- strconv.Atoi of what is none. -/
theorem atoi_not (s : ByteArray) (hs : s.size ≤ 1000000) (h : ∀ v, Lib.atoiAll s.data.toList ≠ .ok v) (w : World) (hE : EnvN w) :
    Calls Tryd.prog 56 #[.string s] w fun e w' => ∃ v t p, e = .returned (.tuple #[.int .i64 v, .iface t p]) ∧ Ext w w' := by
  obtain ⟨t1, p1, h1⟩ := hE.one
  obtain ⟨t2, p2, h2⟩ := hE.two
  cases hh : Lib.atoiAll s.data.toList with
  | ok v => exact absurd hh (h v)
  | range =>
    refine (Go.Proofs.Any.strconv_Atoi_range_var Tryd.laysC172 s (by omega) hh t2 p2 w h2).mono ?_
    rintro e w' ⟨N, rfl, _, _, hb⟩
    exact ⟨_, _, _, rfl, hb⟩
  | _ =>
    refine (Go.Proofs.Any.strconv_Atoi_syntax_var Tryd.laysC172 s (by omega) hh t1 p1 w h1).mono ?_
    rintro e w' ⟨N, rfl, _, _, hb⟩
    exact ⟨_, _, _, rfl, hb⟩

/-- Numbers as a slice's cells. -/
def Nums (w : World) (a : Option Addr) (X : List Nat) : Prop :=
  X = [] ∨ ∃ g off, a = some ⟨g, off, none⟩ ∧ g < w.heap.size ∧ ∀ i, i < X.length → w.cell? ⟨g, off + i, none⟩ = some (.int .i64 (X.getD i 0 : Nat))
theorem Nums.ext {w w' : World} {a : Option Addr} {X : List Nat} (h : Nums w a X) (k : Ext w w') : Nums w' a X := by
  rcases h with h | ⟨g, off, ha, hg, hc⟩
  · exact Or.inl h
  · exact Or.inr ⟨g, off, ha, Nat.lt_of_lt_of_le hg k.size, fun i hi => k.cell (hc i hi)⟩
theorem Nums.at {w : World} {a : Option Addr} {X : List Nat} (h : Nums w a X) (hL : X ≠ []) :
    ∃ g off, a = some ⟨g, off, none⟩ ∧ g < w.heap.size ∧ ∀ i, i < X.length → w.cell? ⟨g, off + i, none⟩ = some (.int .i64 (X.getD i 0 : Nat)) :=
  h.resolve_left hL
/-- Numbers that the call has gathered so far. -/
def OwnN (w : World) (base : Nat) (a : Option Addr) (cap : Nat) (D : List Nat) : Prop := w.ownsRow base 3 1 (.slice a D.length cap) D.length (D.map fun (p : Nat) => .int .i64 (p : Int))
theorem OwnN.nums {w : World} {base : Nat} {a : Option Addr} {cap : Nat} {D : List Nat} (h : OwnN w base a cap D) : Nums w a D ∧ D.length ≤ cap := by
  rcases h.2 with ⟨h1, h2⟩ | ⟨g, c, cur, h1, _, hg, hn, _⟩
  · have : D = [] := List.eq_nil_of_length_eq_zero h2
    subst this; exact ⟨Or.inl rfl, Nat.zero_le _⟩
  · simp only [Value.slice.injEq] at h1
    obtain ⟨rfl, _, rfl⟩ := h1
    refine ⟨Or.inr ⟨g, 0, rfl, (Array.getElem?_eq_some_iff.1 hg).1, fun i hi => ?_⟩, hn⟩
    rw [Nat.zero_add, World.ownsRow.cellAt h i (by omega)]
    simp [hi]
theorem OwnN.nil (w : World) (base : Nat) : OwnN w base none 0 [] := World.ownsRow_nil _ _ _ _
theorem OwnN.ext {w w' : World} {base : Nat} {a : Option Addr} {cap : Nat} {D : List Nat} (h : OwnN w base a cap D) (k : Ext w w') : OwnN w' base a cap D := by
  refine ⟨h.1, ?_⟩
  rcases h.2 with h1 | ⟨g, c, cur, h1, hb, hg, r⟩
  · exact Or.inl h1
  · exact Or.inr ⟨g, c, cur, h1, hb, k.heap hg, r⟩
theorem info_int : (Tryd.prog.info? 3).map (fun i => (i.zero, i.size, i.bytes)) = some (some (.int .i64 0), 1, 8) := by kernel_rfl
/-- 'out = append(out, number)'. -/
theorem append_num {w : World} {ops : Array Oper} {rest : List Oper} {o : Oper} {a : Act} {Q : Exit → Act → World → Prop} (hgd : o.guard = none) (s x : Operand)
    (ho : o.op = .call { callee := .builtin .append, args := #[s, x], argTypes := #[77, 77] })
    (base : Nat) (ad : Option Addr) (cap : Nat) (D : List Nat) (p : Nat) (hs : a.eval s = .slice ad D.length cap) (hown : OwnN w base ad cap D)
    (hx : a.eval x = .slice (some ⟨w.heap.size, 0, none⟩) 1 1)
    (h63 : D.length + 1 ≤ 1099511627776) (hbase : base ≤ w.heap.size)
    (h : ∀ g cap' w', OwnN w' base (some ⟨g, 0, none⟩) cap' (D ++ [p]) → Below base w w' →
      wpList Tryd.prog ops Q rest (a.put o.dst (.slice (some ⟨g, 0, none⟩) (D.length + 1) cap')) w') :
    wpList Tryd.prog ops Q (o :: rest) a (w.alloc (.cells #[.int .i64 (p : Int)] 3)) := by
  refine append_one hgd s x _ ho 3 (.int .i64 0) 8 Tryd.underlying77 info_int rfl base ad D.length cap _ hs hown (.int .i64 (p : Int)) rfl hx h63 (by decide) hbase ?_
  intro g cap' w' hown' hcap hb _
  refine h g cap' w' ?_ hb
  unfold OwnN
  simp only [List.length_append, List.length_cons, List.length_nil, List.map_append, List.map_cons, List.map_nil]
  exact hown'
end Go.Proofs.YtpfcofjianmeaaaDoor
