/- A package, and four bytes, that came in. -/
import Derived.Test.YtnclibfhbngkjaaGreatDoorM2
import Derived.Test.YtnclibfhbngkjaaGreatDoorM1
import Derived.Laws.IdiomArrays
import Derived.OpenShut
namespace Go.Proofs.YtnclibfhbngkjaaGreatDoor
open Go.RowKit Go.WideShapes Go.ChangeShapes Go.Deep
section
variable {H : Type} {enc : TypeId × Value → H} {w : World} {base : Nat} {spare : Nat → Bool} {held : Bool}
def textR1 (_ : World) (cs : List Value) (p : List UInt8) : Prop := cs = [.string (bs p)]
theorem SliceOf.strs1 {a : Option Addr} {L : List (List UInt8)} (h : SliceOf 1 textR1 w a L) : Strs w a L := by
  rcases h with h | ⟨g, off, ha, hg, hc⟩
  · exact Or.inl h
  · refine Or.inr ⟨g, off, ha, hg, fun i hi => ?_⟩
    obtain ⟨cs, _, h2, h3⟩ := hc i hi
    have h3 : cs = [.string (bs L[i])] := h3
    have := h2 0 (by omega)
    rw [h3] at this
    simp only [Nat.mul_one, Nat.add_zero] at this
    rw [this]
    simp [hi]
theorem cells_str1 : Tryz.prog.cellsOf 9 = 1 := by kernel_rfl
/-- A []string that came in. -/
theorem read_texts1 {fuel : Nat} {cs : List Value} {x : DataW H × List MemPlace} (h : DataW.trod enc Tryz.prog w base spare held fuel 28 cs = some x) :
    ∃ (a : Option Addr) (L : List (List UInt8)) (c : Nat), cs = [.slice a L.length c] ∧ L.length ≤ c ∧ Strs w a L := by
  obtain ⟨a, L, c, h1, h2, h3, _⟩ := read_slice (R := textR1) (wt := fun _ => 0) Tryz.underlying28 cells_str1 (by decide) (fun n cs y hy => by
    obtain ⟨s, rfl, rfl, _⟩ := DataW.trod_string Tryz.underlying9 hy
    exact ⟨s.data.toList, by unfold textR1; rw [bs_of], Nat.zero_le _⟩) h
  exact ⟨a, L, c, h1, h2, h3.strs1⟩
theorem list_3 {α : Type} {l : List α} {a b c : α} (hl : l.length = 3) (h0 : l[0]? = some a) (h1 : l[1]? = some b) (h2 : l[2]? = some c) : l = [a, b, c] := by
  match l, hl with
  | [x, y, z], _ => simp at h0 h1 h2; rw [h0, h1, h2]
theorem list_6 {α : Type} {l : List α} {a b c d e f : α} (hl : l.length = 6) (h0 : l[0]? = some a) (h1 : l[1]? = some b) (h2 : l[2]? = some c) (h3 : l[3]? = some d) (h4 : l[4]? = some e) (h5 : l[5]? = some f) : l = [a, b, c, d, e, f] := by
  match l, hl with
  | [x0, x1, x2, x3, x4, x5], _ => simp at h0 h1 h2 h3 h4 h5; rw [h0, h1, h2, h3, h4, h5]
theorem read_u8s {fuel : Nat} {cs : List Value} {x : DataW H × List MemPlace} (h : DataW.trod enc Tryz.prog w base spare held fuel 74 cs = some x) :
    ∃ (a : Option Addr) (l : List UInt8) (c : Nat), cs = [.slice a l.length c] ∧ l.length ≤ c ∧ Bytes w a l := by
  rcases open_ints Tryz.underlying74 Tryz.underlying5 cells_u8 h with ⟨hcs, hx⟩ | ⟨a, len, cap, zs, hcs, _, hl, hm, hz, hx, hcell, hwf⟩
  · exact ⟨none, [], 0, hcs, Nat.le_refl _, Or.inl rfl⟩
  · have hz' : len ≤ zs.length := by rw [hz]; split <;> omega
    have hLl : ((zs.take len).map fun n => UInt8.ofNat n.toNat).length = len := by simp; omega
    refine ⟨some a, (zs.take len).map fun n => UInt8.ofNat n.toNat, cap, by rw [hLl]; exact hcs, by rw [hLl]; exact hl, ?_⟩
    rcases Nat.eq_zero_or_pos len with h0 | h0
    · left; subst h0; simp
    · have hc0 := hcell 0 (by omega)
      have e0 : a.add 0 = a := by simp [Addr.add]
      rw [e0] at hc0
      obtain ⟨g, off, rfl, hlt⟩ := addr_plain hc0
      refine Or.inr ⟨_, _, rfl, hlt, fun i hi => ?_⟩
      have hi' : i < len := by rw [hLl] at hi; exact hi
      have hc := hcell i (by omega)
      rw [add_plain] at hc
      rw [hc]
      have hi2 : i < zs.length := by omega
      have hw := hwf (zs.getD i 0) (by rw [List.getD_eq_getElem?_getD, List.getElem?_eq_getElem hi2]; simp)
      have hb : 0 ≤ zs.getD i 0 ∧ zs.getD i 0 < 256 := by
        simp only [Lit.wf, Bool.and_eq_true, decide_eq_true_eq] at hw
        have h1 : IntKind.u8.min = 0 := by decide
        have h2 : IntKind.u8.max = 255 := by decide
        rw [h1, h2] at hw
        omega
      simp [byteAt, hi', hi2] at hb ⊢
      omega
def needR3 (_ : World) (cs : List Value) (n : NeedD) : Prop := cs = [.string (bs n.name), .int .i64 n.way, .string (bs n.ver)]
def fileR3 (w : World) (cs : List Value) (f : FileD) : Prop := ∃ d c, cs = [.string (bs f.path), .bool f.config, .slice d f.data.length c] ∧ f.data.length ≤ c ∧ Bytes w d f.data
theorem SliceOf.needs {a : Option Addr} {L : List NeedD} (h : SliceOf 3 needR3 w a L) : NeedsM w a L := by
  rcases h with h | ⟨g, off, ha, hg, hc⟩
  · exact Or.inl h
  · refine Or.inr ⟨g, off, ha, hg, fun i hi => ?_⟩
    obtain ⟨cs, _, h2, h3⟩ := hc i hi
    have h3 : cs = [.string (bs L[i].name), .int .i64 L[i].way, .string (bs L[i].ver)] := h3
    have e0 := h2 0 (by omega)
    have e1 := h2 1 (by omega)
    have e2 := h2 2 (by omega)
    rw [h3] at e0 e1 e2
    rw [Nat.add_zero] at e0
    have eD : L.getD i nz = L[i] := by simp [hi]
    rw [eD]
    exact ⟨e0, e1, e2⟩
theorem SliceOf.files {a : Option Addr} {L : List FileD} (h : SliceOf 3 fileR3 w a L) : FilesM w a L := by
  rcases h with h | ⟨g, off, ha, hg, hc⟩
  · exact Or.inl h
  · refine Or.inr ⟨g, off, ha, hg, fun i hi => ?_⟩
    obtain ⟨cs, _, h2, d, c, h3, h4, h5⟩ := hc i hi
    have e0 := h2 0 (by omega)
    have e1 := h2 1 (by omega)
    have e2 := h2 2 (by omega)
    rw [h3] at e0 e1 e2
    rw [Nat.add_zero] at e0
    have eD : L.getD i fz = L[i] := by simp [hi]
    rw [eD]
    exact ⟨e0, e1, d, c, e2, h4, h5⟩
theorem one_need3 {fs : Array Field} (h : Tryz.prog.underlying 68 = some (.struct fs)) : oneCellFields Tryz.prog fs = true ∧ Tryz.prog.cellsOf 68 = fs.size := by
  rw [Tryz.underlying68] at h
  have h := (TypeDesc.struct.inj (Option.some.inj h)).symm
  subst h
  exact ⟨by kernel_rfl, by kernel_rfl⟩
theorem one_file3 {fs : Array Field} (h : Tryz.prog.underlying 76 = some (.struct fs)) : oneCellFields Tryz.prog fs = true ∧ Tryz.prog.cellsOf 76 = fs.size := by
  rw [Tryz.underlying76] at h
  have h := (TypeDesc.struct.inj (Option.some.inj h)).symm
  subst h
  exact ⟨by kernel_rfl, by kernel_rfl⟩
theorem one_pkg6 {fs : Array Field} (h : Tryz.prog.underlying 31 = some (.struct fs)) : oneCellFields Tryz.prog fs = true ∧ Tryz.prog.cellsOf 31 = fs.size := by
  rw [Tryz.underlying31] at h
  have h := (TypeDesc.struct.inj (Option.some.inj h)).symm
  subst h
  exact ⟨by kernel_rfl, by kernel_rfl⟩
theorem cells_need3 : Tryz.prog.cellsOf 68 = 3 := by kernel_rfl
theorem cells_file3 : Tryz.prog.cellsOf 76 = 3 := by kernel_rfl
theorem read_needs {fuel : Nat} {cs : List Value} {x : DataW H × List MemPlace} (h : DataW.trod enc Tryz.prog w base spare held fuel 27 cs = some x) :
    ∃ (a : Option Addr) (L : List NeedD) (c : Nat), cs = [.slice a L.length c] ∧ L.length ≤ c ∧ NeedsM w a L := by
  obtain ⟨o1, o2⟩ := one_need3 Tryz.underlying68
  obtain ⟨a, L, c, h1, h2, h3, _⟩ := read_slice (R := needR3) (wt := fun _ => 0) Tryz.underlying27 cells_need3 (by decide) (fun n cs y hy => by
    obtain ⟨ys, n, hy1, hl, hyl, hf⟩ := read_struct Tryz.underlying68 o1 o2 hy
    obtain ⟨v0, y0, a0, b0, t0⟩ := hf 0 _ rfl
    obtain ⟨v1, y1, a1, b1, t1⟩ := hf 1 _ rfl
    obtain ⟨v2, y2, a2, b2, t2⟩ := hf 2 _ rfl
    obtain ⟨s0, e0, rfl, _⟩ := DataW.trod_string Tryz.underlying9 t0
    obtain ⟨k, e1, rfl, _⟩ := DataW.trod_int Tryz.underlying3 t1
    obtain ⟨s2, e2, rfl, _⟩ := DataW.trod_string Tryz.underlying9 t2
    cases e0
    cases e1
    cases e2
    refine ⟨⟨s0.data.toList, k, s2.data.toList⟩, ?_, Nat.zero_le _⟩
    unfold needR3; rw [bs_of, bs_of]; exact list_3 hl a0 a1 a2) h
  exact ⟨a, L, c, h1, h2, h3.needs⟩
theorem read_files {fuel : Nat} {cs : List Value} {x : DataW H × List MemPlace} (h : DataW.trod enc Tryz.prog w base spare held fuel 29 cs = some x) :
    ∃ (a : Option Addr) (L : List FileD) (c : Nat), cs = [.slice a L.length c] ∧ L.length ≤ c ∧ FilesM w a L := by
  obtain ⟨o1, o2⟩ := one_file3 Tryz.underlying76
  obtain ⟨a, L, c, h1, h2, h3, _⟩ := read_slice (R := fileR3) (wt := fun _ => 0) Tryz.underlying29 cells_file3 (by decide) (fun n cs y hy => by
    obtain ⟨ys, n, hy1, hl, hyl, hf⟩ := read_struct Tryz.underlying76 o1 o2 hy
    obtain ⟨v0, y0, a0, b0, t0⟩ := hf 0 _ rfl
    obtain ⟨v1, y1, a1, b1, t1⟩ := hf 1 _ rfl
    obtain ⟨v2, y2, a2, b2, t2⟩ := hf 2 _ rfl
    obtain ⟨s0, e0, rfl, _⟩ := DataW.trod_string Tryz.underlying9 t0
    obtain ⟨k, e1, rfl⟩ := DataW.trod_bool Tryz.underlying4 t1
    obtain ⟨d, l, c, e2, h4, h5⟩ := read_u8s t2
    cases e0
    cases e1
    cases e2
    refine ⟨⟨s0.data.toList, k, l⟩, ⟨d, c, ?_, h4, h5⟩, Nat.zero_le _⟩
    rw [bs_of]; exact list_3 hl a0 a1 a2) h
  exact ⟨a, L, c, h1, h2, h3.files⟩
theorem read_str1 {fuel : Nat} {cs : List Value} {x : DataW H × List MemPlace} (h : DataW.trod enc Tryz.prog w base spare held fuel 9 cs = some x) : ∃ s : List UInt8, cs = [.string (bs s)] := by
  obtain ⟨s, rfl, rfl, _⟩ := DataW.trod_string Tryz.underlying9 h
  exact ⟨s.data.toList, by rw [bs_of]⟩
/-- A package's six cells that were read. -/
theorem read_pkg {fuel : Nat} {cs : List Value} {x : DataW H × List MemPlace} (h : DataW.trod enc Tryz.prog w base spare held fuel 31 cs = some x) :
    ∃ (p : PkgD) (A : PkgA), cs = [.string (bs p.name), .string (bs p.ver), .slice A.an p.needs.length A.cn, .slice A.ac p.conf.length A.cc, .slice A.af p.files.length A.cf, .slice A.au p.units.length A.cu] ∧ PkgM w p A ∧ PkgC p A := by
  obtain ⟨h1, h2⟩ := one_pkg6 Tryz.underlying31
  obtain ⟨ys, n, hy1, hl, hyl, hff⟩ := read_struct Tryz.underlying31 h1 h2 h
  obtain ⟨v0, y0, a0, b0, t0⟩ := hff 0 _ rfl
  obtain ⟨v1, y1, a1, b1, t1⟩ := hff 1 _ rfl
  obtain ⟨v2, y2, a2, b2, t2⟩ := hff 2 _ rfl
  obtain ⟨v3, y3, a3, b3, t3⟩ := hff 3 _ rfl
  obtain ⟨v4, y4, a4, b4, t4⟩ := hff 4 _ rfl
  obtain ⟨v5, y5, a5, b5, t5⟩ := hff 5 _ rfl
  obtain ⟨nm, e0⟩ := read_str1 t0
  obtain ⟨vr, e1⟩ := read_str1 t1
  obtain ⟨A2, L2, C2, e2, c2, s2⟩ := read_needs t2
  obtain ⟨A3, L3, C3, e3, c3, s3⟩ := read_texts1 t3
  obtain ⟨A4, L4, C4, e4, c4, s4⟩ := read_files t4
  obtain ⟨A5, L5, C5, e5, c5, s5⟩ := read_texts1 t5
  cases e0
  cases e1
  cases e2
  cases e3
  cases e4
  cases e5
  exact ⟨⟨nm, vr, L2, L3, L4, L5⟩, ⟨A2, A3, A4, A5, C2, C3, C4, C5⟩, list_6 hl a0 a1 a2 a3 a4 a5, ⟨s2, s3, s4, s5⟩, ⟨c2, c3, c4, c5⟩⟩
set_option maxRecDepth 100000 in
/-- A package that came in. -/
theorem open_pkg {b0 : Nat} {v : Value} {d : DataW H} {ps : List MemPlace} (hval : Value.okWide Tryz.prog w .any b0 31 v) (hd : DataW.Trod enc Tryz.prog w base spare held 31 v d ps) :
    ∃ (p : PkgD) (A : PkgA), v = pkgV p A ∧ PkgM w p A ∧ PkgC p A := by
  obtain ⟨cs, rfl, _⟩ := okWide_struct Tryz.underlying31 hval
  obtain ⟨fuel, hf⟩ := hd
  obtain ⟨p, A, hcs, hM, hC⟩ := read_pkg hf
  refine ⟨p, A, ?_, hM, hC⟩
  have hcells : (Value.agg cs).cells = cs := rfl
  rw [hcells] at hcs
  have : cs = #[.string (bs p.name), .string (bs p.ver), .slice A.an p.needs.length A.cn, .slice A.ac p.conf.length A.cc, .slice A.af p.files.length A.cf, .slice A.au p.units.length A.cu] := by
    apply Array.ext'
    rw [hcs]
  rw [this]; rfl
end
section
variable {H : Type} {enc : TypeId × Value → H} {w : World} {base : Nat} {spare : Nat → Bool} {held : Bool}

theorem list_4 {α : Type} {l : List α} {a b c d : α} (hl : l.length = 4) (h0 : l[0]? = some a) (h1 : l[1]? = some b) (h2 : l[2]? = some c) (h3 : l[3]? = some d) : l = [a, b, c, d] := by
  match l, hl with
  | [x, y, z, u], _ => simp at h0 h1 h2 h3; rw [h0, h1, h2, h3]
theorem read_u8 {fuel : Nat} {cs : List Value} {x : DataW H × List MemPlace} (h : DataW.trod enc Tryz.prog w base spare held fuel 5 cs = some x) : ∃ b : UInt8, cs = [.int .u8 (b.toNat : Int)] := by
  obtain ⟨n, rfl, _, hw⟩ := DataW.trod_int Tryz.underlying5 h
  have hb : 0 ≤ n ∧ n < 256 := by
    simp only [Lit.wf, Bool.and_eq_true, decide_eq_true_eq] at hw
    have h1 : IntKind.u8.min = 0 := by decide
    have h2 : IntKind.u8.max = 255 := by decide
    rw [h1, h2] at hw
    omega
  refine ⟨UInt8.ofNat n.toNat, ?_⟩
  congr 2
  simp
  omega
































end
end Go.Proofs.YtnclibfhbngkjaaGreatDoor
