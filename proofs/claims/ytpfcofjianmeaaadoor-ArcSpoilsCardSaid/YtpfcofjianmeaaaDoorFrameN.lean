/- What the frames of the statements on numerals share: a world in which five tables and two errors of Go's library are laid; what a walk reads of them. -/
import Derived.Test.YtpfcofjianmeaaaDoorFrame
import Derived.Test.YtpfcofjianmeaaaDoorEnvN
import Derived.Deep.DeepWitnessRowRef
import Derived.Stop.LaidErr
namespace Go.Proofs.YtpfcofjianmeaaaDoor
open Go.RowKit
theorem star_err : "*" ++ "errors.errorString" = "*errors.errorString" := by decide
theorem row_err (u : TypeId) (h : Tryd.prog.typeName? 3 u = some "*errors.errorString") : u = 125 :=
  typeName_ptr_named (nm := "errors.errorString") (by rw [star_err]; kernel_rfl) (by kernel_rfl) (by decide) u (by rw [star_err]; exact h)
/-- The row's list. -/
def listN : List (String × DataW Unit) := [("math/bits.deBruijn32tab", Rows.laid_math_bits_deBruijn32tab), ("math/bits.deBruijn64tab", Rows.laid_math_bits_deBruijn64tab), ("internal/strconv.uint64pow10", Rows.laid_internal_strconv_uint64pow10), ("unicode/utf8.acceptRanges", Rows.laid_unicode_utf8_acceptRanges), ("strconv.ErrRange", Rows.laid_strconv_ErrRange), ("strconv.ErrSyntax", Rows.laid_strconv_ErrSyntax), ("unicode/utf8.first", Rows.laid_unicode_utf8_first)]
theorem envN_of {W : World} (hL : laidMet Tryd.prog listN W) (hs : W.ShapedOpen Tryd.prog) : EnvN W := by
  have h2 := hL.tail.tail
  have h4 := h2.tail.tail
  have h5 := h4.tail
  obtain ⟨a0, t0, hv0, _⟩ := laid_sentinel (g := 2) h4 (by kernel_rfl) (by kernel_rfl) Tryd.underlying91 row_err Tryd.underlying125 Tryd.underlying127 rfl rfl Tryd.underlying9 (by kernel_rfl) (by kernel_rfl)
  obtain ⟨a1, t1, hv1, _⟩ := laid_sentinel (g := 1) h5 (by kernel_rfl) (by kernel_rfl) Tryd.underlying91 row_err Tryd.underlying125 Tryd.underlying127 rfl rfl Tryd.underlying9 (by kernel_rfl) (by kernel_rfl)
  exact ⟨⟨hs⟩, Lib.tabIs_of_head (g := 3) (by kernel_rfl) (by kernel_rfl) Tryd.underlying129 Tryd.underlying111 (by kernel_rfl) (by kernel_rfl) h2, ⟨_, _, hv1⟩, ⟨_, _, hv0⟩⟩
def ofData : DataW Unit → Array Value
  | .agg ds => (ds.map fun | .lit (.int k z) => Value.int k z | _ => Value.bool false).toArray
  | _ => #[]
noncomputable def laidNum (os : Os) : World :=
  let N := (World.settled Tryd.prog os).heap.size
  let w0 := World.holding Tryd.prog os ⟨#[
    .cells #[.string ⟨#[118, 97, 108, 117, 101, 32, 111, 117, 116, 32, 111, 102, 32, 114, 97, 110, 103, 101]⟩] 127,
    .cells #[.string ⟨#[105, 110, 118, 97, 108, 105, 100, 32, 115, 121, 110, 116, 97, 120]⟩] 127], #[], []⟩
  let w1 := layCells w0 2 #[.iface 125 (.pointer (some ⟨N, 0, none⟩))]
  let w2 := layCells w1 1 #[.iface 125 (.pointer (some ⟨N + 1, 0, none⟩))]
  let w3 := layCells w2 3 (ofData Rows.laid_internal_strconv_uint64pow10)
  let w4 := layCells w3 6 (ofData Rows.laid_math_bits_deBruijn32tab)
  let w5 := layCells w4 7 (ofData Rows.laid_math_bits_deBruijn64tab)
  layCells (layCells w5 4 cellsFirst) 5 cellsRanges
end Go.Proofs.YtpfcofjianmeaaaDoor
