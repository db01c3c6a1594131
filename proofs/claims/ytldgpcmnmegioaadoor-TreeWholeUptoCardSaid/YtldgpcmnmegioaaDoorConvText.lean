/- Bytes turned to a text. -/
import Derived.Test.YtldgpcmnmegioaaDoorM1
import Derived.WalkSpells
import Derived.WalkLawsBesides
namespace Go.Proofs.YtldgpcmnmegioaaDoor
open Go.RowKit
theorem addr_add (g off n : Nat) : (⟨g, off, none⟩ : Addr).add n = ⟨g, off + n, none⟩ := by
  unfold Addr.add; split
  · rename_i h0; subst h0; rfl
  · rfl
theorem conv_text {w : World} {a : Option Addr} {p : List UInt8} {c : Nat} (hb : Bytes w a p) :
    (convert 34 9 (.slice a p.length c)).run Tryd.prog w = .ok (.string (bs p)) w := by
  cases a with
  | none =>
    have hp : p = [] := by
      rcases hb with hb | ⟨g, off, ha, _⟩
      · exact hb
      · cases ha
    subst hp
    exact run_convert_bytes_nil w 34 5 Tryd.underlying34 Tryd.underlying5 0 c _ Tryd.underlying9
  | some ad =>
    refine run_convert_bytes_back w _ _ 5 ad c p Tryd.underlying34 Tryd.underlying5 Tryd.underlying9 ?_
    intro j hj
    rcases hb with hb | ⟨g, off, ha, _, hc⟩
    · subst hb; simp at hj
    · have ha := Option.some.inj ha
      subst ha
      have e : (⟨g, off, none⟩ : Addr).add j = ⟨g, off + j, none⟩ := by
        unfold Addr.add; split
        · rename_i h0; subst h0; rfl
        · rfl
      rw [e, hc j hj]
      simp [byteAt, hj]
end Go.Proofs.YtldgpcmnmegioaaDoor
