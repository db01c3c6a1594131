/- PROVED: the statement TreePlays: the tree and the document, dealt with the same batches and reapings, tell the same at every step. Its second form: arguments of a bulk up to the bound of its row. CONDITIONS: those of its row alone (what it lists of Go's library is tied to the program's text). -/
import Derived.Test.YtldgpcmnmegioaaGreatDoorM3
import Derived.Test.YtldgpcmnmegioaaGreatDoorTreePlays
import Derived.Test.YtldgpcmnmegioaaGreatDoorReadPlays
namespace Go.Proofs.YtldgpcmnmegioaaGreatDoor.treePlays
open Go.ChangeShapes Go.WideShapes Go.ChangeAt Go.RowKit
open Go.ChangeMaps (open_string)
set_option maxRecDepth 100000 in
theorem contract (H : Type) (enc : TypeId × Value → H) (W : World) (base : Nat) (args : Array Value) (ds gs : List (DataW H)) (before : List MemPlace)
    (hval : ∀ (j : Nat) t v, Tryz.f3.params[j]? = some t → args[j]? = some v → Value.okWide Tryz.prog W .any base t v)
    (hW : DataW.Whole enc Tryz.prog Tryz.f3.params.toList Rows.treePlaysSpec.vars false W args.toList ds gs before) (hE : Env W) (hcond : ∀ k, (Rows.OpenSpec.upto Rows.treePlaysSpec).cond = some k → k H (ds ++ gs) = true) :
    Calls Tryz.prog 3 args W fun e W' => ∃ v, e = .returned v ∧ Rows.treePlaysSpec.post enc Tryz.prog Tryz.f3 false true false false W args v W' := by
  have hW' := hW
  obtain ⟨p, q, hA0, hV, rfl, hfz, hnd⟩ := hW
  have hA : DataW.TrodAll enc Tryz.prog W 0 (fun _ => true) true Tryz.f3.params.toList args.toList ds p := hA0
  rw [Tryz.params3] at hA hval
  obtain ⟨v0, vs0, d0, ds0, p0, q0, hargs, rfl, rfl, h0, r0⟩ := trodAll_cons hA
  obtain ⟨v1, vs1, d1, ds1, p1, q1, rfl, rfl, rfl, h1, r1⟩ := trodAll_cons r0
  obtain ⟨rfl, rfl, rfl⟩ := trodAll_nil r1
  obtain rfl : args = #[v0, v1] := by cases args; simp_all
  obtain ⟨rfl, rfl⟩ := trodVars_none hV
  have hbk := of_decide_eq_true (hcond _ rfl)
  obtain ⟨x0, rfl, rfl, rfl, hs0⟩ := open_int Tryz.underlying3 (hval 0 3 v0 rfl rfl) h0
  obtain ⟨ad1, B1, c1, rfl, hc1, hB1, hR1, hb1⟩ := open_batches3 (hval 1 22 v1 rfl rfl) h1
  refine (tree_plays x0 ad1 c1 B1 W hE hB1 hR1 (by simp only [Rows.uptoBulkAll, List.append_nil] at hbk; omega) (by have h := sumB2_len (B1.map Prod.fst); rw [List.length_map] at h; simp only [Rows.uptoBulkAll, List.append_nil] at hbk; omega)).mono fun e W' ⟨he, hx⟩ => ?_
  exact ⟨_, he, law_post laidOutP (by kernel_rfl) rfl (by kernel_rfl) Tryz.underlying4 hW' rfl hx⟩
theorem reads (os : Os) {H : Type} (enc : TypeId × Value → H) : ∃ places, DataW.whole enc Tryz.prog ((laidUtf8 os).forCall (fun _ _ => 0) ⟨#[], #[Value.int .i64 0, Value.slice none 0 0], []⟩).memory Tryz.f3.params.toList Rows.treePlaysSpec.vars false (#[Value.int .i64 0, Value.slice none 0 0] : Array Value).toList 8 = some ([.lit (.int .i64 0), .nil], [], places) :=
  ⟨[], by kernel_rfl⟩
set_option maxRecDepth 100000 in
theorem laid_met (os : Os) : laidMet Tryz.prog Rows.treePlaysUptoRow.laid ((laidUtf8 os).forCall (fun _ _ => 0) ⟨#[], #[Value.int .i64 0, Value.slice none 0 0], []⟩).memory :=
  laidMet_of_run' 8 (by kernel_rfl) (by kernel_rfl)
set_option maxRecDepth 100000 in
theorem lifted (os : Os) (started : os.Started) (H : Type) (enc : TypeId × Value → H) (F : Stop.Interp) :
    ReturnsInHanded {} Tryz.checked os 3 .any ((Rows.OpenSpec.upto Rows.treePlaysSpec).preRow enc Tryz.prog Tryz.f3 Rows.treePlaysUptoRow.domain false Rows.treePlaysUptoRow.laid) (((Rows.OpenSpec.upto Rows.treePlaysSpec).at F).post enc Tryz.prog Tryz.f3 false true false false) := by
  obtain ⟨places, hx⟩ := reads os enc
  refine returnsInHanded_of_row (C := Tryz.checked) (s := Rows.OpenSpec.upto Rows.treePlaysSpec) own started (by kernel_rfl) Tryz.func3
    (witness_row_at (enc := enc) (C := Tryz.checked) false (laidUtf8 os) #[Value.int .i64 0, Value.slice none 0 0] rfl (by kernel_rfl) (by kernel_rfl) (by kernel_rfl)
      (OpenSpec.preRow_of_cond 8 hx (by kernel_rfl) (fun k hk => by cases hk; kernel_rfl) (by kernel_rfl) (laid_met os))) ?_
  intro W base args ds gs before hval hW _ hcond _ _ hsh _
  exact contract H enc W base args ds gs before hval hW ⟨hsh⟩ hcond
set_option maxRecDepth 100000 in
theorem said : Rows.TreePlaysUptoSaid :=
  OpenClaim.holds_of_cond 3 Tryz.f3 rfl rfl rfl rfl rfl rfl rfl ⟨rfl, rfl, rfl, rfl, rfl⟩ rfl rfl rfl rfl rfl (by kernel_rfl) Tryz.func3 (by kernel_rfl)
    (of_decide_eq_true (by kernel_rfl)) (by unfold Func.isWrapper; first | (rw [if_pos (by decide +kernel)]; kernel_rfl) | (rw [if_neg (by decide +kernel)]; exact ⟨rfl, rfl⟩))
    (fun os started H enc _ F => by rw [OpenClaim.pre_eq_preRow]; exact lifted os started H enc F)
theorem plain (f : FuncId) (fn : Func) (hf : Tryz.pinned.checked.prog.funcNamed Rows.treePlaysUptoRow.func = some f) (hfn : Tryz.pinned.checked.prog.funcs[f]? = some fn) :
    true = Tryz.pinned.checked.prog.looks [] ∧ ∀ (j : Nat) t, fn.params[j]? = some t → Tryz.pinned.checked.prog.wantsStandIn t = false := by
  obtain rfl : f = 3 := Option.some.inj ((show Tryz.prog.funcNamed Rows.treePlaysUptoRow.func = some 3 by kernel_rfl).symm.trans hf) |>.symm
  obtain rfl : fn = Tryz.f3 := (Option.some.inj (Tryz.func3.symm.trans hfn)).symm
  exact ⟨by kernel_rfl, stand_ins (by kernel_rfl)⟩
set_option maxRecDepth 100000 in
theorem card : Rows.TreePlaysUptoCardSaid :=
  Claim7.holds_tied_plain_at .later [] _ _ _ _ said (fun _ h => by cases h) (by kernel_rfl) (fun _ h => by cases h) treePlaysUpto_row_tie rfl ⟨rfl, rfl⟩ (by kernel_rfl) rfl plain (by kernel_rfl)
end Go.Proofs.YtldgpcmnmegioaaGreatDoor.treePlays
