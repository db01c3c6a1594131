/- PROVED: the statement TxnLong: of whatever upgrade, how many bytes it has hangs on its moves and names alone; its second form: arguments of a bulk up to the bound of its row. CONDITIONS: those of its row alone (what it lists of Go's library is tied to the program's text). -/
import Derived.Test.YtedfpoidggpkdaaDoorReadTxn
import Derived.Test.YtedfpoidggpkdaaDoorTxnLong
namespace Go.Proofs.YtedfpoidggpkdaaDoor.txnLong
open Go.ChangeShapes Go.WideShapes Go.ChangeAt Go.RowKit
open Go.ChangeMaps (open_string)
set_option maxRecDepth 100000 in
theorem contract (H : Type) (enc : TypeId × Value → H) (W : World) (base : Nat) (args : Array Value) (ds gs : List (DataW H)) (before : List MemPlace)
    (hval : ∀ (j : Nat) t v, Tryd.f7.params[j]? = some t → args[j]? = some v → Value.okWide Tryd.prog W .any base t v)
    (hW : DataW.Whole enc Tryd.prog Tryd.f7.params.toList Rows.txnLongSpec.vars false W args.toList ds gs before) (hE : Env W) (hcond : ∀ k, (Rows.OpenSpec.upto Rows.txnLongSpec).cond = some k → k H (ds ++ gs) = true) :
    Calls Tryd.prog 7 args W fun e W' => ∃ v, e = .returned v ∧ Rows.txnLongSpec.post enc Tryd.prog Tryd.f7 false true false false W args v W' := by
  have hW' := hW
  obtain ⟨p, q, hA0, hV, rfl, hfz, hnd⟩ := hW
  have hA : DataW.TrodAll enc Tryd.prog W 0 (fun _ => true) true Tryd.f7.params.toList args.toList ds p := hA0
  rw [Tryd.params7] at hA hval
  obtain ⟨v0, vs0, d0, ds0, p0, q0, hargs, rfl, rfl, h0, r0⟩ := trodAll_cons hA
  obtain ⟨v1, vs1, d1, ds1, p1, q1, rfl, rfl, rfl, h1, r1⟩ := trodAll_cons r0
  obtain ⟨v2, vs2, d2, ds2, p2, q2, rfl, rfl, rfl, h2, r2⟩ := trodAll_cons r1
  obtain ⟨rfl, rfl, rfl⟩ := trodAll_nil r2
  obtain rfl : args = #[v0, v1, v2] := by cases args; simp_all
  obtain ⟨rfl, rfl⟩ := trodVars_none hV
  have hbk := of_decide_eq_true (hcond _ rfl)
  obtain ⟨t0, am, ac, ag, cm, cc, cg, rfl, hM0, hC0, hG0, hl0⟩ := open_txn (hval 0 38 v0 rfl rfl) h0
  obtain ⟨x1, rfl, rfl, rfl, hs1⟩ := open_int Tryd.underlying3 (hval 1 3 v1 rfl rfl) h1
  obtain ⟨x2, rfl, rfl, rfl, hs2⟩ := open_int Tryd.underlying3 (hval 2 3 v2 rfl rfl) h2
  refine (txn_long t0 am ac ag cm cc cg x1 x2 W hE hM0 hC0 hG0 (by simp only [Rows.uptoBulkAll, List.append_nil] at hbk; omega)).mono fun e W' ⟨he, hx⟩ => ?_
  exact ⟨_, he, law_post laidOutP (by kernel_rfl) rfl (by kernel_rfl) Tryd.underlying4 hW' rfl hx⟩
theorem reads (os : Os) {H : Type} (enc : TypeId × Value → H) : ∃ places, DataW.whole enc Tryd.prog ((laidUtf8 os).forCall (fun _ _ => 0) ⟨#[], #[Value.agg #[.int .i64 0, .int .i64 0, .slice none 0 0, .slice none 0 0, .slice none 0 0], Value.int .i64 0, Value.int .i64 0], []⟩).memory Tryd.f7.params.toList Rows.txnLongSpec.vars false (#[Value.agg #[.int .i64 0, .int .i64 0, .slice none 0 0, .slice none 0 0, .slice none 0 0], Value.int .i64 0, Value.int .i64 0] : Array Value).toList 8 = some ([.agg [.lit (.int .i64 0), .lit (.int .i64 0), .nil, .nil, .nil], .lit (.int .i64 0), .lit (.int .i64 0)], [], places) :=
  ⟨[], by kernel_rfl⟩
set_option maxRecDepth 100000 in
theorem laid_met (os : Os) : laidMet Tryd.prog Rows.txnLongUptoRow.laid ((laidUtf8 os).forCall (fun _ _ => 0) ⟨#[], #[Value.agg #[.int .i64 0, .int .i64 0, .slice none 0 0, .slice none 0 0, .slice none 0 0], Value.int .i64 0, Value.int .i64 0], []⟩).memory :=
  laidMet_of_run' 8 (by kernel_rfl) (by kernel_rfl)
set_option maxRecDepth 100000 in
theorem lifted (os : Os) (started : os.Started) (H : Type) (enc : TypeId × Value → H) (F : Stop.Interp) :
    ReturnsInHanded {} Tryd.checked os 7 .any ((Rows.OpenSpec.upto Rows.txnLongSpec).preRow enc Tryd.prog Tryd.f7 Rows.txnLongUptoRow.domain false Rows.txnLongUptoRow.laid) (((Rows.OpenSpec.upto Rows.txnLongSpec).at F).post enc Tryd.prog Tryd.f7 false true false false) := by
  obtain ⟨places, hx⟩ := reads os enc
  refine returnsInHanded_of_row (C := Tryd.checked) (s := Rows.OpenSpec.upto Rows.txnLongSpec) own started (by kernel_rfl) Tryd.func7
    (witness_row_at (enc := enc) (C := Tryd.checked) false (laidUtf8 os) #[Value.agg #[.int .i64 0, .int .i64 0, .slice none 0 0, .slice none 0 0, .slice none 0 0], Value.int .i64 0, Value.int .i64 0] rfl (by kernel_rfl) (by kernel_rfl) (by kernel_rfl)
      (OpenSpec.preRow_of_cond 8 hx (by kernel_rfl) (fun k hk => by cases hk; kernel_rfl) (by kernel_rfl) (laid_met os))) ?_
  intro W base args ds gs before hval hW _ hcond _ _ hsh _
  exact contract H enc W base args ds gs before hval hW ⟨hsh⟩ hcond
set_option maxRecDepth 100000 in
theorem said : Rows.TxnLongUptoSaid :=
  OpenClaim.holds_of_cond 7 Tryd.f7 rfl rfl rfl rfl rfl rfl rfl ⟨rfl, rfl, rfl, rfl, rfl⟩ rfl rfl rfl rfl rfl (by kernel_rfl) Tryd.func7 (by kernel_rfl)
    (of_decide_eq_true (by kernel_rfl)) (by unfold Func.isWrapper; first | (rw [if_pos (by decide +kernel)]; kernel_rfl) | (rw [if_neg (by decide +kernel)]; exact ⟨rfl, rfl⟩))
    (fun os started H enc _ F => by rw [OpenClaim.pre_eq_preRow]; exact lifted os started H enc F)
theorem plain (f : FuncId) (fn : Func) (hf : Tryd.pinned.checked.prog.funcNamed Rows.txnLongUptoRow.func = some f) (hfn : Tryd.pinned.checked.prog.funcs[f]? = some fn) :
    true = Tryd.pinned.checked.prog.looks [] ∧ ∀ (j : Nat) t, fn.params[j]? = some t → Tryd.pinned.checked.prog.wantsStandIn t = false := by
  obtain rfl : f = 7 := Option.some.inj ((show Tryd.prog.funcNamed Rows.txnLongUptoRow.func = some 7 by kernel_rfl).symm.trans hf) |>.symm
  obtain rfl : fn = Tryd.f7 := (Option.some.inj (Tryd.func7.symm.trans hfn)).symm
  exact ⟨by kernel_rfl, stand_ins (by kernel_rfl)⟩
set_option maxRecDepth 100000 in
theorem card : Rows.TxnLongUptoCardSaid :=
  Claim7.holds_tied_plain_at .later [] _ _ _ _ said (fun _ h => by cases h) (by kernel_rfl) (fun _ h => by cases h) txnLongUpto_row_tie rfl ⟨rfl, rfl⟩ (by kernel_rfl) rfl plain (by kernel_rfl)
end Go.Proofs.YtedfpoidggpkdaaDoor.txnLong
