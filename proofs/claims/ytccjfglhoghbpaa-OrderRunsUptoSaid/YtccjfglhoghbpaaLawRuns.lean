/-
  OrderRuns: numbers that come in order are all fresh: of every origin and every number of them.
-/
import Derived.Test.YtccjfglhoghbpaaRowA
namespace Go.Proofs.Ytccjfglhoghbpaa
open Go Go.Pv Go.RowKit Go.ChangeShapes Go.WideShapes Go.ChangeAt TryF
theorem c_runs (H : Type) (enc : TypeId × Value → H) (W : World) (base : Nat) (args : Array Value) (ds gs : List (DataW H)) (before : List MemPlace)
    (hval : ∀ (j : Nat) t v, Try.f5.params[j]? = some t → args[j]? = some v → Value.okWide Try.prog W .any base t v)
    (hW : DataW.Whole enc Try.prog Try.f5.params.toList Rows.orderRunsSpec.vars false W args.toList ds gs before) (hk : Rows.uptoSmall H (ds ++ gs) = true) :
    Calls Try.prog 5 args W fun e W' => ∃ v, e = .returned v ∧ Rows.orderRunsSpec.post enc Try.prog Try.f5 false true false false W args v W' := by
  have hW' := hW
  obtain ⟨p, q, hA0, hV, rfl, hfz, hnd⟩ := hW
  have hA : DataW.TrodAll enc Try.prog W 0 (fun _ => true) true Try.f5.params.toList args.toList ds p := hA0
  rw [Try.params5] at hA hval
  obtain ⟨v0, vs0, d0, ds0, p0, q0, hargs, rfl, rfl, h0, r0⟩ := trodAll_cons hA
  obtain ⟨v1, vs1, d1, ds1, p1, q1, rfl, rfl, rfl, h1, r1⟩ := trodAll_cons r0
  obtain ⟨rfl, rfl, rfl⟩ := trodAll_nil r1
  have hargs' : args = #[v0, v1] := Array.ext' (by simpa using hargs)
  subst hargs'
  obtain ⟨rfl, rfl⟩ := trodVars_none hV
  obtain ⟨x0, w0, e0, b0⟩ := (dI).value (hval 0 3 v0 rfl rfl) h0
  obtain ⟨x1, w1, e1, b1⟩ := (dI).value (hval 1 3 v1 rfl rfl) h1
  have hb := bound hk
  have m0 := b0 _ (meas H)
  have m1 := b1 _ (meas H)
  simp only [List.append_nil, List.map_cons, List.map_nil, List.sum_cons, List.sum_nil] at hb
  have k0 : kmin .i64 x0 := w0
  have k1 : kmin .i64 x1 := w1
  unfold kmin at k0 k1
  simp [Lit.wf, IntKind.min, IntKind.max, IntKind.signed, IntKind.bits] at k0 k1
  exact row_of laid rfl (show Try.f5.resultTypes = #[4] by kernel_rfl) Try.underlying4 (by kernel_rfl) (fun gs hg => by subst hg; rfl) (fnOk_of lb_ok (law5 x0 x1 (by omega) (by omega))) hW' (ReadsL.toA ⟨e0, e1, trivial⟩)
set_option maxRecDepth 100000 in
theorem lifted_runs (os : Os) (started : os.Started) (H : Type) (enc : TypeId × Value → H) (F : Stop.Interp) :
    ReturnsInHanded {} Try.checked os 5 .any ((Rows.OpenSpec.upto Rows.orderRunsSpec).pre6 enc Try.prog Try.f5 Rows.orderRunsUptoRow.domain false) (((Rows.OpenSpec.upto Rows.orderRunsSpec).at F).post enc Try.prog Try.f5 false true false false) := by
  refine returnsInHanded_of_cond (C := Try.checked) (s := Rows.OpenSpec.upto Rows.orderRunsSpec) (k := Rows.uptoSmall) rfl own started (by kernel_rfl) Try.func5
    (OpenSpec.witness (enc := enc) (C := Try.checked) (s := Rows.OpenSpec.upto Rows.orderRunsSpec) (k := Rows.uptoSmall) rfl false ⟨#[], #[.int .i64 0, .int .i64 0], []⟩ 8 (by kernel_rfl) (by kernel_rfl) (by kernel_rfl)
      (x := ([.lit (.int .i64 0), .lit (.int .i64 0)], [], [])) (by kernel_rfl) rfl (by kernel_rfl)) ?_
  intro W base args ds gs before hval hW _ hk _
  exact c_runs H enc W base args ds gs before hval hW hk
theorem runs_holds : Rows.OrderRunsUptoSaid :=
  OpenClaim.holds_of_cond 5 Try.f5 rfl rfl rfl rfl rfl rfl rfl ⟨rfl, rfl, rfl, rfl, rfl⟩ rfl rfl rfl rfl rfl (by kernel_rfl) Try.func5 (by kernel_rfl)
    (of_decide_eq_true (by kernel_rfl)) (by unfold Func.isWrapper; first | (rw [if_pos (by decide +kernel)]; kernel_rfl) | (rw [if_neg (by decide +kernel)]; exact ⟨rfl, rfl⟩))
    (fun os started H enc _ F => lifted_runs os started H enc F)
end Go.Proofs.Ytccjfglhoghbpaa
