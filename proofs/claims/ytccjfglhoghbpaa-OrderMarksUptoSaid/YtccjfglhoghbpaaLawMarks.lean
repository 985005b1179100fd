/-
  OrderMarks: which marks are right, which numbers are fresh, and marks with one more, are as the document says: of every marks, origin and number, all that comes in of bulk at most 1048576.
-/
import Derived.Test.YtccjfglhoghbpaaRowA
namespace Go.Proofs.Ytccjfglhoghbpaa
open Go Go.Pv Go.RowKit Go.ChangeShapes Go.WideShapes Go.ChangeAt TryF
theorem c_marks (H : Type) (enc : TypeId × Value → H) (W : World) (base : Nat) (args : Array Value) (ds gs : List (DataW H)) (before : List MemPlace)
    (hval : ∀ (j : Nat) t v, Try.f3.params[j]? = some t → args[j]? = some v → Value.okWide Try.prog W .any base t v)
    (hW : DataW.Whole enc Try.prog Try.f3.params.toList Rows.orderMarksSpec.vars false W args.toList ds gs before) (hk : Rows.uptoSmall H (ds ++ gs) = true) :
    Calls Try.prog 3 args W fun e W' => ∃ v, e = .returned v ∧ Rows.orderMarksSpec.post enc Try.prog Try.f3 false true false false W args v W' := by
  have hW' := hW
  obtain ⟨p, q, hA0, hV, rfl, hfz, hnd⟩ := hW
  have hA : DataW.TrodAll enc Try.prog W 0 (fun _ => true) true Try.f3.params.toList args.toList ds p := hA0
  rw [Try.params3] at hA hval
  obtain ⟨v0, vs0, d0, ds0, p0, q0, hargs, rfl, rfl, h0, r0⟩ := trodAll_cons hA
  obtain ⟨v1, vs1, d1, ds1, p1, q1, rfl, rfl, rfl, h1, r1⟩ := trodAll_cons r0
  obtain ⟨v2, vs2, d2, ds2, p2, q2, rfl, rfl, rfl, h2, r2⟩ := trodAll_cons r1
  obtain ⟨rfl, rfl, rfl⟩ := trodAll_nil r2
  have hargs' : args = #[v0, v1, v2] := Array.ext' (by simpa using hargs)
  subst hargs'
  obtain ⟨rfl, rfl⟩ := trodVars_none hV
  obtain ⟨x0, w0, e0, b0⟩ := (dMs).value (hval 0 22 v0 rfl rfl) h0
  obtain ⟨x1, w1, e1, b1⟩ := (dI).value (hval 1 3 v1 rfl rfl) h1
  obtain ⟨x2, w2, e2, b2⟩ := (dI).value (hval 2 3 v2 rfl rfl) h2
  have hb := bound hk
  have m0 := b0 _ (meas H)
  have m1 := b1 _ (meas H)
  have m2 := b2 _ (meas H)
  simp only [List.append_nil, List.map_cons, List.map_nil, List.sum_cons, List.sum_nil] at hb
  have l0 := dMs_len x0
  exact row_of laid rfl (show Try.f3.resultTypes = #[4] by kernel_rfl) Try.underlying4 (by kernel_rfl) (fun gs hg => by subst hg; rfl) (fnOk_of lb_ok (law3 x0 x1 x2 (by omega) (fun m hm => by have := dMs_ab x0 m hm; omega))) hW' (ReadsL.toA ⟨e0, e1, e2, trivial⟩)
set_option maxRecDepth 100000 in
theorem lifted_marks (os : Os) (started : os.Started) (H : Type) (enc : TypeId × Value → H) (F : Stop.Interp) :
    ReturnsInHanded {} Try.checked os 3 .any ((Rows.OpenSpec.upto Rows.orderMarksSpec).pre6 enc Try.prog Try.f3 Rows.orderMarksUptoRow.domain false) (((Rows.OpenSpec.upto Rows.orderMarksSpec).at F).post enc Try.prog Try.f3 false true false false) := by
  refine returnsInHanded_of_cond (C := Try.checked) (s := Rows.OpenSpec.upto Rows.orderMarksSpec) (k := Rows.uptoSmall) rfl own started (by kernel_rfl) Try.func3
    (OpenSpec.witness (enc := enc) (C := Try.checked) (s := Rows.OpenSpec.upto Rows.orderMarksSpec) (k := Rows.uptoSmall) rfl false ⟨#[], #[.slice none 0 0, .int .i64 0, .int .i64 0], []⟩ 8 (by kernel_rfl) (by kernel_rfl) (by kernel_rfl)
      (x := ([.nil, .lit (.int .i64 0), .lit (.int .i64 0)], [], [])) (by kernel_rfl) rfl (by kernel_rfl)) ?_
  intro W base args ds gs before hval hW _ hk _
  exact c_marks H enc W base args ds gs before hval hW hk
theorem marks_holds : Rows.OrderMarksUptoSaid :=
  OpenClaim.holds_of_cond 3 Try.f3 rfl rfl rfl rfl rfl rfl rfl ⟨rfl, rfl, rfl, rfl, rfl⟩ rfl rfl rfl rfl rfl (by kernel_rfl) Try.func3 (by kernel_rfl)
    (of_decide_eq_true (by kernel_rfl)) (by unfold Func.isWrapper; first | (rw [if_pos (by decide +kernel)]; kernel_rfl) | (rw [if_neg (by decide +kernel)]; exact ⟨rfl, rfl⟩))
    (fun os started H enc _ F => lifted_marks os started H enc F)
end Go.Proofs.Ytccjfglhoghbpaa
