/-
  OrderNotes: whatever is noted from no marks on, they are right, and what was noted isn't fresh ever after: of every row of numbers of bulk at most 1048576.
-/
import Derived.Test.YtccjfglhoghbpaaRowA
namespace Go.Proofs.Ytccjfglhoghbpaa
open Go Go.Pv Go.RowKit Go.ChangeShapes Go.WideShapes Go.ChangeAt TryF
theorem c_notes (H : Type) (enc : TypeId × Value → H) (W : World) (base : Nat) (args : Array Value) (ds gs : List (DataW H)) (before : List MemPlace)
    (hval : ∀ (j : Nat) t v, Try.f4.params[j]? = some t → args[j]? = some v → Value.okWide Try.prog W .any base t v)
    (hW : DataW.Whole enc Try.prog Try.f4.params.toList Rows.orderNotesSpec.vars false W args.toList ds gs before) (hk : Rows.uptoSmall H (ds ++ gs) = true) :
    Calls Try.prog 4 args W fun e W' => ∃ v, e = .returned v ∧ Rows.orderNotesSpec.post enc Try.prog Try.f4 false true false false W args v W' := by
  have hW' := hW
  obtain ⟨p, q, hA0, hV, rfl, hfz, hnd⟩ := hW
  have hA : DataW.TrodAll enc Try.prog W 0 (fun _ => true) true Try.f4.params.toList args.toList ds p := hA0
  rw [Try.params4] at hA hval
  obtain ⟨v0, vs0, d0, ds0, p0, q0, hargs, rfl, rfl, h0, r0⟩ := trodAll_cons hA
  obtain ⟨rfl, rfl, rfl⟩ := trodAll_nil r0
  have hargs' : args = #[v0] := Array.ext' (by simpa using hargs)
  subst hargs'
  obtain ⟨rfl, rfl⟩ := trodVars_none hV
  obtain ⟨x0, w0, e0, b0⟩ := (dNs).value (hval 0 29 v0 rfl rfl) h0
  have hb := bound hk
  have m0 := b0 _ (meas H)
  simp only [List.append_nil, List.map_cons, List.map_nil, List.sum_cons, List.sum_nil] at hb
  have l0 := dNs_len x0
  exact row_of laid rfl (show Try.f4.resultTypes = #[4] by kernel_rfl) Try.underlying4 (by kernel_rfl) (fun gs hg => by subst hg; rfl) (fnOk_of lb_ok (law4 x0 (by omega))) hW' (ReadsL.toA ⟨e0, trivial⟩)
set_option maxRecDepth 100000 in
theorem lifted_notes (os : Os) (started : os.Started) (H : Type) (enc : TypeId × Value → H) (F : Stop.Interp) :
    ReturnsInHanded {} Try.checked os 4 .any ((Rows.OpenSpec.upto Rows.orderNotesSpec).pre6 enc Try.prog Try.f4 Rows.orderNotesUptoRow.domain false) (((Rows.OpenSpec.upto Rows.orderNotesSpec).at F).post enc Try.prog Try.f4 false true false false) := by
  refine returnsInHanded_of_cond (C := Try.checked) (s := Rows.OpenSpec.upto Rows.orderNotesSpec) (k := Rows.uptoSmall) rfl own started (by kernel_rfl) Try.func4
    (OpenSpec.witness (enc := enc) (C := Try.checked) (s := Rows.OpenSpec.upto Rows.orderNotesSpec) (k := Rows.uptoSmall) rfl false ⟨#[], #[.slice none 0 0], []⟩ 8 (by kernel_rfl) (by kernel_rfl) (by kernel_rfl)
      (x := ([.nil], [], [])) (by kernel_rfl) rfl (by kernel_rfl)) ?_
  intro W base args ds gs before hval hW _ hk _
  exact c_notes H enc W base args ds gs before hval hW hk
theorem notes_holds : Rows.OrderNotesUptoSaid :=
  OpenClaim.holds_of_cond 4 Try.f4 rfl rfl rfl rfl rfl rfl rfl ⟨rfl, rfl, rfl, rfl, rfl⟩ rfl rfl rfl rfl rfl (by kernel_rfl) Try.func4 (by kernel_rfl)
    (of_decide_eq_true (by kernel_rfl)) (by unfold Func.isWrapper; first | (rw [if_pos (by decide +kernel)]; kernel_rfl) | (rw [if_neg (by decide +kernel)]; exact ⟨rfl, rfl⟩))
    (fun os started H enc _ F => lifted_notes os started H enc F)
end Go.Proofs.Ytccjfglhoghbpaa
