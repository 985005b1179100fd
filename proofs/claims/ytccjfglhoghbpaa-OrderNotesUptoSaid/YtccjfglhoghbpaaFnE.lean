import Derived.Test.YtccjfglhoghbpaaFnD
namespace Go.Proofs.TryF
open Go Go.Pv
set_option linter.unusedSimpArgs false
set_option linter.unusedVariables false
set_option maxHeartbeats 1000000
set_option maxRecDepth 20000
theorem tf8 (ms ns : List Mk) (hx : OkM ms) : TF Try.prog lb 8 [SlM ms, SlM ns] (B (decide (ms = ns))) := by
  refine TF_of rfl Try.func8 rfl ?_
  unfold WF
  obtain ⟨hx, hm⟩ := hx
  unfold W64 at hx
  by_cases hl : ms.length = ns.length
  case neg =>
    have c : ¬ ((ms.length : Int) = ns.length) := by omega
    have : ¬ ms = ns := fun h => hl (by rw [h])
    simp [c, hl, this]
  have c : ((ms.length : Int) = ns.length) := by omega
  simp [c, hl]
  refine TL_loop (fun k e t => ∃ i : Nat, (i ≤ ms.length ∧ ms.take i = ns.take i) ∧ k = ms.length - i ∧ e 0 = SlM ms ∧ e 1 = SlM ns ∧ e 5 = I i) ?_ ms.length _ _ ⟨0, by simp⟩
  rintro k e t ⟨i, ⟨hi, htk⟩, rfl, h0, h1, h5⟩
  by_cases hlt : i < ms.length
  · have hlt2 : i < ns.length := by omega
    have ne : ¬ ms[i] = ns[i] → ¬ ms = ns := fun h h2 => h (by subst h2; rfl)
    simp [h0, h1, h5, hlt, hlt2]
    refine TC_pure rfl rfl (by simp) (by simpa using tf15 ms[i].ab ns[i].ab (hm _ (List.getElem_mem hlt)).1) ?_
    by_cases p1 : ms[i].ab = ns[i].ab
    case neg =>
      have := ne (fun h => p1 (by rw [h]))
      simp [h0, h1, h5, hlt, hlt2, p1, this]
    by_cases p2 : ms[i].o = ns[i].o
    case neg =>
      have := ne (fun h => p2 (by rw [h]))
      simp [h0, h1, h5, hlt, hlt2, p1, p2, this]
    by_cases p3 : ms[i].u = ns[i].u
    case neg =>
      have := ne (fun h => p3 (by rw [h]))
      simp [h0, h1, h5, hlt, hlt2, p1, p2, p3, this]
    have hp : ms[i] = ns[i] := by
      generalize ms[i] = a at *
      generalize ns[i] = b at *
      cases a; cases b; simp_all
    have w3 : IntKind.i64.wrap ((i : Int) + 1) = ((i + 1 : Nat) : Int) := wrapN (by omega)
    simp [h0, h1, h5, hlt, hlt2, p1, p2, p3, w3]
    refine ⟨ms.length - (i + 1), by omega, i + 1, ⟨by omega, ?_⟩, rfl, by simp⟩
    rw [List.take_succ_eq_append_getElem hlt, List.take_succ_eq_append_getElem hlt2, htk, hp]
  · have e1 : i = ms.length := by omega
    have : ms = ns := by rw [e1, List.take_length, hl, List.take_length] at htk; exact htk
    have hlt2 : ¬ i < ns.length := by omega
    simp [h0, h1, h5, hlt, hlt2, this]
end Go.Proofs.TryF
