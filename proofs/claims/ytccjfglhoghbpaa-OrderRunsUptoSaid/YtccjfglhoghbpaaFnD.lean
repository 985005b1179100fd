import Derived.Test.YtccjfglhoghbpaaFnC
namespace Go.Proofs.TryF
open Go Go.Pv
set_option linter.unusedSimpArgs false
set_option linter.unusedVariables false
set_option maxHeartbeats 1000000
set_option maxRecDepth 20000

theorem tf12 (ms : List Mk) (n s : Int) (h : OkM ms) (hs : Sm s) : TF Try.prog lb 12 [SlM ms, I n, I s] (B (freshM ms n s)) := by
  refine TF_of rfl Try.func12 rfl ?_
  unfold WF
  by_cases c1 : n < 1
  · simp [c1, freshM, show ¬ 1 ≤ n by omega]
  by_cases c2 : 64 < n
  · simp [c1, c2, freshM, show ¬ n ≤ 64 by omega]
  have d1 : 1 ≤ n := by omega
  have d2 : n ≤ 64 := by omega
  simp [c1, c2]
  refine TC_pure rfl rfl (by simp) (by simpa using tf25 ms n h.1) ?_
  obtain ⟨h1, h2, h3⟩ := ofM_ok h n
  have w1 : IntKind.i64.wrap (s - 8) = s - 8 := wrap_id (by unfold Sm at hs; omega) (by unfold Sm at hs; omega)
  simp only [freshM, d1, d2]
  generalize ofM ms n = m at *
  unfold W64 at h1
  simp
  refine TL_loop (fun k e t => ∃ i : Nat, i ≤ m.ab.findIdx (fun x => decide (x = s)) ∧ k = m.ab.length - i ∧ e 2 = I s ∧ e 7 = .ptr 0 0 ∧ e 9 = I i ∧ t.get 0 = some (.cells [I m.o, I m.u, SlI m.ab])) ?_ m.ab.length _ _ ⟨0, by simp⟩
  rintro k e t ⟨i, hi, rfl, h2', h7, h9, ht⟩
  by_cases hlt : i < m.ab.length
  · rcases findIdx_at hlt hi with ⟨hp, he⟩ | ⟨hp, he⟩
    · simp at hp
      have hin : s ∈ m.ab := hp ▸ List.getElem_mem hlt
      simp [h2', h7, h9, ht, hlt, hp, hin]
    · simp at hp
      have w3 : IntKind.i64.wrap ((i : Int) + 1) = ((i + 1 : Nat) : Int) := wrapN (by omega)
      have hp' : ¬ s = m.ab[i] := fun h => hp h.symm
      simp [h2', h7, h9, ht, hlt, hp, hp', w3]
      exact ⟨m.ab.length - (i + 1), by omega, i + 1, he, rfl, by simp⟩
  · have he := findIdx_end hlt hi
    have hnot : ¬ s ∈ m.ab := fun hm => by
      have := (List.findIdx_lt_length (p := fun x => decide (x = s))).2 ⟨s, hm, by simp⟩
      omega
    by_cases c3 : m.u < s <;> by_cases c4 : s - 8 ≤ m.u <;> simp [h2', h7, h9, ht, hlt, c3, c4, w1, hnot, d1, d2]

def sameI (xs ys : List Int) : Bool := decide (xs = ys)
theorem tf15 (xs ys : List Int) (hx : W64 xs.length) : TF Try.prog lb 15 [SlI xs, SlI ys] (B (decide (xs = ys))) := by
  refine TF_of rfl Try.func15 rfl ?_
  unfold WF W64 at *
  by_cases hl : xs.length = ys.length
  case neg =>
    have c : ¬ ((xs.length : Int) = ys.length) := by omega
    have : ¬ xs = ys := fun h => hl (by rw [h])
    simp [c, hl, this]
  have c : ((xs.length : Int) = ys.length) := by omega
  simp [c, hl]
  refine TL_loop (fun k e t => ∃ i : Nat, (i ≤ xs.length ∧ xs.take i = ys.take i) ∧ k = xs.length - i ∧ e 0 = SlI xs ∧ e 1 = SlI ys ∧ e 5 = I i) ?_ xs.length _ _ ⟨0, by simp⟩
  rintro k e t ⟨i, ⟨hi, htk⟩, rfl, h0, h1, h5⟩
  by_cases hlt : i < xs.length
  · have hlt2 : i < ys.length := by omega
    by_cases hp : xs[i] = ys[i]
    · have w3 : IntKind.i64.wrap ((i : Int) + 1) = ((i + 1 : Nat) : Int) := wrapN (by omega)
      simp [h0, h1, h5, hlt, hlt2, hp, w3]
      refine ⟨xs.length - (i + 1), by omega, i + 1, ⟨by omega, ?_⟩, rfl, by simp⟩
      rw [List.take_succ_eq_append_getElem hlt, List.take_succ_eq_append_getElem hlt2, htk, hp]
    · have hne : ¬ xs = ys := fun h => hp (by subst h; rfl)
      simp [h0, h1, h5, hlt, hlt2, hp, hne]
  · have e1 : i = xs.length := by omega
    have : xs = ys := by rw [e1, List.take_length, hl, List.take_length] at htk; exact htk
    have hlt2 : ¬ i < ys.length := by omega
    simp [h0, h1, h5, hlt, hlt2, this]
end Go.Proofs.TryF
