import Derived.Test.YtccjfglhoghbpaaFnB
namespace Go.Proofs.TryF
open Go Go.Pv
set_option linter.unusedSimpArgs false
set_option linter.unusedVariables false
set_option maxHeartbeats 1000000
set_option maxRecDepth 20000
def mk0 : Mk := ⟨0, 0, []⟩
def okR (ms : List Mk) (j : Nat) : Bool := rightM (ms.getD j mk0) && (decide (j = 0) || decide ((ms.getD (j - 1) mk0).o < (ms.getD j mk0).o))
def rightL (ms : List Mk) : Bool := (List.range ms.length).all (okR ms)
theorem getDm {ms : List Mk} {j : Nat} (h : j < ms.length) : ms.getD j mk0 = ms[j] := by simp [List.getD_eq_getElem?_getD, h]
theorem next_all {f : Nat → Bool} {i : Nat} (hall : ∀ j, j < i → f j = true) (h : f i = true) : ∀ j, j < i + 1 → f j = true := fun j hj => by
  rcases Nat.lt_or_ge j i with h2 | h2
  · exact hall j h2
  · have : j = i := by omega
    subst this; exact h

theorem tf13 (ms : List Mk) (hm : OkM ms) : TF Try.prog lb 13 [SlM ms] (B (rightL ms)) := by
  refine TF_of rfl Try.func13 rfl ?_
  unfold WF
  obtain ⟨hl, hms⟩ := hm
  unfold W64 at hl
  simp
  refine TL_loop (fun k e s => ∃ i : Nat, (i ≤ ms.length ∧ ∀ j, j < i → okR ms j = true) ∧ k = ms.length - i ∧ e 0 = SlM ms ∧ e 5 = SlM ms ∧ e 6 = I ms.length ∧ e 7 = I i) ?_ ms.length _ _ ⟨0, by simp⟩
  rintro k e s ⟨i, ⟨hi, hall⟩, rfl, h0, h5, h6, h7⟩
  by_cases hlt : i < ms.length
  · have a0 := getDm hlt
    have stop : okR ms i = false → rightL ms = false := fun h => all_fail hlt h
    have w3 : IntKind.i64.wrap ((i : Int) + 1) = ((i + 1 : Nat) : Int) := wrapN (by omega)
    simp [h0, h5, h6, h7, hlt]
    refine TC_pure rfl rfl (by simp) (by simpa using tf27 ms[i] (hms _ (List.getElem_mem hlt))) ?_
    cases hr : rightM ms[i] with
    | false =>
      simp [h0, h5, h6, h7, hlt, hr]
      rw [stop (by simp only [okR, a0, hr]; simp)]
    | true =>
      by_cases hz : i = 0
      · subst hz
        simp [h0, h5, h6, h7, hlt, hr]
        exact ⟨ms.length - 1, by omega, 1, ⟨by omega, next_all hall (by simp only [okR, a0, hr]; simp)⟩, rfl, by simp [wrap_id]⟩
      · have b0 := getDm (show i - 1 < ms.length by omega)
        have y1 : (0 : Int) < (i : Int) := by omega
        have y2 : i - 1 < ms.length := by omega
        have y4 : ((i : Int) - 1).toNat = i - 1 := by omega
        have w2 : IntKind.i64.wrap ((i : Int) - 1) = (i : Int) - 1 := wrap_id (by omega) (by omega)
        have y5 : 0 < i := by omega
        have y7 : (1 : Int) ≤ (i : Int) := by omega
        by_cases x5 : ms[i].o ≤ ms[i - 1].o
        · simp [h0, h5, h6, h7, hlt, hr, w2, y1, y2, y4, y5, y7, x5]
          rw [stop (by simp only [okR, a0, b0, hr]; simp; intros; omega)]
        · simp [h0, h5, h6, h7, hlt, hr, w2, w3, y1, y2, y4, y5, y7, x5]
          exact ⟨ms.length - (i + 1), by omega, i + 1, ⟨by omega, next_all hall (by simp only [okR, a0, b0, hr]; simp; omega)⟩, rfl, by simp⟩
  · have e1 : i = ms.length := by omega
    subst e1
    simp [h0, h5, h6, h7]
    exact all_ok hall

theorem tf25 (ms : List Mk) (n : Int) (hx : W64 ms.length) : TF Try.prog lb 25 [SlM ms, I n] (.tup [enc (ofM ms n), I (atM ms n)]) := by
  refine TF_of rfl Try.func25 rfl ?_
  unfold WF W64 at *
  simp
  refine TL_loop (fun k e s => ∃ i : Nat, i ≤ ms.findIdx (fun m => decide (m.o = n)) ∧ k = ms.length - i ∧ e 0 = SlM ms ∧ e 1 = I n ∧ e 4 = .ptr 0 0 ∧ e 6 = I i ∧ s = (sF false).push (.cells [.lit (.int .i64 0), .lit (.int .i64 0), .slice [] .full])) ?_ ms.length _ _ ⟨0, by simp [show lb.own 25 = false from rfl]⟩
  rintro k e s ⟨i, hi, rfl, h0, h1, h4, h6, rfl⟩
  by_cases hlt : i < ms.length
  · rcases findIdx_at hlt hi with ⟨hp, he⟩ | ⟨hp, he⟩
    · simp at hp
      simp [h0, h1, h4, h6, hlt, hp, ofM, atM, idx, he]
    · simp at hp
      have w3 : IntKind.i64.wrap ((i : Int) + 1) = ((i + 1 : Nat) : Int) := wrapN (by omega)
      simp [h0, h1, h4, h6, hlt, hp, w3]
      exact ⟨ms.length - (i + 1), by omega, i + 1, he, rfl, by simp⟩
  · have := findIdx_end hlt hi
    simp [h0, h1, h4, h6, hlt, ofM, atM, idx, this]
end Go.Proofs.TryF
