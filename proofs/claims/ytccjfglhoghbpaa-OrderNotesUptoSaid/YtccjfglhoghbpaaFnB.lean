import Derived.Test.YtccjfglhoghbpaaFnA
namespace Go.Proofs.TryF
open Go Go.Pv
set_option linter.unusedSimpArgs false
set_option linter.unusedVariables false
set_option maxHeartbeats 1000000
set_option maxRecDepth 20000

theorem all_fail {n i : Nat} {f : Nat → Bool} (h : i < n) (hf : f i = false) : (List.range n).all f = false := by
  rw [List.all_eq_false]
  exact ⟨i, List.mem_range.2 h, by simp [hf]⟩
theorem all_ok {n : Nat} {f : Nat → Bool} (h : ∀ j, j < n → f j = true) : (List.range n).all f = true := by
  rw [List.all_eq_true]
  exact fun j hj => h j (List.mem_range.1 hj)
def okAt (u : Int) (ab : List Int) (j : Nat) : Bool := decide (1 < ab.getD j 0 - u) && decide (ab.getD j 0 - u ≤ 8) && (decide (j = 0) || decide (ab.getD (j - 1) 0 < ab.getD j 0))
def rightM (m : Mk) : Bool := decide (1 ≤ m.o) && decide (m.o ≤ 64) && decide (0 ≤ m.u) && (List.range m.ab.length).all (okAt m.u m.ab)
def OkK (m : Mk) : Prop := W64 m.ab.length ∧ Sm m.u ∧ ∀ x ∈ m.ab, Sm x
theorem wrapSub {a b : Int} (ha : Sm a) (hb : Sm b) : IntKind.i64.wrap (a - b) = a - b := by unfold Sm at *; exact wrap_id (by omega) (by omega)
theorem Sm_at {ab : List Int} (h : ∀ x ∈ ab, Sm x) (j : Nat) : Sm (ab.getD j 0) := by
  rw [List.getD_eq_getElem?_getD]
  cases hj : ab[j]? with
  | none => simp [Sm]
  | some x => exact h x (List.mem_of_getElem? hj)
theorem getD_lt {ab : List Int} {j : Nat} (h : j < ab.length) : ab.getD j 0 = ab[j] := by simp [List.getD_eq_getElem?_getD, h]

theorem tf27 (m : Mk) (hm : OkK m) : TF Try.prog lb 27 [enc m] (B (rightM m)) := by
  refine TF_of rfl Try.func27 rfl ?_
  unfold WF
  obtain ⟨hl, hu, hab⟩ := hm
  unfold W64 at hl
  by_cases c1 : m.o < 1
  · simp [c1, rightM, show ¬ 1 ≤ m.o by omega]
  by_cases c2 : 64 < m.o
  · simp [c1, c2, rightM, show ¬ m.o ≤ 64 by omega]
  by_cases c3 : m.u < 0
  · simp [c1, c2, c3, rightM, show ¬ 0 ≤ m.u by omega]
  have d1 : 1 ≤ m.o := by omega
  have d2 : m.o ≤ 64 := by omega
  have d3 : 0 ≤ m.u := by omega
  simp [c1, c2, c3, d1, d2, d3]
  have hr : rightM m = (List.range m.ab.length).all (okAt m.u m.ab) := by simp [rightM, d1, d2, d3]
  refine TL_loop (fun k e s => ∃ i : Nat, (i ≤ m.ab.length ∧ ∀ j, j < i → okAt m.u m.ab j = true) ∧ k = m.ab.length - i ∧ e 1 = .ptr 0 0 ∧ e 19 = SlI m.ab ∧ e 20 = I m.ab.length ∧ e 21 = I i ∧ s = (sF false).push (.cells [I m.o, I m.u, SlI m.ab])) ?_ m.ab.length _ _ ⟨0, by simp [show lb.own 27 = false from rfl]⟩
  rintro k e s ⟨i, ⟨hi, hall⟩, rfl, h1, h19, h20, h21, rfl⟩
  by_cases hlt : i < m.ab.length
  · have a0 := getD_lt hlt
    have w1 : IntKind.i64.wrap (m.ab[i] - m.u) = m.ab[i] - m.u := wrapSub (hab _ (List.getElem_mem hlt)) hu
    have stop : okAt m.u m.ab i = false → rightM m = false := fun h => by rw [hr]; exact all_fail hlt h
    by_cases x1 : m.ab[i] - m.u ≤ 1
    · simp [h1, h19, h20, h21, hlt, w1, x1]
      rw [stop (by simp only [okAt, a0]; simp; intro h; omega)]
    by_cases x2 : 8 < m.ab[i] - m.u
    · simp [h1, h19, h20, h21, hlt, w1, x1, x2]
      rw [stop (by simp only [okAt, a0]; simp; intro h h2; omega)]
    have x3 : 1 < m.ab[i] - m.u := by omega
    have x4 : m.ab[i] - m.u ≤ 8 := by omega
    have next : okAt m.u m.ab i = true → ∀ j, j < i + 1 → okAt m.u m.ab j = true := fun h j hj => by
      rcases Nat.lt_or_ge j i with h2 | h2
      · exact hall j h2
      · have : j = i := by omega
        subst this; exact h
    by_cases hz : i = 0
    · subst hz
      simp [h1, h19, h20, h21, hlt, w1, x1, x2]
      exact ⟨m.ab.length - 1, by omega, 1, ⟨by omega, next (by simp only [okAt, a0]; simp; omega)⟩, rfl, by simp [wrap_id]⟩
    · have b0 := getD_lt (show i - 1 < m.ab.length by omega)
      have y1 : (0 : Int) < (i : Int) := by omega
      have y2 : i - 1 < m.ab.length := by omega
      have y3 : (0 : Int) ≤ (i : Int) - 1 := by omega
      have y4 : ((i : Int) - 1).toNat = i - 1 := by omega
      have w2 : IntKind.i64.wrap ((i : Int) - 1) = (i : Int) - 1 := wrap_id (by omega) (by omega)
      have w3 : IntKind.i64.wrap ((i : Int) + 1) = ((i + 1 : Nat) : Int) := wrapN (by omega)
      have y5 : 0 < i := by omega
      have y7 : (1 : Int) ≤ (i : Int) := by omega
      have y6 : ¬ (m.ab[i - 1] < m.ab[i] ∧ m.ab[i] ≤ m.ab[i - 1]) := by omega
      by_cases x5 : m.ab[i] ≤ m.ab[i - 1]
      · simp [h1, h19, h20, h21, hlt, w1, x1, x2, w2, y1, y2, y3, y4, y5, y7, x5]
        rw [stop (by simp only [okAt, a0, b0]; simp; intros; omega)]
      · simp [h1, h19, h20, h21, hlt, w1, x1, x2, w2, y1, y2, y3, y4, y5, y7, x5, w3]
        exact ⟨m.ab.length - (i + 1), by omega, i + 1, ⟨by omega, next (by simp only [okAt, a0, b0]; simp; omega)⟩, rfl, by simp⟩
  · have e1 : i = m.ab.length := by omega
    subst e1
    simp [h1, h19, h20, h21]
    rw [hr, all_ok hall]
end Go.Proofs.TryF
