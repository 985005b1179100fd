import Derived.Test.YtccjfglhoghbpaaFnE
namespace Go.Proofs.TryF
open Go Go.Pv
set_option linter.unusedSimpArgs false
set_option linter.unusedVariables false
set_option maxHeartbeats 1000000
set_option maxRecDepth 20000
theorem tf14 (ms : List Mk) (hm : OkM ms) : TF Try.prog lb 14 [SlM ms] (B (rightL ms)) := by
  refine TF_of rfl Try.func14 rfl ?_
  unfold WF
  obtain ⟨hl, hms⟩ := hm
  unfold W64 at hl
  simp
  refine TL_loop (fun k e s => ∃ i : Nat, (i ≤ ms.length ∧ ∀ j, j < i → okR ms j = true) ∧ k = ms.length - i ∧ e 0 = SlM ms ∧ e 3 = I i) ?_ ms.length _ _ ⟨0, by simp⟩
  rintro k e s ⟨i, ⟨hi, hall⟩, rfl, h0, h3⟩
  by_cases hlt : i < ms.length
  case neg =>
    have e1 : i = ms.length := by omega
    subst e1
    simp [h0, h3]
    exact all_ok hall
  have a0 := getDm hlt
  have stop : okR ms i = false → rightL ms = false := fun h => all_fail hlt h
  obtain ⟨hml, hmu, hmab⟩ := hms _ (List.getElem_mem hlt)
  unfold W64 at hml
  have w3 : IntKind.i64.wrap ((i : Int) + 1) = ((i + 1 : Nat) : Int) := wrapN (by omega)
  by_cases c1 : ms[i].o < 1
  · simp [h0, h3, hlt, c1]
    rw [stop (by simp only [okR, a0, rightM]; simp [show ¬ 1 ≤ ms[i].o by omega])]
  by_cases c2 : 64 < ms[i].o
  · simp [h0, h3, hlt, c1, c2]
    rw [stop (by simp only [okR, a0, rightM]; simp [show ¬ ms[i].o ≤ 64 by omega])]
  by_cases c3 : ms[i].u < 0
  · simp [h0, h3, hlt, c1, c2, c3]
    rw [stop (by simp only [okR, a0, rightM]; simp [show ¬ 0 ≤ ms[i].u by omega])]
  have hrm : rightM ms[i] = (List.range ms[i].ab.length).all (okAt ms[i].u ms[i].ab) := by
    simp [rightM, show 1 ≤ ms[i].o by omega, show ms[i].o ≤ 64 by omega, show 0 ≤ ms[i].u by omega]
  by_cases hz : i = 0
  · have y0 : ¬ (0 : Int) < (i : Int) := by omega
    have y6 : ¬ 0 < i := by omega
    simp [h0, h3, hlt, c1, c2, c3, y0, y6]
    refine TL_loop (fun k e' t => ∃ j : Nat, (j ≤ ms[i].ab.length ∧ ∀ l, l < j → okAt ms[i].u ms[i].ab l = true) ∧ k = ms[i].ab.length - j ∧ e' 0 = SlM ms ∧ e' 3 = I i ∧ e' 4 = .ptr s.next 0 ∧ e' 5 = I j ∧ t.get s.next = some (.cells [I ms[i].o, I ms[i].u, SlI ms[i].ab])) ?_ ms[i].ab.length _ _ ⟨0, by simp [h0, h3]⟩
    rintro k e' t ⟨j, ⟨hj, hal⟩, rfl, g0, g3, g4, g5, gt⟩
    by_cases jlt : j < ms[i].ab.length
    case neg =>
      have e1 : j = ms[i].ab.length := by omega
      simp [g0, g3, g4, g5, gt, jlt, w3]
      refine ⟨ms.length - (i + 1), by omega, i + 1, ⟨by omega, next_all hall ?_⟩, rfl, by simp⟩
      simp only [okR, a0, hrm, all_ok (e1 ▸ hal)]
      simp [hz]
    have A0 := getD_lt jlt
    have v1 : IntKind.i64.wrap (ms[i].ab[j] - ms[i].u) = ms[i].ab[j] - ms[i].u := wrapSub (hmab _ (List.getElem_mem jlt)) hmu
    have halt : okAt ms[i].u ms[i].ab j = false → rightL ms = false := fun h => stop (by simp only [okR, a0, hrm, all_fail jlt h]; simp)
    have v3 : IntKind.i64.wrap ((j : Int) + 1) = ((j + 1 : Nat) : Int) := wrapN (by omega)
    by_cases x1 : ms[i].ab[j] - ms[i].u < 2
    · simp [g0, g3, g4, g5, gt, jlt, v1, x1]
      rw [halt (by simp only [okAt, A0]; simp; intros; omega)]
    by_cases x2 : 8 < ms[i].ab[j] - ms[i].u
    · simp [g0, g3, g4, g5, gt, jlt, v1, x1, x2]
      rw [halt (by simp only [okAt, A0]; simp; intros; omega)]
    by_cases jz : j = 0
    · have q1 : ¬ (0 : Int) < (j : Int) := by omega
      have q2 : ¬ 0 < j := by omega
      simp [g0, g3, g4, g5, gt, jlt, v1, x1, x2, q1, q2, v3]
      refine ⟨ms[i].ab.length - (j + 1), by omega, j + 1, ⟨by omega, next_all hal ?_⟩, rfl, by simp⟩
      simp only [okAt, A0, decide_eq_true jz, Bool.true_or, Bool.and_true, Bool.and_eq_true, decide_eq_true_eq]; omega
    · have B0 := getD_lt (show j - 1 < ms[i].ab.length by omega)
      have q1 : (0 : Int) < (j : Int) := by omega
      have q2 : j - 1 < ms[i].ab.length := by omega
      have q4 : ((j : Int) - 1).toNat = j - 1 := by omega
      have q3 : IntKind.i64.wrap ((j : Int) - 1) = (j : Int) - 1 := wrap_id (by omega) (by omega)
      have q5 : 0 < j := by omega
      have q7 : (1 : Int) ≤ (j : Int) := by omega
      by_cases x3 : ms[i].ab[j] ≤ ms[i].ab[j - 1]
      · simp [g0, g3, g4, g5, gt, jlt, v1, x1, x2, q1, q2, q3, q4, q5, q7, x3]
        rw [halt (by simp only [okAt, A0, B0]; simp; intros; omega)]
      · simp [g0, g3, g4, g5, gt, jlt, v1, x1, x2, q1, q2, q3, q4, q5, q7, x3, v3]
        refine ⟨ms[i].ab.length - (j + 1), by omega, j + 1, ⟨by omega, next_all hal ?_⟩, rfl, by simp⟩
        simp only [okAt, A0, B0]; simp; omega
  · have b0 := getDm (show i - 1 < ms.length by omega)
    have y1 : (0 : Int) < (i : Int) := by omega
    have y2 : i - 1 < ms.length := by omega
    have y4 : ((i : Int) - 1).toNat = i - 1 := by omega
    have w2 : IntKind.i64.wrap ((i : Int) - 1) = (i : Int) - 1 := wrap_id (by omega) (by omega)
    have y5 : 0 < i := by omega
    have y7 : (1 : Int) ≤ (i : Int) := by omega
    by_cases x5 : ms[i].o ≤ ms[i - 1].o
    · simp [h0, h3, hlt, c1, c2, c3, w2, y1, y2, y4, y5, y7, x5]
      rw [stop (by simp only [okR, a0, b0]; simp; intros; omega)]
    · simp [h0, h3, hlt, c1, c2, c3, w2, y1, y2, y4, y5, y7, x5]
      refine TL_loop (fun k e' t => ∃ j : Nat, (j ≤ ms[i].ab.length ∧ ∀ l, l < j → okAt ms[i].u ms[i].ab l = true) ∧ k = ms[i].ab.length - j ∧ e' 0 = SlM ms ∧ e' 3 = I i ∧ e' 4 = .ptr s.next 0 ∧ e' 5 = I j ∧ t.get s.next = some (.cells [I ms[i].o, I ms[i].u, SlI ms[i].ab])) ?_ ms[i].ab.length _ _ ⟨0, by simp [h0, h3]⟩
      rintro k e' t ⟨j, ⟨hj, hal⟩, rfl, g0, g3, g4, g5, gt⟩
      by_cases jlt : j < ms[i].ab.length
      case neg =>
        have e1 : j = ms[i].ab.length := by omega
        simp [g0, g3, g4, g5, gt, jlt, w3]
        refine ⟨ms.length - (i + 1), by omega, i + 1, ⟨by omega, next_all hall ?_⟩, rfl, by simp⟩
        simp only [okR, a0, hrm, all_ok (e1 ▸ hal)]
        simp only [b0]; simp; omega
      have A0 := getD_lt jlt
      have v1 : IntKind.i64.wrap (ms[i].ab[j] - ms[i].u) = ms[i].ab[j] - ms[i].u := wrapSub (hmab _ (List.getElem_mem jlt)) hmu
      have halt : okAt ms[i].u ms[i].ab j = false → rightL ms = false := fun h => stop (by simp only [okR, a0, hrm, all_fail jlt h]; simp)
      have v3 : IntKind.i64.wrap ((j : Int) + 1) = ((j + 1 : Nat) : Int) := wrapN (by omega)
      by_cases x1 : ms[i].ab[j] - ms[i].u < 2
      · simp [g0, g3, g4, g5, gt, jlt, v1, x1]
        rw [halt (by simp only [okAt, A0]; simp; intros; omega)]
      by_cases x2 : 8 < ms[i].ab[j] - ms[i].u
      · simp [g0, g3, g4, g5, gt, jlt, v1, x1, x2]
        rw [halt (by simp only [okAt, A0]; simp; intros; omega)]
      by_cases jz : j = 0
      · have q1 : ¬ (0 : Int) < (j : Int) := by omega
        have q2 : ¬ 0 < j := by omega
        simp [g0, g3, g4, g5, gt, jlt, v1, x1, x2, q1, q2, v3]
        refine ⟨ms[i].ab.length - (j + 1), by omega, j + 1, ⟨by omega, next_all hal ?_⟩, rfl, by simp⟩
        simp only [okAt, A0, decide_eq_true jz, Bool.true_or, Bool.and_true, Bool.and_eq_true, decide_eq_true_eq]; omega
      · have B0 := getD_lt (show j - 1 < ms[i].ab.length by omega)
        have q1 : (0 : Int) < (j : Int) := by omega
        have q2 : j - 1 < ms[i].ab.length := by omega
        have q4 : ((j : Int) - 1).toNat = j - 1 := by omega
        have q3 : IntKind.i64.wrap ((j : Int) - 1) = (j : Int) - 1 := wrap_id (by omega) (by omega)
        have q5 : 0 < j := by omega
        have q7 : (1 : Int) ≤ (j : Int) := by omega
        by_cases x3 : ms[i].ab[j] ≤ ms[i].ab[j - 1]
        · simp [g0, g3, g4, g5, gt, jlt, v1, x1, x2, q1, q2, q3, q4, q5, q7, x3]
          rw [halt (by simp only [okAt, A0, B0]; simp; intros; omega)]
        · simp [g0, g3, g4, g5, gt, jlt, v1, x1, x2, q1, q2, q3, q4, q5, q7, x3, v3]
          refine ⟨ms[i].ab.length - (j + 1), by omega, j + 1, ⟨by omega, next_all hal ?_⟩, rfl, by simp⟩
          simp only [okAt, A0, B0]; simp; omega
end Go.Proofs.TryF
