import Derived.Test.YtccjfglhoghbpaaFnL
namespace Go.Proofs.TryF
open Go Go.Pv
set_option linter.unusedSimpArgs false
set_option linter.unusedVariables false
set_option maxHeartbeats 2000000
set_option maxRecDepth 20000
theorem ok_of (ms : List Mk) (h : (decide (ms.length ≤ 1099511627776) && ms.all (fun m => decide (m.ab.length ≤ 1099511627776) && decide (-2305843009213693952 ≤ m.u) && decide (m.u ≤ 2305843009213693952) && m.ab.all (fun x => decide (-2305843009213693952 ≤ x) && decide (x ≤ 2305843009213693952)))) = true) : OkM ms := by
  simp only [Bool.and_eq_true, List.all_eq_true, decide_eq_true_eq] at h
  exact ⟨h.1, fun m hm => ⟨(h.2 m hm).1.1.1, ⟨(h.2 m hm).1.1.2, (h.2 m hm).1.2⟩, fun x hx => (h.2 m hm).2 x hx⟩⟩
theorem nilM : (PV.slice [] .no) = SlM [] := rfl
theorem tf6 : TF Try.prog lb 6 [] (B true) := by
  have e1 : noteM [] 2 1 = [⟨2, 1, []⟩] := by decide
  have e2 : noteM [⟨2, 1, []⟩] 2 3 = [⟨2, 1, [3]⟩] := by decide
  have e3 : noteM [⟨2, 1, [3]⟩] 2 2 = [⟨2, 3, []⟩] := by decide
  have n1 := tf9 [] 2 1 (ok_of _ (by decide)) (by simp [Sm])
  have n2 := tf9 [⟨2, 1, []⟩] 2 3 (ok_of _ (by decide)) (by simp [Sm])
  have n3 := tf9 [⟨2, 1, [3]⟩] 2 2 (ok_of _ (by decide)) (by simp [Sm])
  have f1 := tf11 [⟨2, 3, []⟩] 2 2 (ok_of _ (by decide)) (by simp [Sm])
  have f2 := tf11 [⟨2, 3, []⟩] 2 4 (ok_of _ (by decide)) (by simp [Sm])
  have f3 := tf11 [⟨2, 3, []⟩] 2 12 (ok_of _ (by decide)) (by simp [Sm])
  have r1 := tf13 [⟨2, 3, []⟩] (ok_of _ (by decide))
  rw [e1] at n1
  rw [e2] at n2
  rw [e3] at n3
  rw [show freshM [⟨2, 3, []⟩] 2 2 = false by decide] at f1
  rw [show freshM [⟨2, 3, []⟩] 2 4 = true by decide] at f2
  rw [show freshM [⟨2, 3, []⟩] 2 12 = false by decide] at f3
  rw [show rightL [⟨2, 3, []⟩] = true by decide] at r1
  refine TF_of rfl Try.func6 rfl ?_
  unfold WF
  simp
  refine TC_pure rfl rfl (by simp) n1 ?_
  simp
  refine TC_pure rfl rfl (by simp) n2 ?_
  simp
  refine TC_pure rfl rfl (by simp) n3 ?_
  simp
  refine TC_pure rfl rfl (by simp) f1 ?_
  simp
  refine TC_pure rfl rfl (by simp) f2 ?_
  simp
  refine TC_pure rfl rfl (by simp) f3 ?_
  simp
  refine TC_pure rfl rfl (by simp) r1 ?_
  simp

def inS (x : Int) : Bool := decide (-1099511627776 < x) && decide (x < 1099511627776)
def fewM (ms : List Mk) (s : Int) : Bool := inS s && ms.all (fun m => inS m.u && m.ab.all inS)
theorem all_take {α : Type} (p : α → Bool) (xs : List α) (i : Nat) (h : i < xs.length) : (xs.take (i + 1)).all p = ((xs.take i).all p && p xs[i]) := by
  rw [List.take_succ_eq_append_getElem h, List.all_append]; simp only [List.all_cons, List.all_nil, Bool.and_true]
noncomputable def inner7 : Code := match Try.f7.body with
  | some (.seq _ (.seq _ (.seq (.seq _ (.block _ (.loop (.seq _ (.seq (.block _ (.seq _ (.seq _ (.block _ (.loop c))))) _))))) _))) => c
  | _ => .skip
theorem few_in (ms : List Mk) (i : Nat) (hlt : i < ms.length) (hl : ms[i].ab.length ≤ 1099511627776) (c : Bool) (Q : Qn) (hQ : ∀ (e : Env) (t : Sto), e 0 = SlM ms → e 5 = B (c && ms[i].ab.all inS) → e 6 = I i → Q (.exit 2) e t)
    (e : Env) (t : Sto) (g0 : e 0 = SlM ms) (g5 : e 5 = B c) (g6 : e 6 = I i) (g7 : e 7 = I 0) : TL Try.prog lb inner7 Q e t := by
  simp only [inner7, Try.f7]
  refine TL_inv (fun k e t => ∃ j : Nat, j ≤ ms[i].ab.length ∧ k = ms[i].ab.length - j ∧ e 0 = SlM ms ∧ e 5 = B (c && (ms[i].ab.take j).all inS) ∧ e 6 = I i ∧ e 7 = I j) ms[i].ab.length ⟨0, by simp [g0, g5, g6, g7]⟩ ?_
  clear g0 g5 g6 g7
  rintro k e t ⟨j, hj, rfl, g0, g5, g6, g7⟩
  by_cases jlt : j < ms[i].ab.length
  case neg =>
    have e1 : j = ms[i].ab.length := by omega
    subst e1
    simp [g0, g5, g6, g7, hlt]
    exact hQ _ _ (by simp [g0]) (by simp [g5]) (by simp [g6])
  have w3 : IntKind.i64.wrap ((j : Int) + 1) = ((j + 1 : Nat) : Int) := wrapN (by omega)
  have hs := all_take inS ms[i].ab j jlt
  generalize hd : (c && (ms[i].ab.take j).all inS) = d at g5
  have hn : (c && (ms[i].ab.take (j + 1)).all inS) = (d && inS ms[i].ab[j]) := by rw [hs, ← hd, Bool.and_assoc]
  have fin : ∀ (b : Bool) (e : Env) (t : Sto), b = (d && inS ms[i].ab[j]) → e 0 = SlM ms → e 5 = B b → e 6 = I i → e 7 = I (j + 1 : Nat) → ∃ m, m < ms[i].ab.length - j ∧ Kn (fun k e t => ∃ j : Nat, j ≤ ms[i].ab.length ∧ k = ms[i].ab.length - j ∧ e 0 = SlM ms ∧ e 5 = B (c && (ms[i].ab.take j).all inS) ∧ e 6 = I i ∧ e 7 = I j) ⟨⟩ m e t := by
    intro b e t hb g0 g5 g6 g7
    refine ⟨ms[i].ab.length - (j + 1), by omega, Kn.mk ?_⟩
    exact ⟨j + 1, by omega, rfl, g0, by rw [hn, ← hb]; exact g5, g6, g7⟩
  cases d with
  | false =>
    simp [g0, g5, g6, g7, hlt, jlt, w3]
    exact fin false _ _ (by simp) (by simp [g0]) (by simp [g5]) (by simp [g6]) (by simp)
  | true =>
    by_cases c1 : -1099511627776 < ms[i].ab[j]
    case neg =>
      simp [g0, g5, g6, g7, hlt, jlt, w3, c1]
      exact fin false _ _ (by simp [inS, c1]) (by simp [g0]) (by simp [g5]) (by simp [g6]) (by simp)
    by_cases c2 : ms[i].ab[j] < 1099511627776
    case neg =>
      simp [g0, g5, g6, g7, hlt, jlt, w3, c1, c2]
      exact fin false _ _ (by simp [inS, c1, c2]) (by simp [g0]) (by simp [g5]) (by simp [g6]) (by simp)
    simp [g0, g5, g6, g7, hlt, jlt, w3, c1, c2]
    exact fin true _ _ (by simp [inS, c1, c2]) (by simp [g0]) (by simp [g5]) (by simp [g6]) (by simp)
noncomputable def outer7 : Code := match Try.f7.body with
  | some (.seq _ (.seq _ (.seq (.seq _ (.block _ (.loop c))) _))) => c
  | _ => .skip
theorem few_out (ms : List Mk) (hx : ms.length ≤ 1099511627776) (hm : ∀ m ∈ ms, m.ab.length ≤ 1099511627776) (c : Bool) (Q : Qn) (hQ : ∀ (e : Env) (t : Sto), e 5 = B (c && ms.all (fun m => inS m.u && m.ab.all inS)) → Q (.exit 0) e t)
    (e : Env) (t : Sto) (g0 : e 0 = SlM ms) (g5 : e 5 = B c) (g6 : e 6 = I 0) : TL Try.prog lb outer7 Q e t := by
  simp only [outer7, Try.f7]
  refine TL_inv (fun k e t => ∃ i : Nat, i ≤ ms.length ∧ k = ms.length - i ∧ e 0 = SlM ms ∧ e 5 = B (c && (ms.take i).all (fun m => inS m.u && m.ab.all inS)) ∧ e 6 = I i) ms.length ⟨0, by simp [g0, g5, g6]⟩ ?_
  clear g0 g5 g6
  rintro k e t ⟨i, hi, rfl, g0, g5, g6⟩
  by_cases hlt : i < ms.length
  case neg =>
    have e1 : i = ms.length := by omega
    subst e1
    simp [g0, g5, g6]
    exact hQ _ _ (by simp [g5])
  have w3 : IntKind.i64.wrap ((i : Int) + 1) = ((i + 1 : Nat) : Int) := wrapN (by omega)
  have hs := all_take (fun m => inS m.u && m.ab.all inS) ms i hlt
  generalize hd : (c && (ms.take i).all (fun m => inS m.u && m.ab.all inS)) = d at g5
  have hn : (c && (ms.take (i + 1)).all (fun m => inS m.u && m.ab.all inS)) = (d && inS ms[i].u && ms[i].ab.all inS) := by rw [hs, ← hd]; simp only [Bool.and_assoc]
  have ok := hm ms[i] (List.getElem_mem hlt)
  cases d with
  | false =>
    simp [g0, g5, g6, hlt, w3]
    refine few_in ms i hlt ok false _ ?_ _ _ (by simp [g0]) (by simp [g5]) (by simp [g6]) (by simp)
    intro e t k0 k5 k6
    simp [k0, k5, k6, w3]
    refine ⟨ms.length - (i + 1), by omega, Kn.mk ?_⟩
    exact ⟨i + 1, by omega, rfl, by simp [k0], by rw [hn]; simp [k5], by simp⟩
  | true =>
    by_cases c1 : -1099511627776 < ms[i].u
    case neg =>
      simp [g0, g5, g6, hlt, w3, c1]
      refine few_in ms i hlt ok false _ ?_ _ _ (by simp [g0]) (by simp [g5]) (by simp [g6]) (by simp)
      intro e t k0 k5 k6
      simp [k0, k5, k6, w3]
      refine ⟨ms.length - (i + 1), by omega, Kn.mk ?_⟩
      exact ⟨i + 1, by omega, rfl, by simp [k0], by rw [hn]; simp [k5, inS, c1], by simp⟩
    by_cases c2 : ms[i].u < 1099511627776
    case neg =>
      simp [g0, g5, g6, hlt, w3, c1, c2]
      refine few_in ms i hlt ok false _ ?_ _ _ (by simp [g0]) (by simp [g5]) (by simp [g6]) (by simp)
      intro e t k0 k5 k6
      simp [k0, k5, k6, w3]
      refine ⟨ms.length - (i + 1), by omega, Kn.mk ?_⟩
      exact ⟨i + 1, by omega, rfl, by simp [k0], by rw [hn]; simp [k5, inS, c1, c2], by simp⟩
    simp [g0, g5, g6, hlt, w3, c1, c2]
    refine few_in ms i hlt ok true _ ?_ _ _ (by simp [g0]) (by simp [g5]) (by simp [g6]) (by simp)
    intro e t k0 k5 k6
    simp [k0, k5, k6, w3]
    refine ⟨ms.length - (i + 1), by omega, Kn.mk ?_⟩
    exact ⟨i + 1, by omega, rfl, by simp [k0], by rw [hn]; simp [k5, inS, c1, c2], by simp⟩
theorem tf7 (ms : List Mk) (s : Int) (hx : W64 ms.length) (hm : ∀ m ∈ ms, W64 m.ab.length) : TF Try.prog lb 7 [SlM ms, I s] (B (fewM ms s)) := by
  refine TF_of rfl Try.func7 rfl ?_
  unfold WF W64 at *
  by_cases c1 : -1099511627776 < s
  case neg =>
    simp [c1]
    refine few_out ms hx hm false _ ?_ _ _ (by simp) (by simp) (by simp)
    intro e t k5
    simp [k5, fewM, inS, c1]
  by_cases c2 : s < 1099511627776
  case neg =>
    simp [c1, c2]
    refine few_out ms hx hm false _ ?_ _ _ (by simp) (by simp) (by simp)
    intro e t k5
    simp [k5, fewM, inS, c1, c2]
  simp [c1, c2]
  refine few_out ms hx hm true _ ?_ _ _ (by simp) (by simp) (by simp)
  intro e t k5
  simp [k5, fewM, inS, c1, c2]
end Go.Proofs.TryF
