import Derived.Test.YtccjfglhoghbpaaFnI
import Derived.Test.YtccjfglhoghbpaaPvApp
namespace Go.Proofs.TryF
open Go Go.Pv
set_option linter.unusedSimpArgs false
set_option linter.unusedVariables false
set_option maxHeartbeats 2000000
set_option maxRecDepth 20000
/-- A row that is copied, with one more at the place j. -/
def accA {α : Type} (xs : List α) (j : Nat) (x : α) (i : Nat) : List α := if i ≤ j then xs.take i else insAt (xs.take i) j x
section
variable {α : Type} {xs : List α} {i j : Nat} {x : α}
theorem accA_zero : accA xs j x 0 = [] := by simp [accA]
theorem accA_before (h : i < j) (hi : i < xs.length) : accA xs j x (i + 1) = accA xs j x i ++ [xs[i]] := by
  simp only [accA]
  rw [if_pos (by omega), if_pos (by omega), List.take_succ_eq_append_getElem hi]
theorem accA_at (hi : i < xs.length) : accA xs i x (i + 1) = (accA xs i x i ++ [x]) ++ [xs[i]] := by
  simp only [accA]
  rw [if_neg (by omega), if_pos (Nat.le_refl _), List.take_succ_eq_append_getElem hi]
  have hl : (xs.take i).length = i := by simp; omega
  simp only [insAt]
  rw [List.take_append_of_le_length (by omega), List.take_of_length_le (by omega), List.drop_append_of_le_length (by omega), List.drop_of_length_le (by omega)]
  simp
theorem accA_after (h : j < i) (hi : i < xs.length) : accA xs j x (i + 1) = accA xs j x i ++ [xs[i]] := by
  simp only [accA]
  rw [if_neg (by omega), if_neg (by omega), List.take_succ_eq_append_getElem hi]
  have hl : (xs.take i).length = i := by simp; omega
  simp only [insAt]
  rw [List.take_append_of_le_length (by omega), List.drop_append_of_le_length (by omega)]
  simp
theorem accA_len (hi : i ≤ xs.length) : (accA xs j x i).length = if i ≤ j then i else i + 1 := by
  simp only [accA]
  split
  · simp; omega
  · rw [insAt_len (by simp; omega)]; simp; omega
theorem accA_end (h : j < xs.length) : accA xs j x xs.length = insAt xs j x := by
  simp only [accA]
  rw [if_neg (by omega), List.take_length]
theorem accA_end' : accA xs xs.length x xs.length ++ [x] = insAt xs xs.length x := by
  simp [accA, insAt]
end

theorem appI {t : Sto} {g g' : Grow} {xs : List Int} (x : Int) (hA : App t 1 g xs.length) (h4 : (xs.length + 1) * 8 ≤ 140737488355328) :
    evAppend Try.prog t #[33, 33] (.slice (xs.map I) g) (.slice [I x] g') = some (.slice ((xs ++ [x]).map I) (.tok t.next), (dropG t g).push (.grow (xs.length + 1))) := by
  have := app1 Try.apd33 (es := xs.map I) (s := t) (g := g) (base := 1) (by simpa using hA) (I x) g' (by simp) rfl rfl (by simpa using h4)
  simpa using this
theorem appM {t : Sto} {g g' : Grow} {xs : List Mk} (x : Mk) (hA : App t 1 g (xs.length * 3)) (h4 : (xs.length + 1) * 40 ≤ 140737488355328) :
    evAppend Try.prog t #[22, 22] (.slice (xs.map enc) g) (.slice [enc x] g') = some (.slice ((xs ++ [x]).map enc) (.tok t.next), (dropG t g).push (.grow ((xs.length + 1) * 3))) := by
  have := app1 Try.apd22 (es := xs.map enc) (s := t) (g := g) (base := 1) (by simpa using hA) (enc x) g' (by simp) rfl rfl (by simpa using h4)
  simpa using this
theorem findIdx_gt {p : Int → Bool} {xs : List Int} {i : Nat} (hlt : i < xs.length) : (p xs[i] = false → i ≠ xs.findIdx p) := by
  intro h e
  have := List.findIdx_getElem (p := p) (xs := xs) (w := by rw [← e]; exact hlt)
  simp only [← e] at this
  rw [h] at this; simp at this

noncomputable def code10 : Code := match Try.f10.body with
  | some c => c
  | none => .skip
theorem body10_eq : Try.f10.body = some code10 := rfl

/-- ref14.Note: the row with one more. -/
theorem n10a (ms : List Mk) (n s : Int) (m : Mk) (h1 : m.ab.length ≤ 1099511627776) (at_ : Int) (e : Env) (t : Sto)
    (g0 : e 0 = SlM ms) (g1 : e 1 = I n) (g2 : e 2 = I s) (g8 : e 8 = .ptr 0 0) (g9 : e 9 = I at_) (g10 : e 10 = .slice [] .full) (g11 : e 11 = B false) (gown : t.own = false) (gn : 1 ≤ t.next) (gt : t.get 0 = some (.cells [I m.o, I m.u, SlI m.ab])) :
    T Try.prog lb (match code10 with | .seq _ (.seq _ (.seq _ (.seq _ (.seq _ (.seq _ (.seq a _)))))) => a | _ => .skip) (fun x e t => x = .normal ∧ ∃ g, e 0 = SlM ms ∧ e 1 = I n ∧ e 2 = I s ∧ e 8 = .ptr 0 0 ∧ e 9 = I at_ ∧ e 10 = .slice ((accA m.ab (m.ab.findIdx (fun x => decide (s < x))) s m.ab.length).map I) g ∧ e 11 = B (decide (m.ab.findIdx (fun x => decide (s < x)) < m.ab.length)) ∧ t.own = false ∧ t.get 0 = some (.cells [I m.o, I m.u, SlI m.ab]) ∧ App t 1 g (accA m.ab (m.ab.findIdx (fun x => decide (s < x))) s m.ab.length).length) e t := by
  refine T_W ?_
  simp only [code10, Try.f10]
  simp
  have hjl : m.ab.findIdx (fun x => decide (s < x)) ≤ m.ab.length := List.findIdx_le_length
  refine TL_loop (fun k e t => ∃ (i : Nat) (g : Grow), i ≤ m.ab.length ∧ k = m.ab.length - i ∧ e 0 = SlM ms ∧ e 1 = I n ∧ e 2 = I s ∧ e 8 = .ptr 0 0 ∧ e 9 = I at_ ∧ e 10 = .slice ((accA m.ab (m.ab.findIdx (fun x => decide (s < x))) s i).map I) g ∧ e 11 = B (decide (m.ab.findIdx (fun x => decide (s < x)) < i)) ∧ e 12 = I i ∧ t.own = false ∧ t.get 0 = some (.cells [I m.o, I m.u, SlI m.ab]) ∧ App t 1 g (accA m.ab (m.ab.findIdx (fun x => decide (s < x))) s i).length) ?_ m.ab.length _ _ ⟨0, .full, by simp [accA_zero, g0, g1, g2, g8, g9, g10, g11, gown, gt, App.full gn]⟩
  clear g0 g1 g2 g8 g9 g10 g11 gown gn gt
  rintro k e t ⟨i, g, hi, rfl, g0, g1, g2, g8, g9, g10, g11, g12, gown, gt, hA⟩
  have hn0 : ¬ (0 = t.next) := by have := hA.1; omega
  have hal := accA_len (j := m.ab.findIdx (fun x => decide (s < x))) (x := s) hi
  by_cases hlt : i < m.ab.length
  · have w3 : IntKind.i64.wrap ((i : Int) + 1) = ((i + 1 : Nat) : Int) := wrapN (by omega)
    rcases Nat.lt_trichotomy i (m.ab.findIdx (fun x => decide (s < x))) with hij | hij | hij
    · have hp : ¬ s < m.ab[i] := by
        have := List.not_of_lt_findIdx hij
        simpa using this
      have q1 : ¬ (m.ab.findIdx (fun x => decide (s < x)) < i) := by omega
      have q2 : ¬ (m.ab.findIdx (fun x => decide (s < x)) < i + 1) := by omega
      have hap := appI (g' := .full) m.ab[i] hA (by rw [hal]; split <;> omega)
      rw [← accA_before hij hlt] at hap
      have hlen : (accA m.ab (m.ab.findIdx (fun x => decide (s < x))) s i).length + 1 = (accA m.ab (m.ab.findIdx (fun x => decide (s < x))) s (i + 1)).length := by rw [accA_before hij hlt]; simp
      simp [-Try.ap33, g0, g1, g2, g8, g9, g10, g11, g12, gt, gown, hlt, hp, q1, q2, w3, hap, hn0, hA.get (show 0 < 1 by omega)]
      refine ⟨m.ab.length - (i + 1), by omega, i + 1, by omega, rfl, .tok t.next, ⟨rfl, rfl⟩, by omega, by omega, ?_⟩
      rw [← hlen]
      exact App.push hA.1 _
    · have hp : s < m.ab[i] := by
        have := List.findIdx_getElem (p := fun x => decide (s < x)) (xs := m.ab) (w := by omega)
        simp only [← hij] at this
        simpa using this
      rw [← hij] at g10 g11 hA hal ⊢
      have q1 : ¬ (i < i) := by omega
      have hap := appI (g' := .full) s hA (by rw [hal]; split <;> omega)
      have hap2 := appI (g' := .full) m.ab[i] (t := (dropG t g).push (.grow ((accA m.ab i s i).length + 1))) (g := .tok t.next) (xs := accA m.ab i s i ++ [s]) (by simpa using App.push hA.1 _) (by simp [hal]; omega)
      have hlen : (accA m.ab i s i).length + 1 + 1 = (accA m.ab i s (i + 1)).length := by rw [accA_at hlt]; simp
      simp only [List.map_append, List.map_cons, List.map_nil, push_next, dropG_next, List.length_append, List.length_cons, List.length_nil] at hap hap2
      simp [-Try.ap33, g0, g1, g2, g8, g9, g10, g11, g12, gt, gown, hlt, hp, q1, w3, hap, hap2, hn0, hA.get (show 0 < 1 by omega)]
      refine ⟨m.ab.length - (i + 1), by omega, i + 1, by omega, rfl, .tok (t.next + 1), ⟨by rw [accA_at hlt]; simp, rfl⟩, by omega, by omega, ?_, ?_⟩
      · rw [(App.push hA.1 _).get (show 0 < 1 by omega)]
        simp [hn0, hA.get (show 0 < 1 by omega), gt]
      · rw [← hlen]
        have := App.push (base := 1) (s := (dropG t g).push (.grow ((accA m.ab i s i).length + 1))) (g := .tok t.next) (by simp) ((accA m.ab i s i).length + 1 + 1)
        simpa using this
    · have hp : ¬ m.ab.findIdx (fun x => decide (s < x)) = m.ab.length := by omega
      have hap := appI (g' := .full) m.ab[i] hA (by rw [hal]; split <;> omega)
      have hlen : (accA m.ab (m.ab.findIdx (fun x => decide (s < x))) s i).length + 1 = (accA m.ab (m.ab.findIdx (fun x => decide (s < x))) s (i + 1)).length := by rw [accA_after hij hlt]; simp
      rw [← accA_after hij hlt] at hap
      have q2 : (m.ab.findIdx (fun x => decide (s < x)) < i + 1) := by omega
      simp [-Try.ap33, g0, g1, g2, g8, g9, g10, g11, g12, gt, gown, hlt, hij, q2, w3, hap, hn0, hA.get (show 0 < 1 by omega)]
      refine ⟨m.ab.length - (i + 1), by omega, i + 1, by omega, rfl, .tok t.next, ⟨rfl, rfl⟩, by omega, by omega, ?_⟩
      rw [← hlen]
      exact App.push hA.1 _
  · have hil : i = m.ab.length := by omega
    subst hil
    simp [-Try.ap33, g0, g1, g2, g8, g9, g10, g11, g12, gt, gown, hn0]
    exact hA
end Go.Proofs.TryF
