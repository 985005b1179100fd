import Derived.Test.YtccjfglhoghbpaaPvOwn
namespace Go.Pv
open Go Go.RowKit
section
variable {P : Program} {L : Lb} {e : Env} {s : Sto}
/-! ### Texts one behind the other, by what they come to -/
theorem T_W {c : Code} {Q : Qn} (h : W P L c Q e s) : T P L c Q e s := W_sound c Q e s h
theorem T_seq {a b : Code} {Q : Qn} (h : W P L a (Hide (fun x e s => match x with
    | .normal => T P L b Q e s
    | x => Q x e s) ⟨⟩) e s) : T P L (.seq a b) Q e s := by
  obtain ⟨k, x, e', s', h1, h2⟩ := W_sound _ _ _ _ h
  cases x with
  | normal =>
    obtain ⟨k', x', e'', s'', h3, h4⟩ := h2
    refine ⟨max k k' + 1, x', e'', s'', ?_, h4⟩
    rw [ev, ev_le (Nat.le_max_left k k') h1]
    exact ev_le (Nat.le_max_right k k') h3
  | exit id => exact ⟨k + 1, _, e', s', by rw [ev, h1], h2⟩
  | goto id => exact ⟨k + 1, _, e', s', by rw [ev, h1], h2⟩
  | ret => exact ⟨k + 1, _, e', s', by rw [ev, h1], h2⟩
theorem T_seqT {a b : Code} {Q : Qn} (h : T P L a (fun x e s => match x with
    | .normal => T P L b Q e s
    | x => Q x e s) e s) : T P L (.seq a b) Q e s := by
  obtain ⟨k, x, e', s', h1, h2⟩ := h
  cases x with
  | normal =>
    obtain ⟨k', x', e'', s'', h3, h4⟩ := h2
    refine ⟨max k k' + 1, x', e'', s'', ?_, h4⟩
    rw [ev, ev_le (Nat.le_max_left k k') h1]
    exact ev_le (Nat.le_max_right k k') h3
  | exit id => exact ⟨k + 1, _, e', s', by rw [ev, h1], h2⟩
  | goto id => exact ⟨k + 1, _, e', s', by rw [ev, h1], h2⟩
  | ret => exact ⟨k + 1, _, e', s', by rw [ev, h1], h2⟩
/-- Behind a label, as after a goto. -/
theorem T_behind {l : Nat} {b : Code} {Q : Qn} (h : T P L (.seq .skip b) Q e s) : T P L (.seq (.label l) b) Q e s := by
  obtain ⟨k, x, e', s', h1, h2⟩ := h
  refine ⟨k, x, e', s', ?_, h2⟩
  cases k with
  | zero => simp [ev] at h1
  | succ k =>
    rw [ev] at h1 ⊢
    cases k with
    | zero => simp [ev] at h1
    | succ k => exact h1
theorem TS_T {b c : Code} {Q : Qn} (h : T P L c (fun x e s => match x with
    | .goto l => match findLabel b l with
      | some rest => TS P L b rest Q e s
      | none => Q (.goto l) e s
    | x => Q x e s) e s) : TS P L b c Q e s := by
  obtain ⟨k, x, e', s', h1, h2⟩ := h
  cases x with
  | goto l =>
    simp only at h2
    cases hl : findLabel b l with
    | some rest =>
      rw [hl] at h2
      obtain ⟨k', x', e'', s'', h3, h4⟩ := h2
      refine ⟨max k k' + 1, x', e'', s'', ?_, h4⟩
      rw [evS, ev_le (Nat.le_max_left k k') h1]
      simp only [hl]
      exact evS_le (Nat.le_max_right k k') h3
    | none =>
      rw [hl] at h2
      exact ⟨k + 1, _, e', s', by rw [evS, h1]; simp only [hl], h2⟩
  | normal => exact ⟨k + 1, _, e', s', by rw [evS, h1], h2⟩
  | exit id => exact ⟨k + 1, _, e', s', by rw [evS, h1], h2⟩
  | ret => exact ⟨k + 1, _, e', s', by rw [evS, h1], h2⟩
theorem T_of_TS {b c : Code} {Q : Qn} (h : TS P L b c Q e s) : T P L c (fun x e s => match x with
    | .goto l => match findLabel b l with
      | some rest => TS P L b rest Q e s
      | none => Q (.goto l) e s
    | x => Q x e s) e s := by
  obtain ⟨k, x, e', s', h1, h2⟩ := h
  cases k with
  | zero => simp [evS] at h1
  | succ k =>
    rw [evS] at h1
    cases hc : ev P L k c e s with
    | none => rw [hc] at h1; simp at h1
    | some r =>
      obtain ⟨y, e1, s1⟩ := r
      rw [hc] at h1
      refine ⟨k, y, e1, s1, hc, ?_⟩
      cases y with
      | goto l =>
        simp only at h1 ⊢
        cases hl : findLabel b l with
        | some rest =>
          rw [hl] at h1
          exact ⟨k, x, e', s', h1, h2⟩
        | none =>
          rw [hl] at h1
          simp only [Option.some.injEq, Prod.mk.injEq] at h1
          obtain ⟨rfl, rfl, rfl⟩ := h1
          exact h2
      | _ =>
        simp only [Option.some.injEq, Prod.mk.injEq] at h1
        obtain ⟨rfl, rfl, rfl⟩ := h1
        exact h2
/-- A goto's text, with what it comes to told for one whole: used for the body and for what is behind the label. -/
theorem T_mono {c : Code} {Q Q' : Qn} (h : T P L c Q e s) (hq : ∀ x e s, Q x e s → Q' x e s) : T P L c Q' e s := by
  obtain ⟨k, x, e', s', h1, h2⟩ := h
  exact ⟨k, x, e', s', h1, hq _ _ _ h2⟩
end
end Go.Pv
