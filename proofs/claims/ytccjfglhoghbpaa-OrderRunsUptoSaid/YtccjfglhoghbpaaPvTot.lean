import Derived.Test.YtccjfglhoghbpaaPvSound
namespace Go.Pv
open Go Go.RowKit

section
variable {P : Program} {L : Lb}

/-! ### More rounds give the same answer -/
theorem evOp_mono {wr : FuncId → Bool} {cf cf' : CF} (h : ∀ g a s r, cf g a s = some r → cf' g a s = some r) {e : Env} {s : Sto} {o : Oper} {r : PV × Sto} (he : evOp P wr cf e s o = some r) : evOp P wr cf' e s o = some r := by
  unfold evOp at he ⊢
  split at he
  · split at he
    · split at he
      · split at he
        · rename_i hs
          simp only [hs, if_true]
          exact h _ _ _ _ he
        · simp at he
      · simp at he
    · exact he
  · exact he
theorem evOps_mono {wr : FuncId → Bool} {cf cf' : CF} (h : ∀ g a s r, cf g a s = some r → cf' g a s = some r) {ops : Array Oper} : ∀ (os : List Oper) (e : Env) (s : Sto) (r : Env × Sto), evOps P wr cf ops os e s = some r → evOps P wr cf' ops os e s = some r
  | [], e, s, r, he => he
  | o :: os, e, s, r, he => by
    simp only [evOps] at he ⊢
    split at he
    · split at he
      · rename_i p s' hop
        rw [evOp_mono h hop]
        exact evOps_mono h os _ _ r he
      · simp at he
    · exact evOps_mono h os _ _ r he
    · simp at he

theorem mono : ∀ (k : Nat), (∀ c e s r, ev P L k c e s = some r → ev P L (k + 1) c e s = some r) ∧ (∀ b e s r, evL P L k b e s = some r → evL P L (k + 1) b e s = some r) ∧ (∀ b c e s r, evS P L k b c e s = some r → evS P L (k + 1) b c e s = some r) ∧
    (∀ g a s r, evC P L k g a s = some r → evC P L (k + 1) g a s = some r) ∧ (∀ g a r, evF P L k g a = some r → evF P L (k + 1) g a = some r) := by
  intro k
  induction k with
  | zero => exact ⟨fun _ _ _ _ h => by simp [ev] at h, fun _ _ _ _ h => by simp [evL] at h, fun _ _ _ _ _ h => by simp [evS] at h, fun _ _ _ _ h => by simp [evC] at h, fun _ _ _ h => by simp [evF] at h⟩
  | succ k ih =>
    obtain ⟨ihE, ihL, ihS, ihC, ihF⟩ := ih
    refine ⟨fun c e s r h => ?_, fun b e s r h => ?_, fun b c e s r h => ?_, fun g a s r h => ?_, fun g a r h => ?_⟩
    · cases c with
      | region id ops d =>
        rw [ev] at h ⊢
        rw [Option.map_eq_some_iff] at h ⊢
        obtain ⟨x, hx, rfl⟩ := h
        exact ⟨x, evOps_mono ihC _ _ _ _ hx, rfl⟩
      | seq a b =>
        rw [ev] at h ⊢
        cases h1 : ev P L k a e s with
        | none => rw [h1] at h; simp at h
        | some q =>
          rw [ihE _ _ _ _ h1]
          rw [h1] at h
          obtain ⟨x, e1, s1⟩ := q
          cases x with
          | normal => exact ihE _ _ _ _ h
          | _ => exact h
      | cond x a b =>
        rw [ev] at h ⊢
        split at h
        · rename_i t ht
          exact ihE _ _ _ _ h
        · simp at h
      | block id b =>
        rw [ev] at h ⊢
        cases h1 : ev P L k b e s with
        | none => rw [h1] at h; simp at h
        | some q => rw [ihE _ _ _ _ h1]; rw [h1] at h; exact h
      | loop b => rw [ev] at h ⊢; exact ihL _ _ _ _ h
      | scope b => rw [ev] at h ⊢; exact ihS _ _ _ _ _ h
      | skip => rw [ev] at h ⊢; exact h
      | label l => rw [ev] at h ⊢; exact h
      | exit id => rw [ev] at h ⊢; exact h
      | goto l => rw [ev] at h ⊢; exact h
      | ret => rw [ev] at h ⊢; exact h
      | rangeFunc f p a b => rw [ev] at h; simp at h
      | refuse y => rw [ev] at h; simp at h
    · rw [evL] at h ⊢
      cases h1 : ev P L k b e s with
      | none => rw [h1] at h; simp at h
      | some q =>
        rw [ihE _ _ _ _ h1]
        rw [h1] at h
        obtain ⟨x, e1, s1⟩ := q
        cases x with
        | normal => exact ihL _ _ _ _ h
        | _ => exact h
    · rw [evS] at h ⊢
      cases h1 : ev P L k c e s with
      | none => rw [h1] at h; simp at h
      | some q =>
        rw [ihE _ _ _ _ h1]
        rw [h1] at h
        obtain ⟨x, e1, s1⟩ := q
        cases x with
        | goto l =>
          simp only at h ⊢
          split at h
          · exact ihS _ _ _ _ _ h
          · exact h
        | _ => exact h
    · rw [evC] at h ⊢
      split at h
      · exact h
      · split at h
        · rename_i hin
          rw [if_pos hin]
          split at h
          · rename_i hokg
            rw [if_pos hokg]
            split at h
            · split at h
              · rename_i fn hfn c hc
                cases h1 : ev P L k c (initEnv a) (s.flag (L.own g)) with
                | none => rw [h1] at h; simp [finI] at h
                | some q => rw [ihE _ _ _ _ h1]; rw [h1] at h; exact h
              · simp at h
            · simp at h
          · simp at h
        rename_i hin
        rw [if_neg hin]
        split at h
        · rename_i hc
          rw [if_pos hc]
          rw [Option.map_eq_some_iff] at h ⊢
          obtain ⟨x, hx, rfl⟩ := h
          exact ⟨x, ihF _ _ _ hx, rfl⟩
        · rename_i hc
          rw [if_neg hc]
          split at h
          · rename_i args' hb
            cases h1 : evF P L k g args' with
            | none => rw [h1] at h; simp at h
            | some q => rw [ihF _ _ _ h1]; rw [h1] at h; exact h
          · simp at h
    · rw [evF] at h ⊢
      split at h
      · rename_i hok
        rw [if_pos hok]
        split at h
        · split at h
          · rename_i fn hfn c hc
            cases h1 : ev P L k c (initEnv a) (sF (L.own g)) with
            | none => rw [h1] at h; simp at h
            | some q => rw [ihE _ _ _ _ h1]; rw [h1] at h; exact h
          · simp at h
        · simp at h
      · simp at h

theorem ev_le {k m : Nat} (hkm : k ≤ m) {c : Code} {e : Env} {s : Sto} {r : AX × Env × Sto} (h : ev P L k c e s = some r) : ev P L m c e s = some r := by
  induction hkm with
  | refl => exact h
  | step _ ih => exact (mono _).1 _ _ _ _ ih
theorem evL_le {k m : Nat} (hkm : k ≤ m) {c : Code} {e : Env} {s : Sto} {r : AX × Env × Sto} (h : evL P L k c e s = some r) : evL P L m c e s = some r := by
  induction hkm with
  | refl => exact h
  | step _ ih => exact (mono _).2.1 _ _ _ _ ih
theorem evS_le {k m : Nat} (hkm : k ≤ m) {b c : Code} {e : Env} {s : Sto} {r : AX × Env × Sto} (h : evS P L k b c e s = some r) : evS P L m b c e s = some r := by
  induction hkm with
  | refl => exact h
  | step _ ih => exact (mono _).2.2.1 _ _ _ _ _ ih
theorem evC_le {k m : Nat} (hkm : k ≤ m) {g : FuncId} {a : List PV} {s : Sto} {r : PV × Sto} (h : evC P L k g a s = some r) : evC P L m g a s = some r := by
  induction hkm with
  | refl => exact h
  | step _ ih => exact (mono _).2.2.2.1 _ _ _ _ ih
theorem evF_le {k m : Nat} (hkm : k ≤ m) {g : FuncId} {a : List PV} {r : PV} (h : evF P L k g a = some r) : evF P L m g a = some r := by
  induction hkm with
  | refl => exact h
  | step _ ih => exact (mono _).2.2.2.2 _ _ _ ih
end

section
variable (P : Program) (L : Lb)

/-! ### What a text comes to -/
abbrev Qn := AX → Env → Sto → Prop
def T (c : Code) (Q : Qn) (e : Env) (s : Sto) : Prop := ∃ k x e' s', ev P L k c e s = some (x, e', s') ∧ Q x e' s'
def TL (b : Code) (Q : Qn) (e : Env) (s : Sto) : Prop := ∃ k x e' s', evL P L k b e s = some (x, e', s') ∧ Q x e' s'
def TS (b c : Code) (Q : Qn) (e : Env) (s : Sto) : Prop := ∃ k x e' s', evS P L k b c e s = some (x, e', s') ∧ Q x e' s'
def TC (g : FuncId) (a : List PV) (s : Sto) (Q : PV → Sto → Prop) : Prop := ∃ k r s', evC P L k g a s = some (r, s') ∧ Q r s'
/-- The function g comes to r. -/
def TF (g : FuncId) (a : List PV) (r : PV) : Prop := ∃ k, evF P L k g a = some r
def TOs (ops : Array Oper) (os : List Oper) (Q : Env → Sto → Prop) (e : Env) (s : Sto) : Prop := ∃ k e' s', evOps P L.wr (fun g a s => evC P L k g a s) ops os e s = some (e', s') ∧ Q e' s'

def WOp (o : Oper) (K : PV → Sto → Prop) (e : Env) (s : Sto) : Prop :=
  match o.op with
  | .call c => match c.callee with
    | .value f => match evO e f with
      | .fn (.func g) a b => (staticF f || !L.wr g) = true ∧ TC P L g (a ++ c.args.toList.map (evO e) ++ b) s K
      | _ => False
    | _ => match evPrim P e s o with
      | some (p, s') => K p s'
      | none => False
  | _ => match evPrim P e s o with
    | some (p, s') => K p s'
    | none => False
def WOs (ops : Array Oper) : List Oper → (Env → Sto → Prop) → Env → Sto → Prop
  | [], Q, e, s => Q e s
  | o :: os, Q, e, s => match wantedP ops e o with
    | some true => WOp P L o (fun p s' => WOs ops os Q (putE e o.dst p) s') e s
    | some false => WOs ops os Q (putE e o.dst skipP) s
    | none => False
def W : Code → Qn → Env → Sto → Prop
  | .skip, Q, e, s => Q .normal e s
  | .label _, Q, e, s => Q .normal e s
  | .region _ ops _, Q, e, s => WOs P L ops ops.toList (Q .normal) e s
  | .seq a b, Q, e, s => W a (fun x e s => match x with
    | .normal => W b Q e s
    | x => Q x e s) e s
  | .cond x a b, Q, e, s => match evO e x with
    | .lit (.bool t) => if t = true then W a Q e s else W b Q e s
    | _ => False
  | .block id b, Q, e, s => W b (fun x e s => match x with
    | .exit id' => if id' = id then Q .normal e s else Q (.exit id') e s
    | x => Q x e s) e s
  | .loop b, Q, e, s => TL P L b Q e s
  | .exit id, Q, e, s => Q (.exit id) e s
  | .goto l, Q, e, s => Q (.goto l) e s
  | .ret, Q, e, s => Q .ret e s
  | .scope b, Q, e, s => TS P L b b Q e s
  | .rangeFunc _ _ _ _, _, _, _ => False
  | .refuse _, _, _, _ => False
end

section
variable {P : Program} {L : Lb}

theorem WOp_sound {o : Oper} {K : PV → Sto → Prop} {e : Env} {s : Sto} (h : WOp P L o K e s) : ∃ k p s', evOp P L.wr (fun g a s => evC P L k g a s) e s o = some (p, s') ∧ K p s' := by
  obtain ⟨dst, op, ty, pos, aft, grd⟩ := o
  cases op with
  | call c =>
    obtain ⟨callee, args, argTypes⟩ := c
    cases callee with
    | value f =>
      simp only [WOp] at h
      split at h
      · rename_i g a b hf
        obtain ⟨h1, k, r, s', h2, h3⟩ := h
        refine ⟨k, r, s', ?_, h3⟩
        simp only [evOp, hf]
        rw [if_pos h1]
        exact h2
      · exact h.elim
    | invoke r m =>
      simp only [WOp] at h
      split at h
      · rename_i p s' hp
        exact ⟨0, p, s', hp, h⟩
      · exact h.elim
    | builtin b =>
      simp only [WOp] at h
      split at h
      · rename_i p s' hp
        exact ⟨0, p, s', hp, h⟩
      · exact h.elim
  | _ =>
    simp only [WOp] at h
    split at h
    · rename_i p s' hp
      exact ⟨0, p, s', hp, h⟩
    · exact h.elim
theorem WOs_sound {ops : Array Oper} : ∀ (os : List Oper) (Q : Env → Sto → Prop) (e : Env) (s : Sto), WOs P L ops os Q e s → TOs P L ops os Q e s
  | [], Q, e, s, h => ⟨0, e, s, rfl, h⟩
  | o :: os, Q, e, s, h => by
    simp only [WOs] at h
    split at h
    · rename_i hw
      obtain ⟨k, p, s', h1, h2⟩ := WOp_sound h
      obtain ⟨k', e', s'', h3, h4⟩ := WOs_sound os Q _ _ h2
      refine ⟨max k k', e', s'', ?_, h4⟩
      simp only [evOps, hw]
      rw [evOp_mono (cf' := fun g a s => evC P L (max k k') g a s) (fun g a s r h => evC_le (Nat.le_max_left _ _) h) h1]
      exact evOps_mono (fun g a s r h => evC_le (Nat.le_max_right _ _) h) os _ _ _ h3
    · rename_i hw
      obtain ⟨k', e', s'', h3, h4⟩ := WOs_sound os Q _ _ h
      exact ⟨k', e', s'', by simp only [evOps, hw]; exact h3, h4⟩
    · exact h.elim
theorem W_sound : ∀ (c : Code) (Q : Qn) (e : Env) (s : Sto), W P L c Q e s → T P L c Q e s
  | .skip, Q, e, s, h => ⟨1, _, _, _, rfl, h⟩
  | .label _, Q, e, s, h => ⟨1, _, _, _, rfl, h⟩
  | .exit _, Q, e, s, h => ⟨1, _, _, _, rfl, h⟩
  | .goto _, Q, e, s, h => ⟨1, _, _, _, rfl, h⟩
  | .ret, Q, e, s, h => ⟨1, _, _, _, rfl, h⟩
  | .region id ops d, Q, e, s, h => by
    obtain ⟨k, e', s', h1, h2⟩ := WOs_sound _ _ _ _ h
    exact ⟨k + 1, .normal, e', s', by rw [ev, h1]; rfl, h2⟩
  | .seq a b, Q, e, s, h => by
    obtain ⟨k, x, e', s', h1, h2⟩ := W_sound a _ e s h
    cases x with
    | normal =>
      obtain ⟨k', x', e'', s'', h3, h4⟩ := W_sound b Q e' s' h2
      refine ⟨max k k' + 1, x', e'', s'', ?_, h4⟩
      rw [ev, ev_le (Nat.le_max_left k k') h1]
      exact ev_le (Nat.le_max_right k k') h3
    | exit id => exact ⟨k + 1, _, e', s', by rw [ev, h1], h2⟩
    | goto id => exact ⟨k + 1, _, e', s', by rw [ev, h1], h2⟩
    | ret => exact ⟨k + 1, _, e', s', by rw [ev, h1], h2⟩
  | .cond x a b, Q, e, s, h => by
    simp only [W] at h
    split at h
    · rename_i t ht
      cases t with
      | true =>
        obtain ⟨k, x', e', s', h1, h2⟩ := W_sound a Q e s (by simpa using h)
        exact ⟨k + 1, x', e', s', by rw [ev, ht]; exact h1, h2⟩
      | false =>
        obtain ⟨k, x', e', s', h1, h2⟩ := W_sound b Q e s (by simpa using h)
        exact ⟨k + 1, x', e', s', by rw [ev, ht]; exact h1, h2⟩
    · exact h.elim
  | .block id b, Q, e, s, h => by
    obtain ⟨k, x, e', s', h1, h2⟩ := W_sound b _ e s h
    cases x with
    | exit id' =>
      simp only at h2
      by_cases hid : id' = id
      · rw [if_pos hid] at h2
        exact ⟨k + 1, .normal, e', s', by rw [ev, h1]; simp [hid], h2⟩
      · rw [if_neg hid] at h2
        exact ⟨k + 1, .exit id', e', s', by rw [ev, h1]; simp [hid], h2⟩
    | normal => exact ⟨k + 1, _, e', s', by rw [ev, h1], h2⟩
    | goto id => exact ⟨k + 1, _, e', s', by rw [ev, h1], h2⟩
    | ret => exact ⟨k + 1, _, e', s', by rw [ev, h1], h2⟩
  | .loop b, Q, e, s, ⟨k, x, e', s', h1, h2⟩ => ⟨k + 1, x, e', s', by rw [ev]; exact h1, h2⟩
  | .scope b, Q, e, s, ⟨k, x, e', s', h1, h2⟩ => ⟨k + 1, x, e', s', by rw [ev]; exact h1, h2⟩
  | .rangeFunc _ _ _ _, _, _, _, h => h.elim
  | .refuse _, _, _, _, h => h.elim

/-- A function by its text. -/
def WF (P : Program) (L : Lb) (o : Bool) (c : Code) (rs : List ResultVar) (ts : List TypeId) (args : List PV) (r : PV) : Prop :=
  W P L c (fun x e s => match x with
    | .normal => ∃ ps, resultsE P e s rs = some ps ∧ ∃ qs, frzs P s ts ps = some qs ∧ resultOf qs = r
    | .ret => ∃ ps, resultsE P e s rs = some ps ∧ ∃ qs, frzs P s ts ps = some qs ∧ resultOf qs = r
    | _ => False) (initEnv args) (sF o)
theorem TF_of {g : FuncId} {fn : Func} {c : Code} {args : List PV} {r : PV} (hok : L.ok g = true) (hf : P.funcs[g]? = some fn) (hb : fn.body = some c) (h : WF P L (L.own g) c fn.results.toList fn.resultTypes.toList args r) : TF P L g args r := by
  obtain ⟨k, x, e', s', h1, h2⟩ := W_sound _ _ _ _ h
  refine ⟨k + 1, ?_⟩
  rw [evF, if_pos hok]
  simp only [hf, hb]
  rw [h1]
  cases x with
  | normal => obtain ⟨ps, h3, qs, h4, h5⟩ := h2; simp [h3, h4, h5]
  | ret => obtain ⟨ps, h3, qs, h4, h5⟩ := h2; simp [h3, h4, h5]
  | exit id => exact h2.elim
  | goto l => exact h2.elim

theorem TF_det {g : FuncId} {args : List PV} {r r' : PV} (h : TF P L g args r) (h' : TF P L g args r') : r = r' := by
  obtain ⟨k, h⟩ := h
  obtain ⟨k', h'⟩ := h'
  have h1 := evF_le (Nat.le_max_left k k') h
  have h2 := evF_le (Nat.le_max_right k k') h'
  rw [h1] at h2
  simpa using h2

theorem TC_inl {g : FuncId} {fn : Func} {c : Code} {args : List PV} {s : Sto} {Q : PV → Sto → Prop} (hi : L.intr g = none) (hin : L.inl g = true) (hok : L.ok g = true) (hf : P.funcs[g]? = some fn) (hb : fn.body = some c) (h : W P L c (fun x e s' => match x with
    | .normal => ∃ ps, resultsE P e s' fn.results.toList = some ps ∧ Q (resultOf ps) (s'.flag s.own)
    | .ret => ∃ ps, resultsE P e s' fn.results.toList = some ps ∧ Q (resultOf ps) (s'.flag s.own)
    | _ => False) (initEnv args) (s.flag (L.own g))) : TC P L g args s Q := by
  obtain ⟨k, x, e', s', h1, h2⟩ := W_sound _ _ _ _ h
  cases x with
  | normal => obtain ⟨ps, h3, h4⟩ := h2; exact ⟨k + 1, _, _, by rw [evC, hi]; simp only [hin, hok, if_true, hf, hb, h1, finI, h3]; rfl, h4⟩
  | ret => obtain ⟨ps, h3, h4⟩ := h2; exact ⟨k + 1, _, _, by rw [evC, hi]; simp only [hin, hok, if_true, hf, hb, h1, finI, h3]; rfl, h4⟩
  | exit id => exact h2.elim
  | goto l => exact h2.elim
theorem TC_pure {g : FuncId} {args : List PV} {r : PV} {s : Sto} {Q : PV → Sto → Prop} (hi : L.intr g = none) (hin : L.inl g = false) (hc : cleanL args = true) (h : TF P L g (normL args) r) (hq : Q r s) : TC P L g args s Q := by
  obtain ⟨k, h⟩ := h
  refine ⟨k + 1, r, s, ?_, hq⟩
  rw [evC, hi]
  simp only [hin, Bool.false_eq_true, if_false, hc, if_true, h, Option.map_some]
theorem TC_borrow {g : FuncId} {args args' : List PV} {r : PV} {s : Sto} {Q : PV → Sto → Prop} (hi : L.intr g = none) (hin : L.inl g = false) (hc : cleanL args = false) (hb : frzs P s (paramsOf P g) args = some args') (h : TF P L g args' r) (hm : memfree r = true) (hq : Q r s) : TC P L g args s Q := by
  obtain ⟨k, h⟩ := h
  refine ⟨k + 1, r, s, ?_, hq⟩
  rw [evC, hi]
  simp only [hin, hc, Bool.false_eq_true, if_false, hb, h, hm, if_true]
theorem TC_intr {g : FuncId} {t : List PV → Sto → Option (PV × Sto)} {args : List PV} {r : PV} {s s' : Sto} {Q : PV → Sto → Prop} (hi : L.intr g = some t) (h : t args s = some (r, s')) (hq : Q r s') : TC P L g args s Q :=
  ⟨1, r, s', by rw [evC, hi]; exact h, hq⟩

/-! ### Loops -/
theorem TL_step {b : Code} {Q : Qn} {e : Env} {s : Sto} (h : W P L b (fun x e s => match x with
    | .normal => TL P L b Q e s
    | x => Q x e s) e s) : TL P L b Q e s := by
  obtain ⟨k, x, e', s', h1, h2⟩ := W_sound _ _ _ _ h
  cases x with
  | normal =>
    obtain ⟨k', x', e'', s'', h3, h4⟩ := h2
    refine ⟨max k k' + 1, x', e'', s'', ?_, h4⟩
    rw [evL, ev_le (Nat.le_max_left k k') h1]
    exact evL_le (Nat.le_max_right k k') h3
  | exit id => exact ⟨k + 1, _, e', s', by rw [evL, h1], h2⟩
  | goto id => exact ⟨k + 1, _, e', s', by rw [evL, h1], h2⟩
  | ret => exact ⟨k + 1, _, e', s', by rw [evL, h1], h2⟩
theorem W_mono : ∀ (c : Code) (Q Q' : Qn) (e : Env) (s : Sto), (∀ x e s, Q x e s → Q' x e s) → T P L c Q e s → T P L c Q' e s := fun _ _ _ _ _ hq ⟨k, x, e', s', h1, h2⟩ => ⟨k, x, e', s', h1, hq _ _ _ h2⟩
/-- A loop, by an invariant and what is left to do. -/
theorem TL_loop {b : Code} {Q : Qn} (I : Nat → Env → Sto → Prop) (round : ∀ n e s, I n e s → W P L b (fun x e s => match x with
    | .normal => ∃ m, m < n ∧ I m e s
    | x => Q x e s) e s) : ∀ (n : Nat) (e : Env) (s : Sto), I n e s → TL P L b Q e s := by
  intro n
  induction n using Nat.strongRecOn with
  | _ n ih =>
    intro e s h
    obtain ⟨k, x, e', s', h1, h2⟩ := W_sound _ _ _ _ (round n e s h)
    cases x with
    | normal =>
      obtain ⟨m, hm, hI⟩ := h2
      obtain ⟨k', x', e'', s'', h3, h4⟩ := ih m hm e' s' hI
      refine ⟨max k k' + 1, x', e'', s'', ?_, h4⟩
      rw [evL, ev_le (Nat.le_max_left k k') h1]
      exact evL_le (Nat.le_max_right k k') h3
    | exit id => exact ⟨k + 1, _, e', s', by rw [evL, h1], h2⟩
    | goto id => exact ⟨k + 1, _, e', s', by rw [evL, h1], h2⟩
    | ret => exact ⟨k + 1, _, e', s', by rw [evL, h1], h2⟩
theorem TS_step {b c : Code} {Q : Qn} {e : Env} {s : Sto} (h : W P L c (fun x e s => match x with
    | .goto l => match findLabel b l with
      | some rest => TS P L b rest Q e s
      | none => Q (.goto l) e s
    | x => Q x e s) e s) : TS P L b c Q e s := by
  obtain ⟨k, x, e', s', h1, h2⟩ := W_sound _ _ _ _ h
  cases x with
  | goto l =>
    simp only at h2
    cases hl : findLabel b l with
    | some rest =>
      rw [hl] at h2
      obtain ⟨k', x', e'', s'', h3, h4⟩ := h2
      refine ⟨max k k' + 1, x', e'', s'', ?_, h4⟩
      rw [evS, ev_le (Nat.le_max_left k k') h1]
      simp only [hl]
      exact evS_le (Nat.le_max_right k k') h3
    | none =>
      rw [hl] at h2
      exact ⟨k + 1, _, e', s', by rw [evS, h1]; simp only [hl], h2⟩
  | normal => exact ⟨k + 1, _, e', s', by rw [evS, h1], h2⟩
  | exit id => exact ⟨k + 1, _, e', s', by rw [evS, h1], h2⟩
  | ret => exact ⟨k + 1, _, e', s', by rw [evS, h1], h2⟩
/-- Along a goto, by an invariant and what is left to do. -/
theorem TS_loop {b c : Code} {Q : Qn} (I : Nat → Env → Sto → Prop) (round : ∀ n e s, I n e s → W P L c (fun x e s => match x with
    | .goto l => match findLabel b l with
      | some rest => (rest = c ∧ ∃ m, m < n ∧ I m e s) ∨ TS P L b rest Q e s
      | none => Q (.goto l) e s
    | x => Q x e s) e s) : ∀ (n : Nat) (e : Env) (s : Sto), I n e s → TS P L b c Q e s := by
  intro n
  induction n using Nat.strongRecOn with
  | _ n ih =>
    intro e s h
    obtain ⟨k, x, e', s', h1, h2⟩ := W_sound _ _ _ _ (round n e s h)
    cases x with
    | goto l =>
      simp only at h2
      cases hl : findLabel b l with
      | some rest =>
        rw [hl] at h2
        have h2' : TS P L b rest Q e' s' := by
          rcases h2 with ⟨rfl, m, hm, hI⟩ | h2
          · exact ih m hm e' s' hI
          · exact h2
        obtain ⟨k', x', e'', s'', h3, h4⟩ := h2'
        refine ⟨max k k' + 1, x', e'', s'', ?_, h4⟩
        rw [evS, ev_le (Nat.le_max_left k k') h1]
        simp only [hl]
        exact evS_le (Nat.le_max_right k k') h3
      | none =>
        rw [hl] at h2
        exact ⟨k + 1, _, e', s', by rw [evS, h1]; simp only [hl], h2⟩
    | normal => exact ⟨k + 1, _, e', s', by rw [evS, h1], h2⟩
    | exit id => exact ⟨k + 1, _, e', s', by rw [evS, h1], h2⟩
    | ret => exact ⟨k + 1, _, e', s', by rw [evS, h1], h2⟩
end
end Go.Pv
