import Derived.Test.YtccjfglhoghbpaaPvT
namespace Go.Pv
open Go Go.RowKit
mutual
theorem clean_norm : ∀ p : PV, p.norm.clean = p.clean
  | .any => rfl
  | .lit _ => rfl
  | .ptr _ _ => rfl
  | .rptr cs => cleanL_norm cs
  | .slice es _ => cleanL_norm es
  | .oslice _ _ _ _ _ => rfl
  | .agg cs => cleanL_norm cs
  | .tup cs => cleanL_norm cs
  | .fn _ a b => by simp only [PV.norm, PV.clean, cleanL_norm a, cleanL_norm b]
  | .map _ => rfl
theorem cleanL_norm : ∀ l : List PV, cleanL (normL l) = cleanL l
  | [] => rfl
  | p :: ps => by simp only [normL, cleanL, clean_norm p, cleanL_norm ps]
end
/-! ### Rows that grow by append -/
section
variable {P : Program} {t : TypeId} {s : Sto} {g : Grow} {base k : Nat}
def App (s : Sto) (base : Nat) (g : Grow) (k : Nat) : Prop := base ≤ s.next ∧ (g = .full ∨ ∃ id, g = .tok id ∧ base ≤ id ∧ id < s.next ∧ s.get id = some (.grow k))
def dropG (s : Sto) : Grow → Sto
  | .tok id => s.set id none
  | _ => s
theorem dropG_next : (dropG s g).next = s.next := by cases g <;> rfl
theorem dropG_own : (dropG s g).own = s.own := by cases g <;> rfl
theorem App.get (h : App s base g k) {j : Nat} (hj : j < base) : (dropG s g).get j = s.get j := by
  obtain ⟨hb, rfl | ⟨id, rfl, h1, h2, h3⟩⟩ := h
  · rfl
  · simp only [dropG, Sto.set]
    rw [if_neg (by omega)]
theorem App.full (h : base ≤ s.next) : App s base .full k := ⟨h, .inl rfl⟩
theorem App.push (h : base ≤ s.next) (k : Nat) : App ((dropG s g).push (.grow k)) base (.tok s.next) k := by
  refine ⟨by simp [dropG_next]; omega, .inr ⟨s.next, rfl, h, by simp [dropG_next], ?_⟩⟩
  simp [dropG_next]
/-- What else is kept. -/
theorem App.keep (h : App s base g k) {s' : Sto} (hn : s.next ≤ s'.next) (hg : ∀ id, base ≤ id → id < s.next → s'.get id = s.get id) : App s' base g k := by
  obtain ⟨hb, rfl | ⟨id, rfl, h1, h2, h3⟩⟩ := h
  · exact ⟨by omega, .inl rfl⟩
  · exact ⟨by omega, .inr ⟨id, rfl, h1, by omega, by rw [hg id h1 h2]; exact h3⟩⟩
theorem app1 {n m : Nat} (h : apd P t = some (n, m)) {es : List PV} (hA : App s base g (es.length * n)) (x : PV) (g' : Grow) (h1 : elemsOk n es = true) (h2 : x.cells.length = n) (h3 : x.cells.all PV.solid = true) (h4 : (es.length + 1) * m ≤ 140737488355328) :
    evAppend P s #[t, t] (.slice es g) (.slice [x] g') = some (.slice (es ++ [x]) (.tok s.next), (dropG s g).push (.grow ((es.length + 1) * n))) := by
  have e1 : elemsOk n [x] = true := by simp [h2]
  have e2 : elemsSolid [x] = true := by rw [elemsSolid_cons, h3]; rfl
  obtain ⟨hb, rfl | ⟨id, rfl, k1, k2, k3⟩⟩ := hA
  · exact evAppend_full h s es x [] g' h1 e1 e2 h4
  · exact evAppend_tok h s es x [] g' k3 rfl h1 e1 e2 h4
end
attribute [simp] dropG_next dropG_own
section
variable {P : Program} {L : Lb} {e : Env} {s : Sto}
/-- What a function's body must come to. -/
def FinQ (P : Program) (rs : List ResultVar) (ts : List TypeId) (r : PV) : Qn := fun x e s => (x = .normal ∨ x = .ret) ∧ ∃ ps, resultsE P e s rs = some ps ∧ ∃ qs, frzs P s ts ps = some qs ∧ resultOf qs = r
theorem TF_ofT {g : FuncId} {fn : Func} {c : Code} {args : List PV} {r : PV} (hok : L.ok g = true) (hf : P.funcs[g]? = some fn) (hb : fn.body = some c) (h : T P L c (FinQ P fn.results.toList fn.resultTypes.toList r) (initEnv args) (sF (L.own g))) : TF P L g args r := by
  obtain ⟨k, x, e', s', h1, hx, ps, h3, qs, h4, h5⟩ := h
  refine ⟨k + 1, ?_⟩
  rw [evF, if_pos hok]
  simp only [hf, hb]
  rw [h1]
  rcases hx with rfl | rfl <;> simp only [h3, h4, Option.map_some, h5]
/-- One text behind the other, cut in between. -/
theorem T_cut {a b : Code} {Q : Qn} (Q1 : Qn) (h1 : T P L a Q1 e s) (h2 : ∀ x e s, Q1 x e s → match x with
    | .normal => T P L b Q e s
    | x => Q x e s) : T P L (.seq a b) Q e s := T_seqT (T_mono h1 h2)
theorem T_cutN {a b : Code} {Q : Qn} (Q1 : Env → Sto → Prop) (h1 : T P L a (fun x e s => x = .normal ∧ Q1 e s) e s) (h2 : ∀ e s, Q1 e s → T P L b Q e s) : T P L (.seq a b) Q e s :=
  T_cut _ h1 (by rintro x e s ⟨rfl, h⟩; exact h2 e s h)
theorem T_cutW {a b : Code} {Q : Qn} (Q1 : Env → Sto → Prop) (h1 : W P L a (fun x e s => x = .normal ∧ Q1 e s) e s) (h2 : ∀ e s, Q1 e s → T P L b Q e s) : T P L (.seq a b) Q e s :=
  T_cutN Q1 (T_W h1) h2
/-- What simp leaves alone. -/
def Kn (I : Nat → Env → Sto → Prop) (_ : Fix I) (n : Nat) (e : Env) (s : Sto) : Prop := I n e s
def Kp (I : Env → Sto → Prop) (_ : Fix I) (e : Env) (s : Sto) : Prop := I e s
theorem Kn.mk {I : Nat → Env → Sto → Prop} {f : Fix I} {n : Nat} (h : I n e s) : Kn I f n e s := h
theorem Kp.mk {I : Env → Sto → Prop} {f : Fix I} (h : I e s) : Kp I f e s := h
/-- A loop, by an invariant that is left alone. -/
theorem TL_inv {b : Code} {Q : Qn} (I : Nat → Env → Sto → Prop) (n : Nat) (start : I n e s) (round : ∀ n e s, I n e s → W P L b (Hide (fun x e s => match x with
    | .normal => ∃ m, m < n ∧ Kn I ⟨⟩ m e s
    | x => Q x e s) ⟨⟩) e s) : TL P L b Q e s := TL_loop I round n e s start
theorem T_cutK {a b : Code} {Q : Qn} (Q1 : Env → Sto → Prop) (h1 : W P L a (Hide (fun x e s => x = .normal ∧ Kp Q1 ⟨⟩ e s) ⟨⟩) e s) (h2 : ∀ e s, Q1 e s → T P L b Q e s) : T P L (.seq a b) Q e s :=
  T_cutN Q1 (T_W h1) h2
end
end Go.Pv
