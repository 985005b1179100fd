import Derived.Test.YtccjfglhoghbpaaPvOp5
namespace Go.Pv
open Go Go.RowKit

/-! ### One operation -/
/-- A slice cut: rows of one's own, and other things. -/
def evSliceX (P : Program) (t : TypeId) (q : PV) (lo hi mx : Option PV) : Option PV := match q with
  | .oslice id off n c z => evSliceO P t (.oslice id off n c z) lo hi mx
  | q => evSlice P t q lo hi mx
def isO : PV → Bool
  | .oslice _ _ _ _ _ => true
  | _ => false
def isE : PV → Bool
  | .slice [] .full => true
  | _ => false
def evBuiltinX (P : Program) (e : Env) (s : Sto) (ty : TypeId) (b : Builtin) (argTypes : Array TypeId) (args : Array Operand) : Option (PV × Sto) :=
  match b, args.toList with
  | .append, [x, y] => if isO (evO e x) = true then (if s.own = true then (match argTypes.toList with
      | [t, t'] => evAppendO P s t t' (evO e x) (evO e y)
      | _ => none) else none) else if (s.own && isE (evO e x)) = true then (match argTypes.toList with
      | [t, t'] => evAppendN P s t t' (evO e x) (evO e y)
      | _ => none) else evBuiltin P e s ty b argTypes args
  | .copy, [x, y] => match argTypes[0]? with
    | some t => evCopy P s t (evO e x) (evO e y)
    | none => none
  | .cap, [x] => match evO e x with
    | .oslice _ _ _ (some c) _ => match argTypes[0]? with
      | some t => match P.underlying t with
        | some (.slice _) => some (.lit (.int .i64 c), s)
        | _ => none
      | none => none
    | _ => none
  | _, _ => evBuiltin P e s ty b argTypes args

def evPrim (P : Program) (e : Env) (s : Sto) (o : Oper) : Option (PV × Sto) :=
  match o.op with
  | .move x => some (evO e x, s)
  | .assign x => some (evO e x, s)
  | .pick c a b => match evO e c with
    | .lit (.bool t) => some (if t = true then evO e a else evO e b, s)
    | _ => none
  | .alloc el => evAlloc P s el
  | .box _ x => evBox s (evO e x)
  | .build t parts => (evBuild P e t parts).map fun p => (p, s)
  | .buildSlice t len parts => (evBuildSlice P e t len parts).map fun p => (p, s)
  | .load t a => (evLoad P s t (evO e a)).map fun p => (p, s)
  | .store t a x => (evStore P s t (evO e a) (evO e x)).map fun s' => (.any, s')
  | .binOp op t x y _ => match evBin P op t x y (evO e x) (evO e y) with
    | some p => some (p, s)
    | none => match op with
      | .eql => (evNil P t y (evO e x)).map fun b => (.lit (.bool b), s)
      | .neq => (evNil P t y (evO e x)).map fun b => (.lit (.bool !b), s)
      | _ => none
  | .unOp op _ x => (evUn P op (evO e x)).map fun p => (p, s)
  | .convert src dst x => (evConv P s src dst (evO e x)).map fun p => (p, s)
  | .makeFunc f a b => some (.fn f (a.toList.map (evO e)) (b.toList.map (evO e)), s)
  | .slice t x lo hi mx => (evSliceX P t (evO e x) (lo.map (evO e)) (hi.map (evO e)) (mx.map (evO e))).map fun p => (p, s)
  | .fieldAddr t x f => (evFieldAddr P t (evO e x) f).map fun p => (p, s)
  | .field t x f => (evField P t (evO e x) f).map fun p => (p, s)
  | .indexAddr t x i => (evIndexAddr P t (evO e x) (evO e i)).map fun p => (p, s)
  | .index t x i => (evIndex P t (evO e x) (evO e i)).map fun p => (p, s)
  | .extract t ix => match evO e t with
    | .tup cs => (cs[ix]?).map fun p => (p, s)
    | _ => none
  | .nilCheck x => match evO e x with
    | .ptr id off => some (.ptr id off, s)
    | .rptr cs => some (.rptr cs, s)
    | _ => none
  | .call c => match c.callee with
    | .builtin b => evBuiltinX P e s o.type b c.argTypes c.args
    | _ => none
  | _ => none

section
variable {w0 : Base} {κ : Kr} {s : Sto} {w : World} {P : Program} {p : PV}

theorem readsA_map {a : Act} {e : Env} (hE : EnvR κ a e) (l : Array Operand) : ReadsA κ (l.map a.eval) (l.toList.map (evO e)) := by
  refine ⟨by simp, fun j v p hv hp => ?_⟩
  rw [Array.getElem?_map, Option.map_eq_some_iff] at hv
  rw [List.getElem?_map, Option.map_eq_some_iff] at hp
  obtain ⟨x, hx, rfl⟩ := hv
  obtain ⟨y, hy, rfl⟩ := hp
  rw [Array.getElem?_toList, hx] at hy
  simp only [Option.some.injEq] at hy
  subst hy
  exact hE.eval x

theorem evBuiltinX_sound (h : Rep w0 κ s w) {a : Act} {e : Env} (hE : EnvR κ a e) {ty : TypeId} {b : Builtin} {argTypes : Array TypeId} {args : Array Operand} {s' : Sto} (he : evBuiltinX P e s ty b argTypes args = some (p, s')) (consts : Array Bool) :
    Does w0 κ P (Go.builtin b argTypes ty consts (args.map a.eval)) w p s' := by
  have hargs : args.map a.eval = (args.toList.map a.eval).toArray := Array.ext' (by simp)
  unfold evBuiltinX at he
  split at he
  · rename_i x y hl
    split at he
    · split at he
      case isFalse => simp at he
      split at he
      · rename_i t t' ht
        obtain ⟨v, w', κ', h1, h2, h3, h4⟩ := evAppendO_sound (ty := ty) h (hE.eval x) (hE.eval y) he
        have ht' : argTypes = #[t, t'] := Array.ext' (by simpa using ht)
        refine ⟨v, w', κ', h1, h3, h4, .inl ?_⟩
        rw [hargs, hl, ht']
        simp [Go.builtin, h2]
      · simp at he
    · split at he
      · split at he
        · rename_i t t' ht
          obtain ⟨v, w', κ', h1, h2, h3, h4⟩ := evAppendN_sound (ty := ty) h (hE.eval x) (hE.eval y) he
          have ht' : argTypes = #[t, t'] := Array.ext' (by simpa using ht)
          refine ⟨v, w', κ', h1, h3, h4, .inl ?_⟩
          rw [hargs, hl, ht']
          simp [Go.builtin, h2]
        · simp at he
      · exact evBuiltin_sound h hE he consts
  · rename_i x y hl
    split at he
    · rename_i t ht
      obtain ⟨v, w', h1, h2, h3⟩ := evCopy_sound (P := P) (ty := ty) h ht (hE.eval x) (hE.eval y) he
      refine ⟨v, w', κ, Kr.le_refl κ, h2, h3, .inl ?_⟩
      rw [hargs, hl]
      simp [Go.builtin, h1]
    · simp at he
  · rename_i x hl
    split at he
    · rename_i id off n c z hx
      split at he
      · rename_i t ht
        split at he
        · rename_i el hd
          simp only [Option.some.injEq, Prod.mk.injEq] at he
          obtain ⟨rfl, rfl⟩ := he
          have h1 := hE.eval x
          rw [hx] at h1
          obtain ⟨f, cap, hf, h2, hn, hc, _⟩ := oslice_inv h1
          have hcap := hc c rfl
          subst hcap
          refine Does.here h (.lit _) ?_
          rw [hargs, hl]
          simp [Go.builtin, Builtin.cap_, h2, ht, run_underlying hd, goInt]
        · simp at he
      · simp at he
    · simp at he
  · exact evBuiltin_sound h hE he consts

theorem evSliceX_sound {a : Act} {e : Env} (hE : EnvR κ a e) {t : TypeId} {v : Value} {q : PV} (hv : Reads κ v q) {lo hi mx : Option Operand} (he : evSliceX P t q (lo.map (evO e)) (hi.map (evO e)) (mx.map (evO e)) = some p) (w : World) :
    ∃ u, (Instr.sliceAt t v (lo.map a.eval) (hi.map a.eval) (mx.map a.eval)).run P w = .ok u w ∧ Reads κ u p := by
  unfold evSliceX at he
  split at he
  · exact evSliceO_sound hE hv he w
  · exact evSlice_sound hE hv he w

theorem evPrim_sound (h : Rep w0 κ s w) {a : Act} {e : Env} (hE : EnvR κ a e) {o : Oper} {s' : Sto} (he : evPrim P e s o = some (p, s')) : Does w0 κ P (execOp a.eval o) w p s' := by
  obtain ⟨dst, op, ty, pos, aft, grd⟩ := o
  unfold evPrim at he
  simp only at he
  split at he
  · rename_i x
    simp only [Option.some.injEq, Prod.mk.injEq] at he
    obtain ⟨rfl, rfl⟩ := he
    exact Does.here h (hE.eval x) rfl
  · rename_i x
    simp only [Option.some.injEq, Prod.mk.injEq] at he
    obtain ⟨rfl, rfl⟩ := he
    exact Does.here h (hE.eval x) rfl
  · rename_i c x y
    split at he
    · rename_i t hc
      simp only [Option.some.injEq, Prod.mk.injEq] at he
      obtain ⟨rfl, rfl⟩ := he
      have h1 := hE.eval c
      rw [hc] at h1
      have h2 := lit_inv h1
      refine Does.here h (v := if t = true then a.eval x else a.eval y) ?_ ?_
      · cases t
        · exact hE.eval y
        · exact hE.eval x
      · simp [execOp, h2, asBool]
    · simp at he
  · rename_i el
    unfold evAlloc at he
    split at he
    · rename_i i hi
      split at he
      · rename_i z hz
        obtain ⟨κ', h1, h2, h3⟩ := box_sound h (reads_ofValue κ z) he el
        refine ⟨_, _, κ', h1, h2, h3, .inl ?_⟩
        simp [execOp, Instr.alloc, run_zeroValue hi hz, run_newVar]
      · simp at he
    · simp at he
  · rename_i el x
    obtain ⟨κ', h1, h2, h3⟩ := box_sound h (hE.eval x) he el
    refine ⟨_, _, κ', h1, h2, h3, .inl ?_⟩
    simp [execOp, Instr.box, run_newVar]
  · rename_i t parts
    simp only [Option.map_eq_some_iff, Prod.mk.injEq] at he
    obtain ⟨q, h1, rfl, rfl⟩ := he
    obtain ⟨u, h2, h3⟩ := evBuild_sound hE h1 w
    exact Does.here h h3 (by simp only [execOp, Sem.run_bind, h2]; rfl)
  · rename_i t len parts
    simp only [Option.map_eq_some_iff, Prod.mk.injEq] at he
    obtain ⟨q, h1, rfl, rfl⟩ := he
    obtain ⟨u, w', κ', h2, h3, h4, h5⟩ := evBuildSlice_sound h hE h1
    exact ⟨u, w', κ', h2, h4, h5, .inl (by simp only [execOp, Sem.run_bind, h3]; rfl)⟩
  · rename_i t x
    simp only [Option.map_eq_some_iff, Prod.mk.injEq] at he
    obtain ⟨q, h1, rfl, rfl⟩ := he
    obtain ⟨u, h2, h3⟩ := evLoad_sound h (hE.eval x) h1
    exact Does.here h h3 (by simp only [execOp, Sem.run_bind, h2]; rfl)
  · rename_i t x y
    simp only [Option.map_eq_some_iff, Prod.mk.injEq] at he
    obtain ⟨q, h1, rfl, rfl⟩ := he
    obtain ⟨w', h2, h3⟩ := evStore_sound h (hE.eval x) (hE.eval y) h1
    exact ⟨undef, w', κ, Kr.le_refl κ, .any _, h3, .inr ⟨by simp only [execOp, Sem.run_bind, h2]; rfl, rfl⟩⟩
  · rename_i op t x y yt
    split at he
    · rename_i q hq
      simp only [Option.some.injEq, Prod.mk.injEq] at he
      obtain ⟨rfl, rfl⟩ := he
      obtain ⟨r, h1, h2⟩ := evBin_sound (x := x) (y := y) (hE.eval x) (hE.eval y) hq w
      exact Does.here h h2 (by simp only [execOp]; rw [Sem.run_bind, h1]; rfl)
    · have hy : ∀ k, y = .const k → a.eval y = k := fun k hk => by subst hk; rfl
      split at he
      · simp only [Option.map_eq_some_iff, Prod.mk.injEq] at he
        obtain ⟨b, h1, rfl, rfl⟩ := he
        have := (evNil_sound (x := x) (hE.eval x) hy h1 w).1
        exact Does.here h (.lit _) (by simp only [execOp]; rw [Sem.run_bind, this]; rfl)
      · simp only [Option.map_eq_some_iff, Prod.mk.injEq] at he
        obtain ⟨b, h1, rfl, rfl⟩ := he
        have := (evNil_sound (x := x) (hE.eval x) hy h1 w).2
        exact Does.here h (.lit _) (by simp only [execOp]; rw [Sem.run_bind, this]; rfl)
      · simp at he
  · rename_i op t x
    simp only [Option.map_eq_some_iff, Prod.mk.injEq] at he
    obtain ⟨q, h1, rfl, rfl⟩ := he
    obtain ⟨u, h2, h3⟩ := evUn_sound (hE.eval x) h1 w
    exact Does.here h h3 (by simp only [execOp, Sem.run_bind, h2]; rfl)
  · rename_i src dst' x
    simp only [Option.map_eq_some_iff, Prod.mk.injEq] at he
    obtain ⟨q, h1, rfl, rfl⟩ := he
    obtain ⟨u, h2, h3⟩ := evConv_sound h (hE.eval x) h1
    exact Does.here h h3 (by simp only [execOp, Sem.run_bind, h2]; rfl)
  · rename_i f x y
    simp only [Option.some.injEq, Prod.mk.injEq] at he
    obtain ⟨rfl, rfl⟩ := he
    have h1 := readsA_map hE x
    have h2 := readsA_map hE y
    exact Does.here h (.fn f _ _ _ _ h1.1 h2.1 h1.2 h2.2) rfl
  · rename_i t x lo hi mx
    simp only [Option.map_eq_some_iff, Prod.mk.injEq] at he
    obtain ⟨q, h1, rfl, rfl⟩ := he
    obtain ⟨u, h2, h3⟩ := evSliceX_sound hE (hE.eval x) h1 w
    exact Does.here h h3 (by simp only [execOp, Sem.run_bind, h2]; rfl)
  · rename_i t x f
    simp only [Option.map_eq_some_iff, Prod.mk.injEq] at he
    obtain ⟨q, h1, rfl, rfl⟩ := he
    obtain ⟨u, h2, h3⟩ := evFieldAddr_sound (hE.eval x) h1 w
    exact Does.here h h3 (by simp only [execOp, Sem.run_bind, h2]; rfl)
  · rename_i t x f
    simp only [Option.map_eq_some_iff, Prod.mk.injEq] at he
    obtain ⟨q, h1, rfl, rfl⟩ := he
    obtain ⟨u, h2, h3⟩ := evField_sound (hE.eval x) h1 w
    exact Does.here h h3 (by simp only [execOp, Sem.run_bind, h2]; rfl)
  · rename_i t x i
    simp only [Option.map_eq_some_iff, Prod.mk.injEq] at he
    obtain ⟨q, h1, rfl, rfl⟩ := he
    obtain ⟨u, h2, h3⟩ := evIndexAddr_sound (hE.eval x) (hE.eval i) h1 w
    exact Does.here h h3 (by simp only [execOp, Sem.run_bind, h2]; rfl)
  · rename_i t x i
    simp only [Option.map_eq_some_iff, Prod.mk.injEq] at he
    obtain ⟨q, h1, rfl, rfl⟩ := he
    obtain ⟨u, h2, h3⟩ := evIndex_sound (hE.eval x) (hE.eval i) h1 w
    exact Does.here h h3 (by simp only [execOp, Sem.run_bind, h2]; rfl)
  · rename_i t ix
    split at he
    · rename_i cs ht
      simp only [Option.map_eq_some_iff, Prod.mk.injEq] at he
      obtain ⟨q, h1, rfl, rfl⟩ := he
      have h2 := hE.eval t
      rw [ht] at h2
      obtain ⟨us, h3, h4⟩ := tup_inv h2
      have hlt : ix < us.size := by
        rw [h4.1]
        rcases Nat.lt_or_ge ix cs.length with h5 | h5
        · exact h5
        · rw [List.getElem?_eq_none h5] at h1; simp at h1
      have h6 : us[ix]? = some us[ix] := by simp [hlt]
      exact Does.here h (h4.2 ix _ q h6 h1) (by simp [execOp, Instr.extract, h3, h6])
    · simp at he
  · rename_i x
    split at he
    · rename_i id off hx
      simp only [Option.some.injEq, Prod.mk.injEq] at he
      obtain ⟨rfl, rfl⟩ := he
      have h1 := hE.eval x
      rw [hx] at h1
      obtain ⟨i, _, h2⟩ := ptr_inv h1
      refine Does.here h h1 ?_
      simp [execOp, h2]
    · rename_i cs hx
      simp only [Option.some.injEq, Prod.mk.injEq] at he
      obtain ⟨rfl, rfl⟩ := he
      have h1 := hE.eval x
      rw [hx] at h1
      obtain ⟨ad, u, h2, _⟩ := rptr_inv h1
      refine Does.here h h1 ?_
      simp [execOp, h2]
    · simp at he
  · rename_i c
    split at he
    · rename_i b hb
      have := evBuiltinX_sound h hE he (constsOf c.args)
      obtain ⟨v, w', κ', h1, h2, h3, h4⟩ := this
      refine ⟨v, w', κ', h1, h2, h3, ?_⟩
      obtain ⟨callee, args, argTypes⟩ := c
      simp only at hb
      subst hb
      have hex : execOp a.eval ⟨dst, .call ⟨.builtin b, args, argTypes⟩, ty, pos, aft, grd⟩ = Go.builtin b argTypes ty (constsOf args) (args.map a.eval) := rfl
      rw [hex]
      exact h4
    · simp at he
  · simp at he
end

/-! ### Calls, regions -/
abbrev CF := FuncId → List PV → Sto → Option (PV × Sto)
def staticF : Operand → Bool
  | .func _ => true
  | _ => false
def evOp (P : Program) (wr : FuncId → Bool) (cf : CF) (e : Env) (s : Sto) (o : Oper) : Option (PV × Sto) :=
  match o.op with
  | .call c => match c.callee with
    | .value f => match evO e f with
      | .fn (.func g) a b => if (staticF f || !wr g) = true then cf g (a ++ c.args.toList.map (evO e) ++ b) s else none
      | _ => none
    | _ => evPrim P e s o
  | _ => evPrim P e s o

def putE (e : Env) (dst : Option Tmp) (p : PV) : Env := match dst with
  | some d => upd e d p
  | none => e
/-- What a passed-over operation leaves. -/
def skipP : PV := .lit (.tuple #[])
def wantedP (ops : Array Oper) (e : Env) (o : Oper) : Option Bool :=
  match o.guard with
  | none => some true
  | some (j, want) => match (ops[j]?).bind (·.dst) with
    | some d => match e d with
      | .lit (.bool b) => some (b == want)
      | .lit (.tuple us) => if us.size = 0 then some false else none
      | _ => none
    | none => none
def evOps (P : Program) (wr : FuncId → Bool) (cf : CF) (ops : Array Oper) : List Oper → Env → Sto → Option (Env × Sto)
  | [], e, s => some (e, s)
  | o :: os, e, s => match wantedP ops e o with
    | some true => match evOp P wr cf e s o with
      | some (p, s') => evOps P wr cf ops os (putE e o.dst p) s'
      | none => none
    | some false => evOps P wr cf ops os (putE e o.dst skipP) s
    | none => none

/-- A call by contract. -/
def CFok (P : Program) (cf : CF) : Prop := ∀ (w0 : Base) (κ : Kr) (s : Sto) (w : World) (g : FuncId) (args : List PV) (r : PV) (s' : Sto) (vs : Array Value), cf g args s = some (r, s') → Rep w0 κ s w → ReadsA κ vs args →
  ((∃ fn c, P.funcs[g]? = some fn ∧ fn.body = some c ∧ fn.name ≠ "runtime.NumGoroutine") ∧
  Calls P g vs w fun en w' => ∃ v κ', en = .returned v ∧ κ.le κ' ∧ Reads κ' v r ∧ Rep w0 κ' s' w') ∨
  (∃ v κ' w', (callFunc g vs).run P w = .ok (.value v) w' ∧ κ.le κ' ∧ Reads κ' v r ∧ Rep w0 κ' s' w')

structure RepF (w0 : Base) (nt : Nat) (κ : Kr) (e : Env) (s : Sto) (a : Act) (w : World) : Prop where
  env : EnvR κ a e
  rep : Rep w0 κ s w
  size : nt ≤ a.tmps.size
  defers : a.defers = []

section
variable {w0 : Base} {κ : Kr} {s : Sto} {w : World} {P : Program} {p : PV} {wr : FuncId → Bool} {cf : CF} {nt : Nat}

theorem RepF.put {e : Env} {a : Act} (h : RepF w0 nt κ e s a w) {κ' : Kr} (hk : κ.le κ') {s' : Sto} {w' : World} (hr : Rep w0 κ' s' w') {dst : Option Tmp} (hd : ∀ d, dst = some d → d < nt) {v : Value} (hv : Reads κ' v p) : RepF w0 nt κ' (putE e dst p) s' (a.put dst v) w' := by
  cases dst with
  | none => exact ⟨h.env.mono hk, hr, h.size, h.defers⟩
  | some d =>
    refine ⟨(h.env.mono hk).put hv (Nat.lt_of_lt_of_le (hd d rfl) h.size), hr, ?_, h.defers⟩
    have := h.size
    simpa [Act.put] using this

theorem run_callFunc {g : FuncId} {fn : Func} {c : Code} (h1 : P.funcs[g]? = some fn) (h2 : fn.body = some c) (h3 : fn.name ≠ "runtime.NumGoroutine") (args : Array Value) (w : World) : (callFunc g args).run P w = .ok (.enter g args) w := by
  simp [callFunc, program, Sem.run, h1, h2, h3]

theorem evOp_sound (hcf : CFok P cf) {e : Env} {a : Act} (h : RepF w0 nt κ e s a w) {o : Oper} (hd : ∀ d, o.dst = some d → d < nt) {s' : Sto} (he : evOp P wr cf e s o = some (p, s')) {K : Act → World → Prop} {Q : Exit → Act → World → Prop}
    (hK : ∀ κ' a' w', κ.le κ' → RepF w0 nt κ' (putE e o.dst p) s' a' w' → K a' w') : o.wp P a w K Q := by
  have prim : evPrim P e s o = some (p, s') → o.wp P a w K Q := by
    intro hp
    obtain ⟨v, w', κ', h1, h2, h3, h4⟩ := evPrim_sound h.rep h.env hp
    unfold Oper.wp
    rcases h4 with h4 | ⟨h4, rfl⟩
    · rw [h4]
      exact hK κ' _ _ h1 (h.put h1 h3 hd h2)
    · rw [h4]
      exact hK κ' _ _ h1 (h.put h1 h3 hd h2)
  unfold evOp at he
  split at he
  · rename_i c hc
    split at he
    · rename_i f hf
      split at he
      · rename_i g x y hfn
        split at he
        case isFalse => simp at he
        have h1 := h.env.eval f
        rw [hfn] at h1
        obtain ⟨us, vs, h2, h3, h4⟩ := fn_inv h1
        have hargs : ReadsA κ (us ++ c.args.map a.eval ++ vs) (x ++ c.args.toList.map (evO e) ++ y) := by
          have h5 := readsA_map h.env c.args
          have app : ∀ {us vs : Array Value} {x y : List PV}, ReadsA κ us x → ReadsA κ vs y → ReadsA κ (us ++ vs) (x ++ y) := by
            intro us vs x y hx hy
            refine ⟨by simp [hx.1, hy.1], fun j v p hv hp => ?_⟩
            by_cases hj : j < us.size
            · rw [Array.getElem?_append_left hj] at hv
              rw [List.getElem?_append_left (by rw [← hx.1]; exact hj)] at hp
              exact hx.2 j v p hv hp
            · rw [Array.getElem?_append_right (by omega)] at hv
              rw [List.getElem?_append_right (by rw [← hx.1]; omega), ← hx.1] at hp
              exact hy.2 _ v p hv hp
          exact app (app h3 h5) h4
        have hx : execOp a.eval o = (do let d ← resolve a.eval c o.type; invoke d.target d.args) := by
          unfold execOp
          rw [hc]
        rcases hcf w0 κ s w g _ p s' _ he h.rep hargs with ⟨⟨fn, cd, g1, g2, g3⟩, hcalls⟩ | ⟨v, κ', w', hv, e2, e3, e4⟩
        case inr =>
          have hrun : (execOp a.eval o).run P w = .ok (.value v) w' := by
            rw [hx]
            rw [Array.append_assoc] at hv
            simp [resolve, hf, h2, Deferred.ofValue, invoke, hv]
          unfold Oper.wp
          rw [hrun]
          exact hK κ' _ _ e2 (h.put e2 e4 hd e3)
        have hrun : (execOp a.eval o).run P w = .ok (.enter g (us ++ c.args.map a.eval ++ vs)) w := by
          have : execOp a.eval o = (do let d ← resolve a.eval c o.type; invoke d.target d.args) := by
            unfold execOp
            rw [hc]
          rw [this]
          simp [resolve, hf, h2, Deferred.ofValue, invoke, run_callFunc g1 g2 g3]
        unfold Oper.wp
        rw [hrun]
        refine hcalls.mono fun en w' ⟨v, κ', e1, e2, e3, e4⟩ => ?_
        subst e1
        exact hK κ' _ _ e2 (h.put e2 e4 hd e3)
      · simp at he
    · exact prim he
  · exact prim he

theorem wanted_sound {ops : Array Oper} {e : Env} {a : Act} (h : EnvR κ a e) {o : Oper} {b : Bool} (hw : wantedP ops e o = some b) : Region.wanted o (yielded ops a.tmps) = b := by
  unfold wantedP at hw
  unfold Region.wanted
  split at hw
  · rename_i hg
    rw [hg]
    simpa using hw
  · rename_i j want hg
    rw [hg]
    simp only
    split at hw
    · rename_i d hd
      split at hw
      · rename_i t ht
        simp only [Option.some.injEq] at hw
        subst hw
        have h1 := h d
        rw [ht] at h1
        have h2 := lit_inv h1
        have h3 : a.tmps[d]? = some (.bool t) := by
          rw [Array.getD_eq_getD_getElem?] at h2
          cases h4 : a.tmps[d]? with
          | none => rw [h4] at h2; simp [undef] at h2
          | some u => rw [h4] at h2; simpa using h2
        unfold yielded
        rw [hd]
        simp only [Option.bind_some, h3]
        cases t <;> cases want <;> rfl
      · rename_i us ht
        split at hw
        case isFalse => simp at hw
        simp only [Option.some.injEq] at hw
        subst hw
        have h1 := h d
        rw [ht] at h1
        have h2 := lit_inv h1
        unfold yielded
        rw [hd]
        simp only [Option.bind_some]
        rw [Array.getD_eq_getD_getElem?] at h2
        cases h4 : a.tmps[d]? with
        | none => rfl
        | some u => rw [h4] at h2; simp only [Option.getD_some] at h2; subst h2; rfl
      · simp at hw
    · simp at hw

/-- Operations in the order of the text. -/
theorem evOps_sound (hcf : CFok P cf) (ops : Array Oper) (Q : Exit → Act → World → Prop) : ∀ (l : List Nat) (os : List Oper) (κ : Kr) (e : Env) (s : Sto) (a : Act) (w : World), l.map (ops[·]?) = os.map some → (∀ o, o ∈ os → ∀ d, o.dst = some d → d < nt) → RepF w0 nt κ e s a w → ∀ e' s', evOps P wr cf ops os e s = some (e', s') →
    (∀ κ' a' w', κ.le κ' → RepF w0 nt κ' e' s' a' w' → Q .normal a' w') → wpOps P ops Q l a w
  | [], os, κ, e, s, a, w, hl, hd, h, e', s', he, hQ => by
    have : os = [] := by cases os <;> simp_all
    subst this
    simp only [evOps, Option.some.injEq, Prod.mk.injEq] at he
    obtain ⟨rfl, rfl⟩ := he
    exact hQ κ a w (Kr.le_refl κ) h
  | i :: l, os, κ, e, s, a, w, hl, hd, h, e', s', he, hQ => by
    cases os with
    | nil => simp at hl
    | cons o os =>
      simp only [List.map_cons, List.cons.injEq] at hl
      obtain ⟨ho, hl⟩ := hl
      rw [wpOps_cons]
      unfold wpOp
      rw [ho]
      simp only
      simp only [evOps] at he
      split at he
      · rename_i hw
        rw [wanted_sound h.env hw]
        simp only [if_true]
        split at he
        · rename_i p s1 hop
          refine .inl (evOp_sound hcf h (hd o (by simp)) hop (fun κ' a' w' hk h' => ?_))
          exact evOps_sound hcf ops Q l os κ' _ _ a' w' hl (fun o' ho' => hd o' (by simp [ho'])) h' e' s' he (fun κ2 a2 w2 hk2 => hQ κ2 a2 w2 (Kr.le_trans hk hk2))
        · simp at he
      · rename_i hw
        rw [wanted_sound h.env hw]
        simp only [Bool.false_eq_true, if_false]
        exact evOps_sound hcf ops Q l os κ _ _ _ w hl (fun o' ho' => hd o' (by simp [ho'])) (h.put (Kr.le_refl κ) h.rep (hd o (by simp)) (.lit undef)) e' s' he hQ
      · simp at he
end
end Go.Pv
