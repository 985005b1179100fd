import Derived.Test.YtccjfglhoghbpaaPvFrz
namespace Go.Pv
open Go Go.RowKit

/-! ### Code, functions -/
inductive AX where
  | normal
  | exit (id : Nat)
  | goto (l : Nat)
  | ret
def AX.out : AX → Exit
  | .normal => .normal
  | .exit id => .exit id
  | .goto l => .goto l
  | .ret => .ret

/-- What a program's functions are taken for: 'ok': by their text, looked over; 'intr': by a transformer of its own; 'wr': it writes the caller's store; 'inl': it is gone through in the caller's store; 'own': what it appends to an empty row is its own; 'ps': it makes new blocks alone. -/
structure Lb where
  ok : FuncId → Bool
  wr : FuncId → Bool
  intr : FuncId → Option (List PV → Sto → Option (PV × Sto))
  inl : FuncId → Bool := fun _ => false
  own : FuncId → Bool := fun _ => false
  ps : FuncId → Bool := fun _ => false

def s0 : Sto := ⟨0, fun _ => none, false⟩
def sF (b : Bool) : Sto := ⟨0, fun _ => none, b⟩
def Sto.flag (s : Sto) (b : Bool) : Sto := { s with own := b }
def initEnv (args : List PV) : Env := fun t => args.getD t .any

def isLit : PV → Bool
  | .lit _ => true
  | _ => false
def memfree1 : PV → Bool
  | .lit _ => true
  | .agg cs => cs.all isLit
  | _ => false
def memfree : PV → Bool
  | .tup cs => cs.all memfree1
  | p => memfree1 p

def resultsE (P : Program) (e : Env) (s : Sto) : List ResultVar → Option (List PV)
  | [] => some []
  | .tmp t :: rs => (resultsE P e s rs).map (e t :: ·)
  | .cell a t :: rs => match evLoad P s t (e a), resultsE P e s rs with
    | some p, some ps => some (p :: ps)
    | _, _ => none
def paramsOf (P : Program) (g : FuncId) : List TypeId := match P.funcs[g]? with
  | some fn => fn.params.toList
  | none => []
def resultOf : List PV → PV
  | [p] => p
  | ps => .tup ps

/-- A body's end, in the caller's store. -/
def finI (P : Program) (rs : List ResultVar) (own : Bool) : Option (AX × Env × Sto) → Option (PV × Sto)
  | some (.normal, e, s) => (resultsE P e s rs).map fun ps => (resultOf ps, s.flag own)
  | some (.ret, e, s) => (resultsE P e s rs).map fun ps => (resultOf ps, s.flag own)
  | _ => none
section
variable (P : Program) (L : Lb)

mutual
def ev : Nat → Code → Env → Sto → Option (AX × Env × Sto)
  | 0, _, _, _ => none
  | k + 1, c, e, s => match c with
    | .skip => some (.normal, e, s)
    | .label _ => some (.normal, e, s)
    | .region _ ops _ => (evOps P L.wr (fun g args s => evC k g args s) ops ops.toList e s).map fun (e', s') => (.normal, e', s')
    | .seq a b => match ev k a e s with
      | some (.normal, e', s') => ev k b e' s'
      | r => r
    | .cond x a b => match evO e x with
      | .lit (.bool t) => ev k (if t = true then a else b) e s
      | _ => none
    | .block id b => match ev k b e s with
      | some (.exit id', e', s') => if id' = id then some (.normal, e', s') else some (.exit id', e', s')
      | r => r
    | .loop b => evL k b e s
    | .exit id => some (.exit id, e, s)
    | .goto l => some (.goto l, e, s)
    | .ret => some (.ret, e, s)
    | .scope b => evS k b b e s
    | .rangeFunc _ _ _ _ => none
    | .refuse _ => none
def evL : Nat → Code → Env → Sto → Option (AX × Env × Sto)
  | 0, _, _, _ => none
  | k + 1, b, e, s => match ev k b e s with
    | some (.normal, e', s') => evL k b e' s'
    | r => r
def evS : Nat → Code → Code → Env → Sto → Option (AX × Env × Sto)
  | 0, _, _, _, _ => none
  | k + 1, body, cur, e, s => match ev k cur e s with
    | some (.goto l, e', s') => match findLabel body l with
      | some rest => evS k body rest e' s'
      | none => some (.goto l, e', s')
    | r => r
def evC : Nat → FuncId → List PV → Sto → Option (PV × Sto)
  | 0, _, _, _ => none
  | k + 1, g, args, s => match L.intr g with
    | some t => t args s
    | none => if L.inl g = true then (if L.ok g = true then (match P.funcs[g]? with
        | some fn => match fn.body with
          | some c => finI P fn.results.toList s.own (ev k c (initEnv args) (s.flag (L.own g)))
          | none => none
        | none => none) else none)
      else if cleanL args = true then (evF k g (normL args)).map fun r => (r, s)
      else match frzs P s (paramsOf P g) args with
        | some args' => match evF k g args' with
          | some r => if memfree r = true then some (r, s) else none
          | none => none
        | none => none
def evF : Nat → FuncId → List PV → Option PV
  | 0, _, _ => none
  | k + 1, g, args => if L.ok g = true then match P.funcs[g]? with
      | some fn => match fn.body with
        | some c => match ev k c (initEnv args) (sF (L.own g)) with
          | some (.normal, e, s) => match resultsE P e s fn.results.toList with
            | some ps => (frzs P s fn.resultTypes.toList ps).map resultOf
            | none => none
          | some (.ret, e, s) => match resultsE P e s fn.results.toList with
            | some ps => (frzs P s fn.resultTypes.toList ps).map resultOf
            | none => none
          | _ => none
        | none => none
      | none => none
    else none
end

def Lb.K (o : Bool) : Kc := ⟨L.wr, L.ps, o⟩
def codeOk (o : Bool) (nt : Nat) : Code → Bool
  | .region _ ops draw => ops.all (fun o => match o.dst with | some d => decide (d < nt) | none => true) && (!draw || commOK (L.K o) ops)
  | .seq a b => codeOk o nt a && codeOk o nt b
  | .cond _ a b => codeOk o nt a && codeOk o nt b
  | .block _ b => codeOk o nt b
  | .loop b => codeOk o nt b
  | .scope b => codeOk o nt b
  | _ => true

/-- A call by contract, no store in sight. -/
def FnOk (g : FuncId) (args : List PV) (r : PV) : Prop := ∀ (w : World) (Φ : Addr → Option Value) (vs : Array Value), (∀ a v, Φ a = some v → w.cell? a = some v) → ReadsA (kap Φ) vs args →
  (∃ fn c, P.funcs[g]? = some fn ∧ fn.body = some c ∧ fn.name ≠ "runtime.NumGoroutine") ∧
  Calls P g vs w fun en w' => ∃ v Φ', en = .returned v ∧ (∀ a v, Φ a = some v → Φ' a = some v) ∧ Reads (kap Φ') v r ∧ Below w.heap.size w w' ∧ (∀ a v, Φ' a = some v → w'.cell? a = some v) ∧ (∀ a v, Φ' a = some v → w.heap.size ≤ a.block ∨ Φ a = some v)

structure LbOk : Prop where
  mixed : P.follows .mixedOrders = true
  ok : ∀ g, L.ok g = true → ∃ fn c, P.funcs[g]? = some fn ∧ fn.body = some c ∧ fn.name ≠ "runtime.NumGoroutine" ∧ codeOk L (L.own g) fn.ntmps c = true
  intr : ∀ g t, L.intr g = some t → CFok P (fun g' args s => if g' = g then t args s else none)
  inl : ∀ g, L.inl g = true → L.wr g = true
  pure : ∀ g t args s r s', L.intr g = some t → L.wr g = false → t args s = some (r, s') → s' = s
  loc : ∀ g t args s r s1 s', L.intr g = some t → L.wr g = false → t args s = some (r, s1) → (∀ p, p ∈ args → Holds s s' p) → t args s' = some (r, s')
  keep : ∀ g t args s r s', L.intr g = some t → t args s = some (r, s') → wfS s → Keeps s s'
  push : ∀ g, L.ps g = true → ∃ t, L.intr g = some t ∧ ∀ args s r s', t args s = some (r, s') → Grows s s'
end

section
variable {P : Program} {L : Lb} {w0 : Base} {nt : Nat} {o : Bool}

theorem evC_pure (hL : LbOk P L) (k : Nat) : CFpure L.wr (fun g args s => evC P L k g args s) := by
  intro g args s r s' hw h
  cases k with
  | zero => simp [evC] at h
  | succ k =>
    simp only [evC] at h
    split at h
    · rename_i t ht
      exact hL.pure g t args s r s' ht hw h
    · rw [if_neg (by intro hi; rw [hL.inl g hi] at hw; simp at hw)] at h
      split at h
      · simp only [Option.map_eq_some_iff, Prod.mk.injEq] at h
        obtain ⟨_, _, _, h⟩ := h
        exact h.symm
      · split at h
        · split at h
          · split at h
            · simp only [Option.some.injEq, Prod.mk.injEq] at h
              exact h.2.symm
            · simp at h
          · simp at h
        · simp at h

theorem frz1_loc {s s' : Sto} {t : Option TypeId} {p q : PV} (hh : Holds s s' p) (h : frz1 P s t p = some q) : frz1 P s' t p = some q := by
  unfold frz1 at h ⊢
  split at h
  · rename_i id off
    split at h
    · rename_i cs hcs
      rw [hh id (by simp [topIds]) cs hcs]
      exact h
    · simp at h
  · rename_i id off n c z
    split at h
    · split at h
      · split at h
        · rename_i cs hcs
          have own : ∀ m, ownCells s id off m = some cs → ownCells s' id off m = some cs := by
            intro m hcs
            unfold ownCells at hcs ⊢
            split at hcs
            · rename_i bs hbs
              rw [hh id (by simp [topIds]) bs hbs]
              exact hcs
            · simp at hcs
          rw [own _ hcs]
          exact h
        · simp at h
      · simp at h
    · simp at h
  · exact h
theorem frzL_loc {s s' : Sto} : ∀ (ps : List PV) (ts : List TypeId) (qs : List PV), (∀ p, p ∈ ps → Holds s s' p) → frzL P s ts ps = some qs → frzL P s' ts ps = some qs
  | [], ts, qs, _, h => by simpa [frzL] using h
  | p :: ps, ts, qs, hh, h => by
    simp only [frzL] at h ⊢
    split at h
    · rename_i q qs' h1 h2
      rw [frz1_loc (hh p (by simp)) h1, frzL_loc ps ts.tail qs' (fun p hp => hh p (by simp [hp])) h2]
      exact h
    · simp at h
theorem frz_loc {s s' : Sto} {t : Option TypeId} {p q : PV} (hh : Holds s s' p) (h : frz P s t p = some q) : frz P s' t p = some q := by
  unfold frz at h ⊢
  split at h
  · rename_i f a b
    split at h
    · rename_i a' b' h1 h2
      rw [frzL_loc a [] a' (fun p hp id hid => hh id (by simp only [topIds, List.mem_append]; exact .inl (mem_topL hp hid))) h1, frzL_loc b [] b' (fun p hp id hid => hh id (by simp only [topIds, List.mem_append]; exact .inr (mem_topL hp hid))) h2]
      exact h
    · simp at h
  · exact frz1_loc hh h
theorem frzs_loc {s s' : Sto} : ∀ (ps : List PV) (ts : List TypeId) (qs : List PV), (∀ p, p ∈ ps → Holds s s' p) → frzs P s ts ps = some qs → frzs P s' ts ps = some qs
  | [], ts, qs, _, h => by simpa [frzs] using h
  | p :: ps, ts, qs, hh, h => by
    simp only [frzs] at h ⊢
    split at h
    · rename_i q qs' h1 h2
      rw [frz_loc (hh p (by simp)) h1, frzs_loc ps ts.tail qs' (fun p hp => hh p (by simp [hp])) h2]
      exact h
    · simp at h
theorem evOps_keep {K : Kc} {cf : CF} (hk : CFp K cf) {ops : Array Oper} : ∀ (os : List Oper) (e e' : Env) (s s' : Sto), wfS s → evOps P K.wr cf ops os e s = some (e', s') → Keeps s s'
  | [], e, e', s, s', hw, h => by
    simp only [evOps, Option.some.injEq, Prod.mk.injEq] at h
    rw [← h.2]; exact .refl hw
  | o :: os, e, e', s, s', hw, h => by
    simp only [evOps] at h
    split at h
    · split at h
      · rename_i p s1 hop
        have h1 := evOp_keep hk hw hop
        exact h1.trans (evOps_keep hk os _ _ _ _ h1.1 h)
      · simp at h
    · exact evOps_keep hk os _ _ _ _ hw h
    · simp at h
theorem finI_keep {rs : List ResultVar} {s s' : Sto} {r : PV} {x : Option (AX × Env × Sto)} (hx : ∀ y e1 s1, x = some (y, e1, s1) → wfS s1 ∧ s.next ≤ s1.next) (h : finI P rs s.own x = some (r, s')) : Keeps s s' := by
  unfold finI at h
  split at h
  · rename_i e1 s1
    simp only [Option.map_eq_some_iff, Prod.mk.injEq] at h
    obtain ⟨_, _, _, rfl⟩ := h
    have := hx _ _ _ rfl
    exact ⟨this.1, rfl, this.2⟩
  · rename_i e1 s1
    simp only [Option.map_eq_some_iff, Prod.mk.injEq] at h
    obtain ⟨_, _, _, rfl⟩ := h
    have := hx _ _ _ rfl
    exact ⟨this.1, rfl, this.2⟩
  · simp at h
theorem ev_keep (hL : LbOk P L) : ∀ (k : Nat), (∀ c e s x e' s', ev P L k c e s = some (x, e', s') → wfS s → Keeps s s') ∧ (∀ c e s x e' s', evL P L k c e s = some (x, e', s') → wfS s → Keeps s s') ∧ (∀ b c e s x e' s', evS P L k b c e s = some (x, e', s') → wfS s → Keeps s s') ∧
    (∀ o, CFp (L.K o) (fun g a s => evC P L k g a s)) := by
  intro k
  induction k with
  | zero =>
    refine ⟨fun _ _ _ _ _ _ h => by simp [ev] at h, fun _ _ _ _ _ _ h => by simp [evL] at h, fun _ _ _ _ _ _ _ h => by simp [evS] at h, fun o => ⟨evC_pure hL 0, fun _ _ _ _ _ _ _ h => by simp [evC] at h, fun _ _ _ _ _ h => by simp [evC] at h, fun _ _ _ _ _ _ h => by simp [evC] at h⟩⟩
  | succ k ih =>
    obtain ⟨ihE, ihL, ihS, ihC⟩ := ih
    refine ⟨fun c e s x e' s' h hw => ?_, fun c e s x e' s' h hw => ?_, fun b c e s x e' s' h hw => ?_, fun o => ⟨evC_pure hL (k + 1), ?_, ?_, ?_⟩⟩
    · cases c with
      | region id ops d =>
        simp only [ev, Option.map_eq_some_iff, Prod.mk.injEq] at h
        obtain ⟨⟨e1, s1⟩, h1, _, _, rfl⟩ := h
        exact evOps_keep (K := L.K false) (ihC false) _ _ _ _ _ hw h1
      | seq a b =>
        simp only [ev] at h
        cases h1 : ev P L k a e s with
        | none => rw [h1] at h; simp at h
        | some q =>
          obtain ⟨y, e1, s1⟩ := q
          have g := ihE _ _ _ _ _ _ h1 hw
          rw [h1] at h
          cases y with
          | normal => exact g.trans (ihE _ _ _ _ _ _ h g.1)
          | _ => simp only [Option.some.injEq, Prod.mk.injEq] at h; rw [← h.2.2]; exact g
      | cond y a b =>
        simp only [ev] at h
        split at h
        · exact ihE _ _ _ _ _ _ h hw
        · simp at h
      | block id b =>
        simp only [ev] at h
        cases h1 : ev P L k b e s with
        | none => rw [h1] at h; simp at h
        | some q =>
          obtain ⟨y, e1, s1⟩ := q
          have g := ihE _ _ _ _ _ _ h1 hw
          rw [h1] at h
          cases y with
          | exit id' =>
            simp only at h
            split at h <;> (simp only [Option.some.injEq, Prod.mk.injEq] at h; rw [← h.2.2]; exact g)
          | _ => simp only [Option.some.injEq, Prod.mk.injEq] at h; rw [← h.2.2]; exact g
      | loop b => simp only [ev] at h; exact ihL _ _ _ _ _ _ h hw
      | scope b => simp only [ev] at h; exact ihS _ _ _ _ _ _ _ h hw
      | rangeFunc f p a b => simp [ev] at h
      | refuse y => simp [ev] at h
      | _ => simp only [ev, Option.some.injEq, Prod.mk.injEq] at h; rw [← h.2.2]; exact .refl hw
    · simp only [evL] at h
      cases h1 : ev P L k c e s with
      | none => rw [h1] at h; simp at h
      | some q =>
        obtain ⟨y, e1, s1⟩ := q
        have g := ihE _ _ _ _ _ _ h1 hw
        rw [h1] at h
        cases y with
        | normal => exact g.trans (ihL _ _ _ _ _ _ h g.1)
        | _ => simp only [Option.some.injEq, Prod.mk.injEq] at h; rw [← h.2.2]; exact g
    · simp only [evS] at h
      cases h1 : ev P L k c e s with
      | none => rw [h1] at h; simp at h
      | some q =>
        obtain ⟨y, e1, s1⟩ := q
        have g := ihE _ _ _ _ _ _ h1 hw
        rw [h1] at h
        cases y with
        | goto l =>
          simp only at h
          split at h
          · exact g.trans (ihS _ _ _ _ _ _ _ h g.1)
          · simp only [Option.some.injEq, Prod.mk.injEq] at h; rw [← h.2.2]; exact g
        | _ => simp only [Option.some.injEq, Prod.mk.injEq] at h; rw [← h.2.2]; exact g
    · intro g args s r s1 s' hw h hh
      simp only [evC] at h ⊢
      split at h
      · rename_i t ht
        exact hL.loc g t args s r s1 s' ht hw h hh
      · have hni : ¬ L.inl g = true := fun hi => by have h9 := hL.inl g hi; rw [show (L.K o).wr g = L.wr g from rfl] at hw; rw [h9] at hw; simp at hw
        rw [if_neg hni] at h ⊢
        split at h
        · rename_i hc
          rw [if_pos hc]
          rw [Option.map_eq_some_iff] at h ⊢
          obtain ⟨r1, h1, h2⟩ := h
          simp only [Prod.mk.injEq] at h2
          exact ⟨r1, h1, by rw [h2.1]⟩
        · rename_i hc
          rw [if_neg hc]
          split at h
          · rename_i args' hb
            rw [frzs_loc args _ args' hh hb]
            simp only
            split at h
            · rename_i r1 hr1
              split at h
              · rename_i hm
                rw [if_pos hm]
                simp only [Option.some.injEq, Prod.mk.injEq] at h
                rw [h.1]
              · simp at h
            · simp at h
          · simp at h
    · intro g args s r s' h hw
      simp only [evC] at h
      split at h
      · rename_i t ht
        exact hL.keep g t args s r s' ht h hw
      · split at h
        · split at h
          · split at h
            · split at h
              · refine finI_keep (fun y e1 s1 he => ?_) h
                have := ihE _ _ _ _ _ _ he hw
                exact ⟨this.1, this.2.2⟩
              · simp at h
            · simp at h
          · simp at h
        · split at h
          · simp only [Option.map_eq_some_iff, Prod.mk.injEq] at h
            obtain ⟨_, _, _, rfl⟩ := h
            exact .refl hw
          · split at h
            · split at h
              · split at h
                · simp only [Option.some.injEq, Prod.mk.injEq] at h
                  rw [← h.2]; exact .refl hw
                · simp at h
              · simp at h
            · simp at h
    · intro g args s r s' hp h
      obtain ⟨t, ht, hg⟩ := hL.push g hp
      simp only [evC, ht] at h
      exact hg args s r s' h

theorem memfree1_any {κ κ' : Kr} {v : Value} {p : PV} (hm : memfree1 p = true) (h : Reads κ v p) : Reads κ' v p := by
  cases h with
  | lit v => exact .lit v
  | agg us cs hs hr =>
    refine .agg us cs hs (fun j v p hv hp => ?_)
    have := List.all_eq_true.1 hm p (List.mem_of_getElem? hp)
    have h2 := hr j v p hv hp
    cases h2 <;> simp_all [isLit]
    exact .lit _
  | _ => simp [memfree1] at hm
theorem memfree_any {κ κ' : Kr} {v : Value} {p : PV} (hm : memfree p = true) (h : Reads κ v p) : Reads κ' v p := by
  cases h with
  | tup us cs hs hr =>
    refine .tup us cs hs (fun j v p hv hp => ?_)
    have := List.all_eq_true.1 hm p (List.mem_of_getElem? hp)
    exact memfree1_any this (hr j v p hv hp)
  | lit v => exact .lit v
  | agg us cs hs hr => exact memfree1_any hm (.agg us cs hs hr)
  | _ => simp [memfree, memfree1] at hm

theorem Reads.cleanA {κ κ' : Kr} (hk : ∀ a v, κ.Φ a = some v → κ'.Φ a = some v) {us : Array Value} {ps : List PV} (h : ReadsA κ us ps) (hc : cleanL ps = true) : ReadsA κ' us (normL ps) := by
  refine ⟨by simp [normL_eq_map, h.1], fun j v p hv hp => ?_⟩
  rw [getElem?_normL, Option.map_eq_some_iff] at hp
  obtain ⟨q, hq, rfl⟩ := hp
  exact (h.2 j v q hv hq).clean hk ((cleanL_iff _).1 hc q (List.mem_of_getElem? hq))

/-- The world has grown, what there was stands. -/
theorem Rep.later {κ : Kr} {s : Sto} {w w' : World} (h : Rep w0 κ s w) (hb : Below w.heap.size w w') : Rep w0 κ s w' := by
  refine ⟨h.below.trans (hb.mono h.below.size), h.old, fun a v hv => ?_, h.dom, fun id b hbx => ?_, h.inj⟩
  · rw [hb.cell (h.phi_lt hv)]
    exact h.phi a v hv
  · obtain ⟨i, h1, h2, h3⟩ := h.box id b hbx
    exact ⟨i, h1, h2, h3.mono (Kr.le_refl κ) (hb.block _ h3.lt) (fun _ _ hn => hn)⟩

/-- Functions gone through in the caller's store. -/
def InlOk (P : Program) (L : Lb) (k : Nat) : Prop := ∀ (g : FuncId) (args : List PV) (s : Sto) (r : PV) (s' : Sto), L.ok g = true → (match P.funcs[g]? with
        | some fn => match fn.body with
          | some c => finI P fn.results.toList s.own (ev P L k c (initEnv args) (s.flag (L.own g)))
          | none => none
        | none => none) = some (r, s') → ∀ (w0 : Base) (κ : Kr) (w : World) (vs : Array Value), Rep w0 κ s w → ReadsA κ vs args →
  (∃ fn c, P.funcs[g]? = some fn ∧ fn.body = some c ∧ fn.name ≠ "runtime.NumGoroutine") ∧
  Calls P g vs w fun en w' => ∃ v κ', en = .returned v ∧ κ.le κ' ∧ Reads κ' v r ∧ Rep w0 κ' s' w'
theorem evC_ok (hL : LbOk P L) (k : Nat) (hF : ∀ g args r, evF P L k g args = some r → FnOk P g args r) (hI : InlOk P L k) : CFok P (fun g args s => evC P L (k + 1) g args s) := by
  intro w0 κ s w g args r s' vs h hR hA
  simp only [evC] at h
  split at h
  · rename_i t ht
    exact hL.intr g t ht w0 κ s w g args r s' vs (by simpa using h) hR hA
  · split at h
    · rename_i hin
      split at h
      · rename_i hokg
        exact .inl (hI g args s r s' hokg h w0 κ w vs hR hA)
      · simp at h
    split at h
    · rename_i hc
      simp only [Option.map_eq_some_iff, Prod.mk.injEq] at h
      obtain ⟨r', hf, rfl, rfl⟩ := h
      obtain ⟨h1, h2⟩ := hF g _ r' hf w κ.Φ vs hR.phi (Reads.cleanA (κ := κ) (κ' := kap κ.Φ) (fun _ _ h => h) hA hc)
      refine .inl ⟨h1, h2.mono ?_⟩
      rintro en w' ⟨v, Φ', e1, e2, e3, e4, e5, e6⟩
      let κ' : Kr := ⟨Φ', κ.inf⟩
      have hk : κ.le κ' := ⟨e2, fun _ _ h => h⟩
      refine ⟨v, κ', e1, hk, ?_, ?_⟩
      · exact Reads.mono (κ := kap Φ') (κ' := κ') ⟨fun _ _ h => h, fun _ _ h => by cases h⟩ e3
      · have hl := hR.later e4
        refine ⟨hl.below, fun a u hu => ?_, e5, hl.dom, fun id b hb => ?_, hl.inj⟩
        · rcases e6 a u hu with e7 | e7
          · exact .inl (Nat.le_trans hR.hB e7)
          · exact hR.old a u e7
        · obtain ⟨i, g1, g2, g3⟩ := hl.box id b hb
          obtain ⟨i', g1', g2', g3'⟩ := hR.box id b hb
          rw [g1] at g1'
          simp only [Option.some.injEq] at g1'
          subst g1'
          refine ⟨i, g1, g2, g3.mono hk rfl (fun a ha hn => ?_)⟩
          cases hu : κ'.Φ a with
          | none => rfl
          | some u =>
            rcases e6 a u hu with e7 | e7
            · have := g3'.lt; omega
            · rw [hn] at e7; simp at e7
    · split at h
      · rename_i args' hb
        split at h
        · rename_i r' hf
          split at h
          · rename_i hm
            simp only [Option.some.injEq, Prod.mk.injEq] at h
            obtain ⟨rfl, rfl⟩ := h
            obtain ⟨b1, b2⟩ := borrows_sound hR _ args args' hb
            have hA' : ReadsA (kap w.cell?) vs args' := ⟨by rw [hA.1, b1], fun j v p hv hp => b2 j v p hp (fun q hq => hA.2 j v q hv hq)⟩
            obtain ⟨h1, h2⟩ := hF g _ r' hf w w.cell? vs (fun _ _ h => h) hA'
            refine .inl ⟨h1, h2.mono ?_⟩
            rintro en w' ⟨v, Φ', e1, e2, e3, e4, e5, e6⟩
            exact ⟨v, κ, e1, Kr.le_refl κ, memfree_any hm e3, hR.later e4⟩
          · simp at h
        · simp at h
      · simp at h

/-! ### Scopes -/
def ScopeAt (P : Program) (body cur : Code) (Q : Exit → Act → World → Prop) (a : Act) (w : World) : Prop :=
  ∀ (b : Frame) (k : List Item) (cs : List Frame), ∃ e a' w', Q e a' w' ∧ Arrives P (lone (b.at a (.code cur :: .inScope body :: k)) cs w) b k cs e a' w'
theorem pv_step_scope {b : Frame} {a : Act} {k : List Item} {cs : List Frame} {w : World} {c : Code} : step P (lone (b.at a (.code (.scope c) :: k)) cs w) = .next (lone (b.at a (.code c :: .inScope c :: k)) cs w) :=
  step_lone_go (by simp [stepG, stepG.exec, Frame.at])
theorem pv_step_inScope {b : Frame} {a : Act} {k : List Item} {cs : List Frame} {w : World} {c : Code} : step P (lone (b.at a (.inScope c :: k)) cs w) = .next (lone (b.at a k) cs w) :=
  step_lone_go (by simp [stepG, stepG.exec, Frame.at])
theorem wp_of_scopeAt {body : Code} {Q : Exit → Act → World → Prop} {a : Act} {w : World} (h : ScopeAt P body body Q a w) : (Code.scope body).wp P Q a w := by
  intro b k cs
  obtain ⟨e, a', w', hq, harr⟩ := h b k cs
  exact ⟨e, a', w', hq, .of_steps (.one pv_step_scope) harr⟩
theorem scopeAt_of_wp {body cur : Code} {Q : Exit → Act → World → Prop} {a : Act} {w : World}
    (h : cur.wp P (fun e a' w' => match e with
      | .goto l => match findLabel body l with
        | some rest => ScopeAt P body rest Q a' w'
        | none => Q (.goto l) a' w'
      | e => Q e a' w') a w) : ScopeAt P body cur Q a w := by
  intro b k cs
  obtain ⟨e, a', w', hq, harr⟩ := h b (.inScope body :: k) cs
  cases e with
  | normal => exact ⟨.normal, a', w', hq, Steps.trans harr (.one pv_step_inScope)⟩
  | exit id => exact ⟨.exit id, a', w', hq, fun k' hk => harr k' (by simpa [exitTo] using hk)⟩
  | goto l =>
    simp only at hq
    split at hq
    · rename_i rest hl
      obtain ⟨e2, a2, w2, hq2, harr2⟩ := hq b k cs
      exact ⟨e2, a2, w2, hq2, .of_steps (harr _ (by simp [gotoIn, hl])) harr2⟩
    · rename_i hl
      exact ⟨.goto l, a', w', hq, fun k' hk => harr k' (by simpa [gotoIn, hl] using hk)⟩
  | ret => exact ⟨.ret, a', w', hq, harr⟩
  | panic ch => exact ⟨.panic ch, a', w', hq, harr⟩
  | outgrown => exact ⟨.outgrown, a', w', hq, harr⟩

theorem findLabel_ok {nt : Nat} : ∀ (body : Code) (l : Nat) (rest : Code), codeOk L o nt body = true → findLabel body l = some rest → codeOk L o nt rest = true
  | .seq a b, l, rest, h, hf => by
    simp only [codeOk, Bool.and_eq_true] at h
    simp only [findLabel] at hf
    split at hf
    · rename_i r hr
      simp only [Option.some.injEq] at hf
      subst hf
      simp only [codeOk, Bool.and_eq_true]
      exact ⟨findLabel_ok a l r h.1 hr, h.2⟩
    · exact findLabel_ok b l rest h.2 hf
  | .label l', l, rest, _, hf => by
    simp only [findLabel] at hf
    split at hf
    · simp only [Option.some.injEq] at hf; subst hf; rfl
    · simp at hf
  | .skip, _, _, _, hf | .region _ _ _, _, _, _, hf | .cond _ _ _, _, _, _, hf | .block _ _, _, _, _, hf | .loop _, _, _, _, hf | .rangeFunc _ _ _ _, _, _, _, hf | .exit _, _, _, _, hf | .scope _, _, _, _, hf | .goto _, _, _, _, hf | .ret, _, _, _, hf | .refuse _, _, _, _, hf => by simp [findLabel] at hf

def Post (w0 : Base) (nt : Nat) (κ : Kr) (x : AX) (e : Env) (s : Sto) : Exit → Act → World → Prop :=
  fun ex a w => ex = x.out ∧ ∃ κ', κ.le κ' ∧ RepF w0 nt κ' e s a w

theorem Post.mono {κ κ' : Kr} (hk : κ.le κ') {x : AX} {e : Env} {s : Sto} {ex : Exit} {a : Act} {w : World} (h : Post w0 nt κ' x e s ex a w) : Post w0 nt κ x e s ex a w :=
  ⟨h.1, h.2.elim fun κ2 h2 => ⟨κ2, Kr.le_trans hk h2.1, h2.2⟩⟩

theorem region_sound (hL : LbOk P L) {cf : CF} (hcf : CFok P cf) (hcp : CFp (L.K o) cf) {id : Nat} {ops : Array Oper} {draw : Bool} (hok : codeOk L o nt (.region id ops draw) = true) {κ : Kr} {e e' : Env} {s s' : Sto} {a : Act} {w : World} (ho : o = false → s.own = false) (h : RepF w0 nt κ e s a w) (he : evOps P L.wr cf ops ops.toList e s = some (e', s')) :
    (Code.region id ops draw).wp P (Post w0 nt κ .normal e' s') a w := by
  simp only [codeOk, Bool.and_eq_true, Bool.or_eq_true, Bool.not_eq_true'] at hok
  have hd : ∀ (i : Nat) (o : Oper), ops[i]? = some o → ∀ d, o.dst = some d → d < nt := fun i o ho d hod => by
    have := (Array.all_eq_true'.1 hok.1) o (Array.mem_of_getElem? ho)
    rw [hod] at this
    simpa using this
  cases draw with
  | false =>
    refine wp_region ?_
    refine evOps_sound hcf ops _ (List.range ops.size) ops.toList κ e s a w ?_ (fun o ho d hod => ?_) h e' s' he (fun κ' a' w' hk h' => ⟨rfl, κ', hk, h'⟩)
    · apply List.ext_getElem?
      intro i
      simp only [List.getElem?_map]
      by_cases hi : i < ops.size
      · simp [hi]
      · rw [List.getElem?_eq_none (by simpa using hi), List.getElem?_eq_none (by simpa using hi)]
        rfl
    · obtain ⟨i, hi⟩ := List.getElem?_of_mem ho
      exact hd i o (by simpa using hi) d hod
  | true =>
    have hc := commOK_sound (hok.2.resolve_left (by simp))
    obtain ⟨E, Z, pv, h1, h2, h3, h4, h5⟩ := textRun_aux (K := L.K o) ops.toList 0 e e' s s' (fun i => by simp) he
    have hT : TextRun P (L.K o) cf ops E Z pv := ⟨fun i o ho => h5 i o (Nat.zero_le _) ho⟩
    simp only [Nat.zero_add, Array.length_toList] at h3 h4
    refine wp_region_any hL.mixed ?_
    have hM : Mid P (L.K o) cf ops E Z (fun _ => False) e s := by
      refine ⟨fun i o hs => hs.elim, fun i hs => hs.elim, fun i o t hs => hs.elim, fun t _ => by rw [h1], 0, Nat.zero_le _, h2.symm, fun j x _ _ _ => ⟨fun h => h.elim, fun h => by omega⟩⟩
    have hR : RepF w0 nt κ e s a { w with drawn := w.drawn + 1 } := ⟨h.env, h.rep.drawn _, h.size, h.defers⟩
    refine drawn_sound hcf hcp hc hT (by rw [h2]; exact h.rep.wf) (by rw [h2]; exact ho) (fun _ _ h => h.elim) hd _ ops.size (Array.replicate ops.size false) (fun _ => False) κ e s a _ (by simp) (fun i hi => by simp [hi]) hM hR (by simp) (fun κ' a' w' hk h' => ⟨rfl, κ', hk, ?_⟩)
    rw [h3, h4] at h'
    exact h'

def rsem (a : Act) : ResultVar → Sem Value
  | .tmp t => pure (a.tmps.getD t undef)
  | .cell x t => do loadVar t (← asAddr (a.tmps.getD x undef))
theorem results_sound {κ : Kr} {e : Env} {s : Sto} {a : Act} {w : World} (h : RepF w0 nt κ e s a w) : ∀ (rs : List ResultVar) (ps : List PV), resultsE P e s rs = some ps →
    ∃ vs : List Value, (rs.mapM (rsem a)).run P w = .ok vs w ∧ ReadsA κ vs.toArray ps
  | [], ps, hr => by
    simp only [resultsE, Option.some.injEq] at hr
    subst hr
    exact ⟨[], rfl, rfl, fun j v p hv => by simp at hv⟩
  | .tmp t :: rs, ps, hr => by
    simp only [resultsE, Option.map_eq_some_iff] at hr
    obtain ⟨ps', hr', rfl⟩ := hr
    obtain ⟨vs, h1, h2⟩ := results_sound h rs ps' hr'
    refine ⟨a.tmps.getD t undef :: vs, ?_, by simp [h2.1] at *; exact h2.1, fun j v p hv hp => ?_⟩
    · have : (rsem a (.tmp t)).run P w = .ok (a.tmps.getD t undef) w := rfl
      simp only [List.mapM_cons, Sem.run_bind, Sem.run_pure, Result.andThen_ok, this, h1]
    · cases j with
      | zero =>
        simp at hv hp
        subst hv; subst hp
        have := h.env t
        rw [Array.getD_eq_getD_getElem?] at this
        exact this
      | succ j => exact h2.2 j v p (by simpa using hv) (by simpa using hp)
  | .cell x t :: rs, ps, hr => by
    simp only [resultsE] at hr
    split at hr
    · rename_i p ps' hl hr'
      simp only [Option.some.injEq] at hr
      subst hr
      obtain ⟨vs, h1, h2⟩ := results_sound h rs ps' hr'
      obtain ⟨u, h3, h4⟩ := evLoad_sound h.rep (h.env x) hl
      have hx : ∃ ad, a.tmps.getD x undef = .pointer (some ad) := by
        unfold evLoad at hl
        have hx := h.env x
        split at hl
        · rename_i id off he
          rw [he] at hx
          obtain ⟨i, _, h5⟩ := ptr_inv hx
          exact ⟨_, h5⟩
        · rename_i cs he
          rw [he] at hx
          obtain ⟨ad, _, h5, _⟩ := rptr_inv hx
          exact ⟨_, h5⟩
        · simp at hl
      obtain ⟨ad, hx⟩ := hx
      rw [hx] at h3
      refine ⟨u :: vs, ?_, by have := h2.1; simp at this ⊢; exact this, fun j v p hv hp => ?_⟩
      · simp only [Instr.loadAt, Instr.sureAddr, Sem.run_bind, Sem.run_pure, Result.andThen_ok] at h3
        have : (rsem a (.cell x t)).run P w = .ok u w := by simp only [rsem, hx, asAddr, Sem.run_bind, Sem.run_pure, Result.andThen_ok, h3]
        simp only [List.mapM_cons, Sem.run_bind, Sem.run_pure, Result.andThen_ok, this, h1]
      · cases j with
        | zero => simp at hv hp; subst hv; subst hp; exact h4
        | succ j => exact h2.2 j v p (by simpa using hv) (by simpa using hp)
    · simp at hr

theorem results_one {κ : Kr} {e : Env} {s : Sto} {a : Act} {w : World} (h : RepF w0 nt κ e s a w) {fn : Func} {ps : List PV} (hr : resultsE P e s fn.results.toList = some ps) : ∃ v, (results fn a.tmps).run P w = .ok v w ∧ Reads κ v (resultOf ps) ∧
    ∀ {Φ' : Addr → Option Value}, (∀ a v, κ.Φ a = some v → Φ' a = some v) → (∀ id i b, s.get id = some b → κ.inf id = some i → ∀ a v, a.block = i.blk → w.cell? a = some v → Φ' a = some v) → ∀ (ts : List TypeId) (qs : List PV), frzs P s ts ps = some qs → Reads (kap Φ') v (resultOf qs) := by
  obtain ⟨vs, h1, h2⟩ := results_sound (P := P) h fn.results.toList ps hr
  have pack : ∀ {κ' : Kr} (qs : List PV), ReadsA κ' vs.toArray qs → Reads κ' (if h : vs.toArray.size = 1 then vs.toArray[0] else .tuple vs.toArray) (resultOf qs) := by
    intro κ' qs h2
    have hlen : vs.length = qs.length := by have := h2.1; simpa using this
    match vs, qs, hlen, h2 with
    | [], [], _, h2 => exact .tup _ _ rfl h2.2
    | [v], [p], _, h2 => exact h2.2 0 v p rfl rfl
    | v :: v' :: vs, p :: p' :: ps, _, h2 =>
      simp only [List.size_toArray, List.length_cons]
      rw [dif_neg (by omega)]
      exact .tup _ _ h2.1 h2.2
  refine ⟨if h : vs.toArray.size = 1 then vs.toArray[0] else .tuple vs.toArray, ?_, pack ps h2, fun {Φ'} hΦ hown ts qs hq => pack qs ?_⟩
  · unfold results
    rw [Array.mapM_eq_mapM_toList]
    simp only [Sem.run_bind, Sem.run_map]
    have : ∀ (f g : ResultVar → Sem Value), f = g → (fn.results.toList.mapM f).run P w = .ok vs w → (fn.results.toList.mapM g).run P w = .ok vs w := fun f g e h => e ▸ h
    rw [this (rsem a) _ ?_ h1]
    · simp only [Result.andThen_ok, Sem.run_pure]
    · funext r
      cases r <;> rfl
  · obtain ⟨h3, h4⟩ := frzs_sound h.rep hΦ hown ts ps qs hq
    exact ⟨by rw [h2.1, h3], fun j v p hv hp => h4 j v p hp (fun q hq => h2.2 j v q hv hq)⟩

theorem initEnv_reads {κ : Kr} {vs : Array Value} {args : List PV} (h : ReadsA κ vs args) (n : Nat) : EnvR κ { tmps := vs ++ Array.replicate n undef, defers := [] } (initEnv args) := by
  intro t
  unfold initEnv
  simp only [List.getD_eq_getElem?_getD]
  cases hp : args[t]? with
  | none => exact .any _
  | some p =>
    have hlt : t < vs.size := by
      rw [h.1]
      rcases Nat.lt_or_ge t args.length with h5 | h5
      · exact h5
      · rw [List.getElem?_eq_none h5] at hp; simp at hp
    have hv : vs[t]? = some vs[t] := by simp [hlt]
    have := h.2 t _ p hv hp
    simp only [Option.getD_some, Array.getD_eq_getD_getElem?]
    rw [Array.getElem?_append_left hlt, hv]
    exact this

theorem inlOk_of (hL : LbOk P L) {k : Nat} (ihE : ∀ (o : Bool) (w0 : Base) (nt : Nat) (c : Code) (e : Env) (s : Sto) (x : AX) (e' : Env) (s' : Sto) (κ : Kr) (a : Act) (w : World), ev P L k c e s = some (x, e', s') → codeOk L o nt c = true → (o = false → s.own = false) → RepF w0 nt κ e s a w → c.wp P (Post w0 nt κ x e' s') a w) : InlOk P L k := by
  intro g args s r s' hokg h w0 κ w vs hR hA
  obtain ⟨fn, c, h1, h2, h3, h4⟩ := hL.ok g hokg
  simp only [h1, h2] at h
  refine ⟨⟨fn, c, h1, h2, h3⟩, ?_⟩
  have key : ∀ (x : AX) (e : Env) (s1 : Sto), ev P L k c (initEnv args) (s.flag (L.own g)) = some (x, e, s1) → (x = .normal ∨ x = .ret) → (resultsE P e s1 fn.results.toList).map (fun ps => (resultOf ps, s1.flag s.own)) = some (r, s') →
      Calls P g vs w fun en w' => ∃ v κ', en = .returned v ∧ κ.le κ' ∧ Reads κ' v r ∧ Rep w0 κ' s' w' := by
    intro x e s1 hev hx hr
    simp only [Option.map_eq_some_iff, Prod.mk.injEq] at hr
    obtain ⟨ps, hr, rfl, rfl⟩ := hr
    have hRF : RepF w0 fn.ntmps κ (initEnv args) (s.flag (L.own g)) { tmps := vs ++ Array.replicate (fn.ntmps - vs.size) undef, defers := [] } w :=
      ⟨initEnv_reads hA _, hR.flag _, by simp; omega, rfl⟩
    have hw := ihE (L.own g) w0 fn.ntmps c _ _ x e s1 κ _ w hev h4 (fun ho => ho) hRF
    refine calls_of_wp h1 h2 (wp_mono hw ?_)
    intro ex a1 w1 ⟨hx1, κ1, hk, hR1⟩
    obtain ⟨v, h5, h6, _⟩ := results_one hR1 hr
    have fin : a1.defers = [] ∧ ∃ v, (results fn a1.tmps).run P w1 = .ok v w1 ∧ ∃ v' κ', Ending.returned v = .returned v' ∧ κ.le κ' ∧ Reads κ' v' (resultOf ps) ∧ Rep w0 κ' (s1.flag s.own) w1 :=
      ⟨hR1.defers, v, h5, v, κ1, rfl, hk, h6, hR1.rep.flag _⟩
    subst hx1
    rcases hx with rfl | rfl
    · exact fin
    · exact fin
  unfold finI at h
  split at h
  · rename_i e s1 hev
    exact key .normal e s1 hev (.inl rfl) h
  · rename_i e s1 hev
    exact key .ret e s1 hev (.inr rfl) h
  · simp at h

theorem sound (hL : LbOk P L) : ∀ (k : Nat),
    (∀ (o : Bool) (w0 : Base) (nt : Nat) (c : Code) (e : Env) (s : Sto) (x : AX) (e' : Env) (s' : Sto) (κ : Kr) (a : Act) (w : World), ev P L k c e s = some (x, e', s') → codeOk L o nt c = true → (o = false → s.own = false) → RepF w0 nt κ e s a w → c.wp P (Post w0 nt κ x e' s') a w) ∧
    (∀ (o : Bool) (w0 : Base) (nt : Nat) (c : Code) (e : Env) (s : Sto) (x : AX) (e' : Env) (s' : Sto) (κ : Kr) (a : Act) (w : World), evL P L k c e s = some (x, e', s') → codeOk L o nt c = true → (o = false → s.own = false) → RepF w0 nt κ e s a w →
      ∀ (b : Frame) (kk : List Item) (cs : List Frame), ∃ ex a' w', Post w0 nt κ x e' s' ex a' w' ∧ Arrives P (lone (b.at a (.code c :: .inLoop c :: kk)) cs w) b kk cs ex a' w') ∧
    (∀ (o : Bool) (w0 : Base) (nt : Nat) (body cur : Code) (e : Env) (s : Sto) (x : AX) (e' : Env) (s' : Sto) (κ : Kr) (a : Act) (w : World), evS P L k body cur e s = some (x, e', s') → codeOk L o nt body = true → codeOk L o nt cur = true → (o = false → s.own = false) → RepF w0 nt κ e s a w → ScopeAt P body cur (Post w0 nt κ x e' s') a w) ∧
    CFok P (fun g args s => evC P L k g args s) ∧
    (∀ (g : FuncId) (args : List PV) (r : PV), evF P L k g args = some r → FnOk P g args r) := by
  intro k
  induction k with
  | zero =>
    refine ⟨fun _ _ _ _ _ _ _ _ _ _ _ _ h => by simp [ev] at h, fun _ _ _ _ _ _ _ _ _ _ _ _ h => by simp [evL] at h, fun _ _ _ _ _ _ _ _ _ _ _ _ _ h => by simp [evS] at h, fun _ _ _ _ _ _ _ _ _ h => by simp [evC] at h, fun _ _ _ h => by simp [evF] at h⟩
  | succ k ih =>
    obtain ⟨ihE, ihL, ihS, ihC, ihF⟩ := ih
    refine ⟨?_, ?_, ?_, evC_ok hL k ihF (inlOk_of hL ihE), ?_⟩
    · intro o w0 nt c e s x e' s' κ a w he hok ho hR
      cases c with
      | skip => simp only [ev, Option.some.injEq, Prod.mk.injEq] at he; obtain ⟨rfl, rfl, rfl⟩ := he; exact wp_skip ⟨rfl, κ, Kr.le_refl κ, hR⟩
      | label l => simp only [ev, Option.some.injEq, Prod.mk.injEq] at he; obtain ⟨rfl, rfl, rfl⟩ := he; exact wp_label ⟨rfl, κ, Kr.le_refl κ, hR⟩
      | exit id => simp only [ev, Option.some.injEq, Prod.mk.injEq] at he; obtain ⟨rfl, rfl, rfl⟩ := he; exact wp_exit ⟨rfl, κ, Kr.le_refl κ, hR⟩
      | goto l => simp only [ev, Option.some.injEq, Prod.mk.injEq] at he; obtain ⟨rfl, rfl, rfl⟩ := he; exact wp_goto ⟨rfl, κ, Kr.le_refl κ, hR⟩
      | ret => simp only [ev, Option.some.injEq, Prod.mk.injEq] at he; obtain ⟨rfl, rfl, rfl⟩ := he; exact wp_ret ⟨rfl, κ, Kr.le_refl κ, hR⟩
      | region id ops draw =>
        simp only [ev, Option.map_eq_some_iff, Prod.mk.injEq] at he
        obtain ⟨⟨e1, s1⟩, h1, rfl, rfl, rfl⟩ := he
        exact region_sound hL ihC ((ev_keep hL k).2.2.2 o) hok ho hR h1
      | seq c1 c2 =>
        simp only [codeOk, Bool.and_eq_true] at hok
        simp only [ev] at he
        cases h1 : ev P L k c1 e s with
        | none => rw [h1] at he; simp at he
        | some r =>
          obtain ⟨x1, e1, s1⟩ := r
          rw [h1] at he
          have hkp := (ev_keep hL k).1 _ _ _ _ _ _ h1 hR.rep.wf
          have hw := ihE o w0 nt c1 e s x1 e1 s1 κ a w h1 hok.1 ho hR
          refine wp_seq (wp_mono hw ?_)
          intro ex a1 w1 ⟨hx, κ1, hk, hR1⟩
          subst hx
          cases x1 with
          | normal =>
            simp only [AX.out, Exit.then]
            exact wp_mono (ihE o w0 nt c2 e1 s1 x e' s' κ1 a1 w1 he hok.2 (fun h => by rw [hkp.2.1]; exact ho h) hR1) (fun _ _ _ h => h.mono hk)
          | exit id => simp only [Option.some.injEq, Prod.mk.injEq] at he; obtain ⟨rfl, rfl, rfl⟩ := he; exact ⟨rfl, κ1, hk, hR1⟩
          | goto l => simp only [Option.some.injEq, Prod.mk.injEq] at he; obtain ⟨rfl, rfl, rfl⟩ := he; exact ⟨rfl, κ1, hk, hR1⟩
          | ret => simp only [Option.some.injEq, Prod.mk.injEq] at he; obtain ⟨rfl, rfl, rfl⟩ := he; exact ⟨rfl, κ1, hk, hR1⟩
      | cond y c1 c2 =>
        simp only [codeOk, Bool.and_eq_true] at hok
        simp only [ev] at he
        split at he
        · rename_i t ht
          have h1 := hR.env.eval y
          rw [ht] at h1
          refine wp_cond (lit_inv h1) ?_
          refine ihE o w0 nt _ e s x e' s' κ a w he ?_ ho hR
          cases t
          · exact hok.2
          · exact hok.1
        · simp at he
      | block id c1 =>
        simp only [codeOk] at hok
        simp only [ev] at he
        cases h1 : ev P L k c1 e s with
        | none => rw [h1] at he; simp at he
        | some r =>
          obtain ⟨x1, e1, s1⟩ := r
          rw [h1] at he
          have hw := ihE o w0 nt c1 e s x1 e1 s1 κ a w h1 hok ho hR
          refine wp_block (wp_mono hw ?_)
          intro ex a1 w1 ⟨hx, κ1, hk, hR1⟩
          subst hx
          cases x1 with
          | normal => simp only [Option.some.injEq, Prod.mk.injEq] at he; obtain ⟨rfl, rfl, rfl⟩ := he; exact ⟨rfl, κ1, hk, hR1⟩
          | exit id' =>
            simp only [AX.out, Exit.inBlock]
            simp only at he
            split at he
            · rename_i hid
              rw [if_pos hid]
              simp only [Option.some.injEq, Prod.mk.injEq] at he; obtain ⟨rfl, rfl, rfl⟩ := he; exact ⟨rfl, κ1, hk, hR1⟩
            · rename_i hid
              rw [if_neg hid]
              simp only [Option.some.injEq, Prod.mk.injEq] at he; obtain ⟨rfl, rfl, rfl⟩ := he; exact ⟨rfl, κ1, hk, hR1⟩
          | goto l => simp only [Option.some.injEq, Prod.mk.injEq] at he; obtain ⟨rfl, rfl, rfl⟩ := he; exact ⟨rfl, κ1, hk, hR1⟩
          | ret => simp only [Option.some.injEq, Prod.mk.injEq] at he; obtain ⟨rfl, rfl, rfl⟩ := he; exact ⟨rfl, κ1, hk, hR1⟩
      | loop c1 =>
        simp only [codeOk] at hok
        simp only [ev] at he
        intro b kk cs
        obtain ⟨ex, a1, w1, hq, harr⟩ := ihL o w0 nt c1 e s x e' s' κ a w he hok ho hR b kk cs
        exact ⟨ex, a1, w1, hq, .of_steps (.one step_loop) harr⟩
      | scope c1 =>
        simp only [codeOk] at hok
        simp only [ev] at he
        exact wp_of_scopeAt (ihS o w0 nt c1 c1 e s x e' s' κ a w he hok hok ho hR)
      | rangeFunc f ps asg body => simp [ev] at he
      | refuse y => simp [ev] at he
    · intro o w0 nt c1 e s x e' s' κ a w he hok ho hR b kk cs
      simp only [evL] at he
      cases h1 : ev P L k c1 e s with
      | none => rw [h1] at he; simp at he
      | some r =>
        obtain ⟨x1, e1, s1⟩ := r
        rw [h1] at he
        have hkp := (ev_keep hL k).1 _ _ _ _ _ _ h1 hR.rep.wf
        obtain ⟨ex, a1, w1, ⟨hx, κ1, hk, hR1⟩, harr⟩ := ihE o w0 nt c1 e s x1 e1 s1 κ a w h1 hok ho hR b (.inLoop c1 :: kk) cs
        subst hx
        cases x1 with
        | normal =>
          obtain ⟨e2, a2, w2, hq2, harr2⟩ := ihL o w0 nt c1 e1 s1 x e' s' κ1 a1 w1 he hok (fun h => by rw [hkp.2.1]; exact ho h) hR1 b kk cs
          exact ⟨e2, a2, w2, hq2.mono hk, .of_steps (Steps.trans harr (.one step_inLoop)) harr2⟩
        | exit id => simp only [Option.some.injEq, Prod.mk.injEq] at he; obtain ⟨rfl, rfl, rfl⟩ := he; exact ⟨_, a1, w1, ⟨rfl, κ1, hk, hR1⟩, .pass (x := .inLoop c1) rfl (fun _ _ => .inl (by simp [AX.out])) harr⟩
        | goto l => simp only [Option.some.injEq, Prod.mk.injEq] at he; obtain ⟨rfl, rfl, rfl⟩ := he; exact ⟨_, a1, w1, ⟨rfl, κ1, hk, hR1⟩, .pass (x := .inLoop c1) rfl (fun _ _ => .inl (by simp [AX.out])) harr⟩
        | ret => simp only [Option.some.injEq, Prod.mk.injEq] at he; obtain ⟨rfl, rfl, rfl⟩ := he; exact ⟨_, a1, w1, ⟨rfl, κ1, hk, hR1⟩, .pass (x := .inLoop c1) rfl (fun _ _ => .inl (by simp [AX.out])) harr⟩
    · intro o w0 nt body cur e s x e' s' κ a w he hok hoc ho hR
      simp only [evS] at he
      cases h1 : ev P L k cur e s with
      | none => rw [h1] at he; simp at he
      | some r =>
        obtain ⟨x1, e1, s1⟩ := r
        rw [h1] at he
        have hkp := (ev_keep hL k).1 _ _ _ _ _ _ h1 hR.rep.wf
        have hw := ihE o w0 nt cur e s x1 e1 s1 κ a w h1 hoc ho hR
        refine scopeAt_of_wp (wp_mono hw ?_)
        intro ex a1 w1 ⟨hx, κ1, hk, hR1⟩
        subst hx
        cases x1 with
        | normal => simp only [Option.some.injEq, Prod.mk.injEq] at he; obtain ⟨rfl, rfl, rfl⟩ := he; exact ⟨rfl, κ1, hk, hR1⟩
        | exit id => simp only [Option.some.injEq, Prod.mk.injEq] at he; obtain ⟨rfl, rfl, rfl⟩ := he; exact ⟨rfl, κ1, hk, hR1⟩
        | ret => simp only [Option.some.injEq, Prod.mk.injEq] at he; obtain ⟨rfl, rfl, rfl⟩ := he; exact ⟨rfl, κ1, hk, hR1⟩
        | goto l =>
          show (match findLabel body l with
            | some rest => ScopeAt P body rest (Post w0 nt κ x e' s') a1 w1
            | none => Post w0 nt κ x e' s' (.goto l) a1 w1)
          simp only at he
          cases hl : findLabel body l with
          | some rest =>
            rw [hl] at he
            have := ihS o w0 nt body rest e1 s1 x e' s' κ1 a1 w1 he hok (findLabel_ok body l rest hok hl) (fun h => by rw [hkp.2.1]; exact ho h) hR1
            intro b kk cs
            obtain ⟨e2, a2, w2, hq2, harr2⟩ := this b kk cs
            exact ⟨e2, a2, w2, hq2.mono hk, harr2⟩
          | none =>
            rw [hl] at he
            simp only [Option.some.injEq, Prod.mk.injEq] at he; obtain ⟨rfl, rfl, rfl⟩ := he; exact ⟨rfl, κ1, hk, hR1⟩
    · intro g args r hf
      simp only [evF] at hf
      split at hf
      case isFalse => simp at hf
      rename_i hokg
      obtain ⟨fn, c, h1, h2, h3, h4⟩ := hL.ok g hokg
      simp only [h1, h2] at hf
      intro w Φ vs hphi hA
      refine ⟨⟨fn, c, h1, h2, h3⟩, ?_⟩
      have key : ∀ (x : AX) (e : Env) (s : Sto) (ps : List PV), ev P L k c (initEnv args) (sF (L.own g)) = some (x, e, s) → (x = .normal ∨ x = .ret) → resultsE P e s fn.results.toList = some ps → (frzs P s fn.resultTypes.toList ps).map resultOf = some r →
          Calls P g vs w fun en w' => ∃ v Φ', en = .returned v ∧ (∀ a v, Φ a = some v → Φ' a = some v) ∧ Reads (kap Φ') v r ∧ Below w.heap.size w w' ∧ (∀ a v, Φ' a = some v → w'.cell? a = some v) ∧ (∀ a v, Φ' a = some v → w.heap.size ≤ a.block ∨ Φ a = some v) := by
        intro x e s ps hev hx hr hre
        rw [Option.map_eq_some_iff] at hre
        obtain ⟨qs, hqs, hre⟩ := hre
        have hrep : Rep ⟨w, Φ⟩ (kap Φ) (sF (L.own g)) w := ⟨Below.refl _ _, fun a v hv => .inr hv, hphi, fun id i hi => by simp [kap] at hi, fun id b hb => by simp [sF] at hb, fun id id' b b' i i' hb => by simp [sF] at hb⟩
        have hR : RepF ⟨w, Φ⟩ fn.ntmps (kap Φ) (initEnv args) (sF (L.own g)) { tmps := vs ++ Array.replicate (fn.ntmps - vs.size) undef, defers := [] } w :=
          ⟨initEnv_reads hA _, hrep, by simp; omega, rfl⟩
        have hw := ihE (L.own g) ⟨w, Φ⟩ fn.ntmps c _ _ x e s (kap Φ) _ w hev h4 (fun ho => ho) hR
        refine calls_of_wp h1 h2 (wp_mono hw ?_)
        intro ex a1 w1 ⟨hx1, κ1, hk, hR1⟩
        obtain ⟨v, h5, _, h6⟩ := results_one hR1 hr
        have fin : a1.defers = [] ∧ ∃ v, (results fn a1.tmps).run P w1 = .ok v w1 ∧ ∃ v' Φ', Ending.returned v = .returned v' ∧ (∀ a v, Φ a = some v → Φ' a = some v) ∧ Reads (kap Φ') v' r ∧ Below w.heap.size w w1 ∧ (∀ a v, Φ' a = some v → w1.cell? a = some v) ∧ (∀ a v, Φ' a = some v → w.heap.size ≤ a.block ∨ Φ a = some v) := by
          have hkeep : ∀ a u, κ1.Φ a = some u → (if w.heap.size ≤ a.block then w1.cell? a else κ1.Φ a) = some u := fun a u hu => by
            split
            · exact hR1.rep.phi a u hu
            · exact hu
          refine ⟨hR1.defers, v, h5, v, fun a => if w.heap.size ≤ a.block then w1.cell? a else κ1.Φ a, rfl, fun a u hu => hkeep a u (hk.1 a u hu), ?_, hR1.rep.below, fun a u hu => ?_, fun a u hu => ?_⟩
          · rw [← hre]
            refine h6 hkeep (fun id i b hb hi a u ha hu => ?_) _ qs hqs
            have := (hR1.rep.see hb hi).1
            simp only at this
            rw [if_pos (by rw [ha]; exact this)]
            exact hu
          · simp only at hu
            split at hu
            · exact hu
            · exact hR1.rep.phi a u hu
          · simp only at hu
            split at hu
            · rename_i hle; exact .inl hle
            · exact hR1.rep.old a u hu
        subst hx1
        rcases hx with rfl | rfl
        · exact fin
        · exact fin
      split at hf
      · rename_i e s hev
        split at hf
        · rename_i ps hr
          exact key .normal e s ps hev (.inl rfl) hr hf
        · simp at hf
      · rename_i e s hev
        split at hf
        · rename_i ps hr
          exact key .ret e s ps hev (.inr rfl) hr hf
        · simp at hf
      · simp at hf
end
#print axioms sound
end Go.Pv
