import Derived.Test.YtccjfglhoghbpaaPvEv
namespace Go.Pv
open Go Go.RowKit

/-! ### Regions whose order is drawn -/
/-- What is known of the functions, for the order's sake: which write the caller's store, which of these make new blocks alone; whether rows of one's own are appended to. -/
structure Kc where
  wr : FuncId → Bool
  ps : FuncId → Bool
  own : Bool
/-- What an operation asks of the store: 0 nothing, 1 it reads, 2 it writes, 3 it makes new blocks. -/
def cls (K : Kc) (o : Oper) : Nat :=
  match o.op with
  | .load .. | .convert .. => 1
  | .alloc .. | .box .. => 3
  | .store .. => 2
  | .call c => match c.callee with
    | .value (.func g) => if K.wr g then (if K.ps g then 3 else 2) else 1
    | .value _ => 1
    | .builtin .append => if K.own then 2 else 3
    | .builtin .copy => 2
    | _ => 0
  | .move .. | .assign .. | .pick .. | .build .. | .buildSlice .. | .binOp .. | .unOp .. | .makeFunc .. | .slice .. | .fieldAddr .. | .field .. | .indexAddr .. | .index .. | .extract .. | .nilCheck .. => 0
  | _ => 2

/-! Blocks that a value leads to, as far as a call looks. -/
mutual
def topIds : PV → List Nat
  | .fn _ a b => topL a ++ topL b
  | .ptr i _ => [i]
  | .oslice i _ _ _ _ => [i]
  | _ => []
def topL : List PV → List Nat
  | [] => []
  | p :: ps => topIds p ++ topL ps
end
theorem mem_topL {id : Nat} {p : PV} : ∀ {l : List PV}, p ∈ l → id ∈ topIds p → id ∈ topL l
  | q :: l, h, hi => by
    simp only [topL, List.mem_append]
    rcases List.mem_cons.1 h with rfl | h
    · exact .inl hi
    · exact .inr (mem_topL h hi)
/-- The blocks named hold the same in the other store. -/
def Holds (s s' : Sto) (p : PV) : Prop := ∀ id, id ∈ topIds p → ∀ cs, s.get id = some (.cells cs) → s'.get id = some (.cells cs)
def wfS (s : Sto) : Prop := ∀ id, s.next ≤ id → s.get id = none
def Keeps (s s' : Sto) : Prop := wfS s' ∧ s'.own = s.own ∧ s.next ≤ s'.next
/-- Nothing but new blocks. -/
def Grows (s s' : Sto) : Prop := ∀ id, id < s.next → ∀ cs, s.get id = some (.cells cs) ↔ s'.get id = some (.cells cs)

/-- Calls that write nothing of the caller's. -/
def CFpure (wr : FuncId → Bool) (cf : CF) : Prop := ∀ g args s r s', wr g = false → cf g args s = some (r, s') → s' = s
structure CFp (K : Kc) (cf : CF) : Prop where
  pure : CFpure K.wr cf
  loc : ∀ g args s r s1 s', K.wr g = false → cf g args s = some (r, s1) → (∀ p, p ∈ args → Holds s s' p) → cf g args s' = some (r, s')
  keep : ∀ g args s r s', cf g args s = some (r, s') → wfS s → Keeps s s'
  push : ∀ g args s r s', K.ps g = true → cf g args s = some (r, s') → Grows s s'

section
variable {P : Program} {K : Kc} {wr : FuncId → Bool} {cf : CF} {e e' : Env} {s s' : Sto} {o : Oper} {p : PV}

theorem evBuiltin_same {ty : TypeId} {b : Builtin} {argTypes : Array TypeId} {args : Array Operand} (hb : b ≠ .append) (h : evBuiltin P e s ty b argTypes args = some (p, s')) : s' = s ∧ ∀ s2, evBuiltin P e s2 ty b argTypes args = some (p, s2) := by
  unfold evBuiltin at h ⊢
  split at h
  · exact absurd rfl hb
  · split at h
    · split at h
      · split at h
        · simp_all
        · simp at h
      · simp at h
    · split at h
      · split at h
        · simp_all
        · simp at h
      · simp at h
    · split at h
      · simp_all
      · simp at h
    · simp at h
  all_goals first
    | (split at h
       · simp only [Option.map_eq_some_iff, Prod.mk.injEq] at h
         obtain ⟨r, hr, rfl, rfl⟩ := h
         refine ⟨rfl, fun s2 => ?_⟩
         simp [*]
       · simp at h)
    | simp at h

theorem evBuiltinX_same {ty : TypeId} {b : Builtin} {argTypes : Array TypeId} {args : Array Operand} (hb : b ≠ .append) (hb2 : b ≠ .copy) (h : evBuiltinX P e s ty b argTypes args = some (p, s')) : s' = s ∧ ∀ s2, evBuiltinX P e s2 ty b argTypes args = some (p, s2) := by
  unfold evBuiltinX at h ⊢
  split at h
  · exact absurd rfl hb
  · exact absurd rfl hb2
  · rename_i x hl
    split at h
    · split at h
      · split at h
        · simp only [Option.some.injEq, Prod.mk.injEq] at h
          obtain ⟨rfl, rfl⟩ := h
          refine ⟨rfl, fun s2 => ?_⟩
          simp [*]
        · simp at h
      · simp at h
    · simp at h
  · exact evBuiltin_same hb h

theorem cls0 (hc : cls K o = 0) (h : evOp P wr cf e s o = some (p, s')) : s' = s ∧ ∀ s2, evOp P wr cf e s2 o = some (p, s2) := by
  obtain ⟨dst, op, ty, pos, aft, grd⟩ := o
  cases op with
  | call c =>
    obtain ⟨callee, args, argTypes⟩ := c
    cases callee with
    | value f =>
      exfalso
      cases f <;> simp [cls] at hc
      split at hc
      · split at hc <;> simp at hc
      · simp at hc
    | invoke r m => simp [evOp, evPrim] at h
    | builtin b =>
      simp only [evOp, evPrim] at h ⊢
      refine evBuiltinX_same (fun e => ?_) (fun e => ?_) h
      · subst e
        simp [cls] at hc
        split at hc <;> simp at hc
      · subst e
        simp [cls] at hc
  | binOp op t x y yt =>
    simp only [evOp, evPrim] at h ⊢
    split at h
    · rename_i q hq
      simp only [Option.some.injEq, Prod.mk.injEq] at h
      obtain ⟨rfl, rfl⟩ := h
      exact ⟨rfl, fun s2 => by simp [hq]⟩
    · rename_i hb
      cases op <;> simp only [Option.map_eq_some_iff, Prod.mk.injEq, reduceCtorEq] at h ⊢
      all_goals (obtain ⟨a, h1, rfl, rfl⟩ := h; exact ⟨rfl, fun s2 => by simp [h1]⟩)
  | pick c a b =>
    simp only [evOp, evPrim] at h ⊢
    split at h <;> simp_all
  | extract t i =>
    simp only [evOp, evPrim] at h ⊢
    split at h
    · simp only [Option.map_eq_some_iff, Prod.mk.injEq] at h
      obtain ⟨a, h1, rfl, rfl⟩ := h
      exact ⟨rfl, fun s2 => by simp [h1]⟩
    · simp at h
  | nilCheck x =>
    simp only [evOp, evPrim] at h ⊢
    split at h <;> simp_all
  | _ => first
    | (exfalso; simp [cls] at hc; done)
    | (exfalso; simp [evOp, evPrim] at h; done)
    | (simp only [evOp, evPrim, Option.map_eq_some_iff, Prod.mk.injEq, exists_eq_right_right'] at h
       obtain ⟨a, h1, rfl, rfl⟩ := h
       refine ⟨rfl, fun s2 => ?_⟩
       simp only [evOp, evPrim, h1, Option.map_some])
    | (simp only [evOp, evPrim, Option.some.injEq, Prod.mk.injEq] at h
       obtain ⟨rfl, rfl⟩ := h
       exact ⟨rfl, fun s2 => rfl⟩)

theorem cls1 (hcf : CFpure K.wr cf) (hc : cls K o = 1) (h : evOp P K.wr cf e s o = some (p, s')) : s' = s := by
  obtain ⟨dst, op, ty, pos, aft, grd⟩ := o
  cases op with
  | call c =>
    obtain ⟨callee, args, argTypes⟩ := c
    cases callee with
    | value f =>
      simp only [evOp] at h
      split at h
      · rename_i g a b hg
        split at h
        · rename_i hs
          refine hcf g _ s p s' ?_ h
          cases f with
          | func g' =>
            simp only [evO, PV.fn.injEq, Fn.func.injEq] at hg
            obtain ⟨rfl, _⟩ := hg
            simp only [cls] at hc
            split at hc
            · split at hc <;> simp at hc
            · rename_i hw; simpa using hw
          | _ => simpa [staticF] using hs
        · simp at h
      · simp at h
    | invoke r m => simp [evOp, evPrim] at h
    | builtin b =>
      exfalso
      cases b <;> simp [cls] at hc
      split at hc <;> simp at hc
  | load t a =>
    simp only [evOp, evPrim, Option.map_eq_some_iff, Prod.mk.injEq] at h
    obtain ⟨a, h1, rfl, rfl⟩ := h
    rfl
  | convert t u a =>
    simp only [evOp, evPrim, Option.map_eq_some_iff, Prod.mk.injEq] at h
    obtain ⟨a, h1, rfl, rfl⟩ := h
    rfl
  | _ => exfalso; simp [cls] at hc

/-- What is read alike comes to the same. -/
theorem fillP_congr {place : Nat → Option (Nat × Nat)} : ∀ (l : List (Nat × Operand)) (cs : List PV), (∀ q, q ∈ l → evO e q.2 = evO e' q.2) → fillP place e cs l = fillP place e' cs l
  | [], _, _ => rfl
  | (i, x) :: l, cs, h => by
    have hx : evO e x = evO e' x := h (i, x) (by simp)
    simp only [fillP, hx]
    split
    · split
      · exact fillP_congr l _ (fun q hq => h q (by simp [hq]))
      · rfl
    · rfl
theorem evElems_congr {size : Nat} : ∀ (l : List (Nat × Operand)) (k : Nat), (∀ q, q ∈ l → evO e q.2 = evO e' q.2) → evElems e size k l = evElems e' size k l
  | [], _, _ => rfl
  | (i, x) :: l, k, h => by
    have hx : evO e x = evO e' x := h (i, x) (by simp)
    simp only [evElems, hx]
    split
    · rw [evElems_congr l (k + 1) (fun q hq => h q (by simp [hq]))]
    · rfl
theorem optmap_congr {o : Option Operand} (h : ∀ x, o = some x → evO e x = evO e' x) : o.map (evO e) = o.map (evO e') := by
  cases o with
  | none => rfl
  | some x => simp [h x rfl]

theorem evOp_congr (h : ∀ x, x ∈ o.op.operands → evO e x = evO e' x) : evOp P wr cf e s o = evOp P wr cf e' s o := by
  obtain ⟨dst, op, ty, pos, aft, grd⟩ := o
  simp only at h
  cases op with
  | call c =>
    obtain ⟨callee, args, argTypes⟩ := c
    have hargs : args.toList.map (evO e) = args.toList.map (evO e') := List.map_congr_left (fun x hx => h x (by
      simp only [Op.operands, Call.operands, Array.mem_append]
      exact .inr (by simpa using hx)))
    cases callee with
    | value f =>
      have hf : evO e f = evO e' f := h f (by simp [Op.operands, Call.operands])
      simp only [evOp, hf, hargs]
    | invoke r m => rfl
    | builtin b =>
      simp only [evOp, evPrim]
      have hb : evBuiltin P e s ty b argTypes args = evBuiltin P e' s ty b argTypes args := by
        unfold evBuiltin
        split
        · rename_i x y hl
          rw [hl] at hargs
          simp only [List.map_cons, List.map_nil, List.cons.injEq] at hargs
          rw [hargs.1, hargs.2.1]
        · rename_i x hl
          rw [hl] at hargs
          simp only [List.map_cons, List.map_nil, List.cons.injEq] at hargs
          rw [hargs.1]
        all_goals first
          | rw [hargs]
          | rfl
      unfold evBuiltinX
      split
      · rename_i x y hl
        rw [hb]
        rw [hl] at hargs
        simp only [List.map_cons, List.map_nil, List.cons.injEq] at hargs
        rw [hargs.1, hargs.2.1]
      · rename_i x y hl
        rw [hl] at hargs
        simp only [List.map_cons, List.map_nil, List.cons.injEq] at hargs
        rw [hargs.1, hargs.2.1]
      · rename_i x hl
        rw [hl] at hargs
        simp only [List.map_cons, List.map_nil, List.cons.injEq] at hargs
        rw [hargs.1]
      · exact hb
  | build t parts =>
    have hp : ∀ q, q ∈ parts.toList → evO e q.2 = evO e' q.2 := fun q hq => h q.2 (by
      simp only [Op.operands, List.mem_toArray, List.mem_map]
      exact ⟨q, hq, rfl⟩)
    simp only [evOp, evPrim]
    unfold evBuild
    split
    · split
      · rw [fillP_congr _ _ hp]
      · rfl
    · split
      · rw [fillP_congr _ _ hp]
      · rfl
    · rfl
  | buildSlice t len parts =>
    have hp : ∀ q, q ∈ parts.toList → evO e q.2 = evO e' q.2 := fun q hq => h q.2 (by
      simp only [Op.operands, List.mem_toArray, List.mem_map]
      exact ⟨q, hq, rfl⟩)
    simp only [evOp, evPrim]
    unfold evBuildSlice
    split
    · split
      · rw [evElems_congr _ _ hp]
      · rfl
    · rfl
  | makeFunc f a b =>
    have ha : a.toList.map (evO e) = a.toList.map (evO e') := List.map_congr_left (fun x hx => h x (by simp only [Op.operands, Array.mem_append]; exact .inl (by simpa using hx)))
    have hb : b.toList.map (evO e) = b.toList.map (evO e') := List.map_congr_left (fun x hx => h x (by simp only [Op.operands, Array.mem_append]; exact .inr (by simpa using hx)))
    simp only [evOp, evPrim, ha, hb]
  | slice t x lo hi mx =>
    have hx : evO e x = evO e' x := h x (by simp [Op.operands])
    have hl : lo.map (evO e) = lo.map (evO e') := optmap_congr (fun y hy => h y (by subst hy; simp [Op.operands]))
    have hh : hi.map (evO e) = hi.map (evO e') := optmap_congr (fun y hy => h y (by subst hy; simp [Op.operands]))
    have hm : mx.map (evO e) = mx.map (evO e') := optmap_congr (fun y hy => h y (by subst hy; simp [Op.operands]))
    simp only [evOp, evPrim, hx, hl, hh, hm]
  | pick c a b =>
    have h1 : evO e c = evO e' c := h c (by simp [Op.operands])
    have h2 : evO e a = evO e' a := h a (by simp [Op.operands])
    have h3 : evO e b = evO e' b := h b (by simp [Op.operands])
    simp only [evOp, evPrim, h1, h2, h3]
  | store t a b =>
    have h2 : evO e a = evO e' a := h a (by simp [Op.operands])
    have h3 : evO e b = evO e' b := h b (by simp [Op.operands])
    simp only [evOp, evPrim, h2, h3]
  | binOp op t a b yt =>
    have h2 : evO e a = evO e' a := h a (by simp [Op.operands])
    have h3 : evO e b = evO e' b := h b (by simp [Op.operands])
    simp only [evOp, evPrim, h2, h3]
  | indexAddr t a b =>
    have h2 : evO e a = evO e' a := h a (by simp [Op.operands])
    have h3 : evO e b = evO e' b := h b (by simp [Op.operands])
    simp only [evOp, evPrim, h2, h3]
  | index t a b =>
    have h2 : evO e a = evO e' a := h a (by simp [Op.operands])
    have h3 : evO e b = evO e' b := h b (by simp [Op.operands])
    simp only [evOp, evPrim, h2, h3]
  | alloc el => rfl
  | move x => have h1 := h x (by simp [Op.operands]); simp only [evOp, evPrim, h1]
  | assign x => have h1 := h x (by simp [Op.operands]); simp only [evOp, evPrim, h1]
  | box t x => have h1 := h x (by simp [Op.operands]); simp only [evOp, evPrim, h1]
  | load t x => have h1 := h x (by simp [Op.operands]); simp only [evOp, evPrim, h1]
  | nilCheck x => have h1 := h x (by simp [Op.operands]); simp only [evOp, evPrim, h1]
  | unOp op t x => have h1 := h x (by simp [Op.operands]); simp only [evOp, evPrim, h1]
  | convert t u x => have h1 := h x (by simp [Op.operands]); simp only [evOp, evPrim, h1]
  | fieldAddr t x f => have h1 := h x (by simp [Op.operands]); simp only [evOp, evPrim, h1]
  | field t x f => have h1 := h x (by simp [Op.operands]); simp only [evOp, evPrim, h1]
  | extract x i => have h1 := h x (by simp [Op.operands]); simp only [evOp, evPrim, h1]
  | _ => rfl

/-! What becomes of the store. -/
theorem Keeps.refl (h : wfS s) : Keeps s s := ⟨h, rfl, Nat.le_refl _⟩
theorem Keeps.trans {s1 s2 s3 : Sto} (h : Keeps s1 s2) (k : Keeps s2 s3) : Keeps s1 s3 := ⟨k.1, k.2.1.trans h.2.1, Nat.le_trans h.2.2 k.2.2⟩
theorem Keeps.push (h : wfS s) (b : Box) : Keeps s (s.push b) := by
  refine ⟨fun id hid => ?_, rfl, by simp only [Sto.push]; omega⟩
  simp only [Sto.push] at hid ⊢
  rw [if_neg (by omega)]
  exact h id (by omega)
theorem Keeps.set (h : wfS s) {id : Nat} {b : Box} (hb : s.get id = some b) (b' : Option Box) : Keeps s (s.set id b') := by
  have hlt : id < s.next := by
    rcases Nat.lt_or_ge id s.next with h1 | h1
    · exact h1
    · rw [h id h1] at hb; simp at hb
  refine ⟨fun j hj => ?_, rfl, Nat.le_refl _⟩
  simp only [Sto.set] at hj ⊢
  rw [if_neg (by omega)]
  exact h j hj
theorem Grows.refl (s : Sto) : Grows s s := fun _ _ _ => Iff.rfl
theorem Grows.push (s : Sto) (b : Box) : Grows s (s.push b) := fun id hid cs => by
  simp only [Sto.push]
  rw [if_neg (by omega)]
theorem evBox_keep {q : PV} (h : evBox s q = some (p, s')) : ∃ b, s' = s.push b := by
  simp only [evBox, Option.map_eq_some_iff, Prod.mk.injEq] at h
  obtain ⟨cs, _, _, rfl⟩ := h
  exact ⟨_, rfl⟩
theorem evAlloc_keep {el : TypeId} (h : evAlloc P s el = some (p, s')) : ∃ b, s' = s.push b := by
  unfold evAlloc at h
  split at h
  · split at h
    · exact evBox_keep h
    · simp at h
  · simp at h
theorem ownWrite_keep {id off : Nat} {xs : List PV} (hw : wfS s) (h : ownWrite s id off xs = some s') : Keeps s s' := by
  unfold ownWrite at h
  split at h
  · rename_i cs hcs
    split at h
    · simp only [Option.some.injEq] at h
      subst h
      exact Keeps.set hw hcs _
    · simp at h
  · simp at h
theorem evStore_keep {t : TypeId} {a x : PV} (hw : wfS s) (h : evStore P s t a x = some s') : Keeps s s' := by
  unfold evStore at h
  split at h
  · split at h
    · rename_i cs hcs
      split at h
      · simp only [Option.some.injEq] at h
        subst h
        exact Keeps.set hw hcs _
      · simp at h
    · simp at h
  · simp at h
theorem evAppend_keep {ts : Array TypeId} {a b : PV} (h : evAppend P s ts a b = some (p, s')) : s' = s ∨ (∃ c, s' = s.push c) ∨ ∃ id u c, s.get id = some (.grow u) ∧ s' = (s.set id none).push c := by
  unfold evAppend at h
  split at h
  · split at h
    · split at h
      · split at h
        · split at h
          · simp only [Option.some.injEq, Prod.mk.injEq] at h
            exact .inl h.2.symm
          · simp at h
        · split at h
          · split at h
            · simp only [Option.some.injEq, Prod.mk.injEq] at h
              exact .inr (.inl ⟨_, h.2.symm⟩)
            · split at h
              · rename_i u hu
                split at h
                · simp only [Option.some.injEq, Prod.mk.injEq] at h
                  exact .inr (.inr ⟨_, u, _, hu, h.2.symm⟩)
                · simp at h
              · simp at h
            · simp at h
          · simp at h
        · simp at h
      · simp at h
    · simp at h
  · simp at h
theorem evAppendN_keep {t t' : TypeId} {a b : PV} (h : evAppendN P s t t' a b = some (p, s')) : s' = s ∨ ∃ c, s' = s.push c := by
  unfold evAppendN at h
  split at h
  · split at h
    · split at h
      · split at h
        · simp only [Option.some.injEq, Prod.mk.injEq] at h
          exact .inl h.2.symm
        · split at h
          · split at h
            · simp only [Option.some.injEq, Prod.mk.injEq] at h
              exact .inr ⟨_, h.2.symm⟩
            · simp at h
          · simp at h
      · simp at h
    · simp at h
  · simp at h
theorem evAppendO_keep {t t' : TypeId} {a b : PV} (hw : wfS s) (h : evAppendO P s t t' a b = some (p, s')) : Keeps s s' := by
  unfold evAppendO at h
  split at h
  · split at h
    · split at h
      · split at h
        · split at h
          · simp only [Option.map_eq_some_iff, Prod.mk.injEq] at h
            obtain ⟨s1, h1, _, rfl⟩ := h
            exact ownWrite_keep hw h1
          · split at h
            · simp only [Option.map_eq_some_iff, Prod.mk.injEq] at h
              obtain ⟨_, _, _, rfl⟩ := h
              exact Keeps.push hw _
            · simp at h
        · simp at h
      · simp at h
    · simp at h
  · split at h
    · split at h
      · split at h
        · split at h
          · simp only [Option.map_eq_some_iff, Prod.mk.injEq] at h
            obtain ⟨_, _, _, rfl⟩ := h
            exact Keeps.push hw _
          · simp at h
        · simp at h
      · simp at h
    · simp at h
  · simp at h
theorem evCopy_keep {t : TypeId} {a b : PV} (hw : wfS s) (h : evCopy P s t a b = some (p, s')) : Keeps s s' := by
  unfold evCopy at h
  split at h
  · split at h
    · split at h
      · simp only [Option.map_eq_some_iff, Prod.mk.injEq] at h
        obtain ⟨s1, h1, _, rfl⟩ := h
        exact ownWrite_keep hw h1
      · simp at h
    · simp at h
  · simp at h
theorem append_cases {ty : TypeId} {argTypes : Array TypeId} {args : Array Operand} (h : evBuiltinX P e s ty .append argTypes args = some (p, s')) : (s.own = true ∧ ∃ t t' a b, evAppendO P s t t' a b = some (p, s')) ∨ (∃ t t' a b, evAppendN P s t t' a b = some (p, s')) ∨ ∃ a b, evAppend P s argTypes a b = some (p, s') := by
  unfold evBuiltinX at h
  split at h
  · split at h
    · split at h
      · split at h
        · exact .inl ⟨by assumption, _, _, _, _, h⟩
        · simp at h
      · simp at h
    · split at h
      · split at h
        · exact .inr (.inl ⟨_, _, _, _, h⟩)
        · simp at h
      · unfold evBuiltin at h
        split at h
        all_goals first
          | exact .inr (.inr ⟨_, _, h⟩)
          | (rename_i hb; exact absurd rfl hb)
          | simp_all
  · contradiction
  · contradiction
  · rename_i hno _ _
    unfold evBuiltin at h
    split at h
    all_goals first
      | exact absurd (by assumption) (hno _ _ rfl)
      | contradiction
      | simp at h
theorem append_keep {ty : TypeId} {argTypes : Array TypeId} {args : Array Operand} (hw : wfS s) (h : evBuiltinX P e s ty .append argTypes args = some (p, s')) : Keeps s s' := by
  rcases append_cases h with ⟨_, t, t', a, b, h⟩ | ⟨t, t', a, b, h⟩ | ⟨a, b, h⟩
  · exact evAppendO_keep hw h
  · rcases evAppendN_keep h with rfl | ⟨c, rfl⟩
    · exact .refl hw
    · exact .push hw _
  · rcases evAppend_keep h with rfl | ⟨c, rfl⟩ | ⟨id, u, c, hu, rfl⟩
    · exact .refl hw
    · exact .push hw _
    · have h1 := Keeps.set hw hu none
      exact h1.trans (.push h1.1 _)
theorem append_push {ty : TypeId} {argTypes : Array TypeId} {args : Array Operand} (ho : s.own = false) (h : evBuiltinX P e s ty .append argTypes args = some (p, s')) : Grows s s' := by
  rcases append_cases h with ⟨h1, _⟩ | ⟨t, t', a, b, h⟩ | ⟨a, b, h⟩
  · rw [ho] at h1; simp at h1
  · rcases evAppendN_keep h with rfl | ⟨c, rfl⟩
    · exact .refl _
    · exact .push _ _
  · rcases evAppend_keep h with rfl | ⟨c, rfl⟩ | ⟨id, u, c, hu, rfl⟩
    · exact .refl _
    · exact .push _ _
    · intro j hj cs
      have hne : ¬ (j = (s.set id none).next) := by show ¬ (j = s.next); omega
      simp only [Sto.push]
      rw [if_neg hne]
      simp only [Sto.set]
      split
      · rename_i hji
        subst hji
        rw [hu]
        simp
      · exact Iff.rfl
theorem evOp_keep (hk : CFp K cf) (hw : wfS s) (h : evOp P K.wr cf e s o = some (p, s')) : Keeps s s' := by
  by_cases h0 : cls K o = 0
  · rw [(cls0 h0 h).1]; exact .refl hw
  by_cases h1 : cls K o = 1
  · rw [cls1 hk.pure h1 h]; exact .refl hw
  obtain ⟨dst, op, ty, pos, aft, grd⟩ := o
  cases op with
  | call c =>
    obtain ⟨callee, args, argTypes⟩ := c
    cases callee with
    | value f =>
      simp only [evOp] at h
      split at h
      · split at h
        · exact hk.keep _ _ _ _ _ h hw
        · simp at h
      · simp at h
    | invoke r m => simp [evOp, evPrim] at h
    | builtin b =>
      simp only [evOp, evPrim] at h
      by_cases hb : b = .append
      · subst hb; exact append_keep hw h
      · by_cases hb2 : b = .copy
        · subst hb2
          unfold evBuiltinX at h
          split at h
          · contradiction
          · split at h
            · exact evCopy_keep hw h
            · simp at h
          · contradiction
          · unfold evBuiltin at h
            split at h
            all_goals first
              | contradiction
              | simp at h
        · rw [(evBuiltinX_same hb hb2 h).1]; exact .refl hw
  | alloc el =>
    simp only [evOp, evPrim] at h
    obtain ⟨b, rfl⟩ := evAlloc_keep h
    exact .push hw _
  | box t x =>
    simp only [evOp, evPrim] at h
    obtain ⟨b, rfl⟩ := evBox_keep h
    exact .push hw _
  | store t a x =>
    simp only [evOp, evPrim, Option.map_eq_some_iff, Prod.mk.injEq] at h
    obtain ⟨s1, h2, _, rfl⟩ := h
    exact evStore_keep hw h2
  | _ => first
    | (exfalso; exact h0 rfl)
    | (exfalso; exact h1 rfl)
    | (exfalso; simp [evOp, evPrim] at h; done)
theorem evOp_push (hk : CFp K cf) (hc : cls K o = 3) (ho : K.own = false → s.own = false) (h : evOp P K.wr cf e s o = some (p, s')) : Grows s s' := by
  obtain ⟨dst, op, ty, pos, aft, grd⟩ := o
  cases op with
  | call c =>
    obtain ⟨callee, args, argTypes⟩ := c
    cases callee with
    | value f =>
      simp only [evOp] at h
      split at h
      · rename_i g a b hg
        split at h
        · cases f with
          | func g' =>
            simp only [evO, PV.fn.injEq, Fn.func.injEq] at hg
            obtain ⟨rfl, _⟩ := hg
            simp only [cls] at hc
            split at hc
            · split at hc
              · rename_i hp
                exact hk.push _ _ _ _ _ hp h
              · simp at hc
            · simp at hc
          | _ => simp [cls] at hc
        · simp at h
      · simp at h
    | invoke r m => simp [evOp, evPrim] at h
    | builtin b =>
      simp only [evOp, evPrim] at h
      by_cases hb : b = .append
      · subst hb
        simp only [cls] at hc
        split at hc
        · simp at hc
        · rename_i hown
          exact append_push (ho (by simpa using hown)) h
      · exfalso
        cases b <;> simp [cls] at hc hb
  | alloc el =>
    simp only [evOp, evPrim] at h
    obtain ⟨b, rfl⟩ := evAlloc_keep h
    exact .push _ _
  | box t x =>
    simp only [evOp, evPrim] at h
    obtain ⟨b, rfl⟩ := evBox_keep h
    exact .push _ _
  | _ => exfalso; simp [cls] at hc
theorem evOp_loc (hk : CFp K cf) (hc : cls K o = 1) {s1 : Sto} (h : evOp P K.wr cf e s o = some (p, s1)) (hh : ∀ x, x ∈ o.op.operands → Holds s s' (evO e x)) : evOp P K.wr cf e s' o = some (p, s') := by
  obtain ⟨dst, op, ty, pos, aft, grd⟩ := o
  simp only at hh
  cases op with
  | call c =>
    obtain ⟨callee, args, argTypes⟩ := c
    cases callee with
    | value f =>
      simp only [evOp] at h ⊢
      split at h
      · rename_i g a b hg
        split at h
        · rename_i hs
          rw [if_pos hs]
          have hw : K.wr g = false := by
            cases f with
            | func g' =>
              simp only [evO, PV.fn.injEq, Fn.func.injEq] at hg
              obtain ⟨rfl, _⟩ := hg
              simp only [cls] at hc
              split at hc
              · split at hc <;> simp at hc
              · rename_i hw; simpa using hw
            | _ => simpa [staticF] using hs
          refine hk.loc g _ s p s1 s' hw h (fun q hq => ?_)
          have hf := hh f (by simp [Op.operands, Call.operands])
          rw [hg] at hf
          simp only [List.mem_append] at hq
          rcases hq with (hq | hq) | hq
          · exact fun id hid => hf id (by simp only [topIds, List.mem_append]; exact .inl (mem_topL hq hid))
          · obtain ⟨x, hx, rfl⟩ := List.mem_map.1 hq
            exact hh x (by simp only [Op.operands, Call.operands, Array.mem_append]; exact .inr (by simpa using hx))
          · exact fun id hid => hf id (by simp only [topIds, List.mem_append]; exact .inr (mem_topL hq hid))
        · simp at h
      · simp at h
    | invoke r m => simp [evOp, evPrim] at h
    | builtin b =>
      exfalso
      cases b <;> simp [cls] at hc
      split at hc <;> simp at hc
  | load t a =>
    simp only [evOp, evPrim, Option.map_eq_some_iff, Prod.mk.injEq] at h ⊢
    obtain ⟨q, h1, h2, h3⟩ := h
    refine ⟨q, ?_, h2, trivial⟩
    have ha := hh a (by simp [Op.operands])
    unfold evLoad at h1 ⊢
    split at h1
    · rename_i id off hid
      rw [hid] at ha
      split at h1
      · rename_i cs hcs
        rw [ha id (by simp [topIds]) cs hcs]
        exact h1
      · simp at h1
    · exact h1
    · simp at h1
  | convert t u a =>
    simp only [evOp, evPrim, Option.map_eq_some_iff, Prod.mk.injEq] at h ⊢
    obtain ⟨q, h1, h2, h3⟩ := h
    refine ⟨q, ?_, h2, trivial⟩
    have ha := hh a (by simp [Op.operands])
    unfold evConv at h1 ⊢
    split at h1
    · exact h1
    · rename_i id off n c z hid
      rw [hid] at ha
      split at h1
      · rename_i el cs hs hd hcs
        rw [hs, hd, ha id (by simp [topIds]) cs hcs]
        exact h1
      · simp at h1
    · simp at h1
  | _ => exfalso; simp [cls] at hc
end
end Go.Pv
