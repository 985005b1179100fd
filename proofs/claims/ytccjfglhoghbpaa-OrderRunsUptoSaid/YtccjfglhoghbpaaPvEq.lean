import Derived.Test.YtccjfglhoghbpaaPvApp
namespace Go.Pv
open Go
theorem pureRun_bind {α β : Type} {P : Program} (m : Sem α) (k : α → Sem β) {a : α} (h : pureRun P m = some a) : pureRun P (m >>= k) = pureRun P (k a) := by
  induction m with
  | pure b => simp only [pureRun, Option.some.injEq] at h; subst h; rfl
  | program c ih => simp only [pureRun] at h; exact ih P h
  | mark m c ih => simp only [pureRun] at h; exact ih h
  | _ => simp [pureRun] at h
theorem pureRun_pure {α : Type} {P : Program} (a : α) : pureRun P (pure a : Sem α) = some a := rfl
theorem pureRun_program {P : Program} : pureRun P program = some P := rfl
theorem pureRun_underlying {P : Program} {t : TypeId} {d : TypeDesc} (h : P.underlying t = some d) : pureRun P (underlying t) = some d := by
  unfold underlying
  rw [pureRun_bind _ _ pureRun_program, h]
  rfl
theorem eqB {P : Program} {t : TypeId} (h : P.underlying t = some .bool) (n : Nat) (c d : Bool) : pureRun P (Op.equalIn (n + 1) t (.bool c) (.bool d)) = some (c == d) := by
  unfold Op.equalIn
  rw [pureRun_bind _ _ (pureRun_underlying h)]
  rfl
theorem eqI {P : Program} {t : TypeId} {k k' : IntKind} (h : P.underlying t = some (.int k')) (n : Nat) (c d : Int) : pureRun P (Op.equalIn (n + 1) t (.int k c) (.int k d)) = some (c == d) := by
  unfold Op.equalIn
  rw [pureRun_bind _ _ (pureRun_underlying h)]
  simp only [if_true]
  rfl
theorem eqS {P : Program} {t : TypeId} (h : P.underlying t = some .string) (n : Nat) (c d : ByteArray) : pureRun P (Op.equalIn (n + 1) t (.string c) (.string d)) = some (c == d) := by
  unfold Op.equalIn
  rw [pureRun_bind _ _ (pureRun_underlying h)]
  rfl
/-- Fields, one by one. -/
inductive Flds (P : Program) (n : Nat) (c d : Array Value) : List Field → List Bool → Prop
  | nil : Flds P n c d [] []
  | cons {f : Field} {fs : List Field} {b : Bool} {bs : List Bool} (u v : Value) (hn : f.name ≠ "_") (h1 : pureRun P (part f.type c f.offset) = some u) (h2 : pureRun P (part f.type d f.offset) = some v) (h3 : pureRun P (Op.equalIn n f.type u v) = some b) (h : Flds P n c d fs bs) : Flds P n c d (f :: fs) (b :: bs)
theorem eqAgg {P : Program} {t : TypeId} {fs : Array Field} (h : P.underlying t = some (.struct fs)) (hs : P.stoodInHeld t = false) (n : Nat) (c d : Array Value) {bs : List Bool} (hf : Flds P n c d fs.toList bs) : pureRun P (Op.equalIn (n + 1) t (.agg c) (.agg d)) = some (bs.all id) := by
  unfold Op.equalIn
  rw [pureRun_bind _ _ (pureRun_underlying h)]
  simp only
  rw [pureRun_bind _ _ pureRun_program, hs]
  simp only [Bool.false_eq_true, if_false]
  rw [← Array.forIn_toList]
  generalize fs.toList = l at hf
  induction hf with
  | nil => rfl
  | cons u v hn h1 h2 h3 hr ih =>
    rename_i f fs b bs
    rw [List.forIn_cons]
    simp only [bind_assoc]
    rw [if_pos hn]
    simp only [bind_assoc]
    rw [pureRun_bind _ _ h1, pureRun_bind _ _ h2, pureRun_bind _ _ h3]
    cases b with
    | true =>
      simp only [Bool.not_true, Bool.false_eq_true, if_false, pure_bind]
      exact ih
    | false =>
      simp only [Bool.not_false, if_true, pure_bind]
      rfl
theorem part1 {P : Program} {t : TypeId} (c : Array Value) (off : Nat) {v : Value} (h : lay P t = some (false, 1)) (hc : c[off]? = some v) : pureRun P (part t c off) = some v := by
  unfold lay at h
  cases hd : P.underlying t with
  | none => simp [hd] at h
  | some d =>
    cases hi : P.info? t with
    | none => simp [hd, hi] at h
    | some i =>
      simp only [hd, hi, Option.some.injEq, Prod.mk.injEq] at h
      have ha : pureRun P (isAgg t) = some false := by
        unfold isAgg
        rw [pureRun_bind _ _ (pureRun_underlying hd)]
        cases d <;> simp [isAggD] at h <;> rfl
      unfold part
      rw [pureRun_bind _ _ ha]
      simp only [Bool.false_eq_true, if_false, hc]
      rfl
/-- Equality, as the run sees it. -/
theorem evBin_eqV {P : Program} {t : TypeId} {x y : Operand} {p q : PV} {u v : Value} {b : Bool} (hp : litOf p = some u) (hq : litOf q = some v) (hg : pureRun P (eqGuard .eql t x y u v) = some ()) (hb : Go.binOp .eql t u v = (do pure (.bool (← Op.equal t u v)))) (h : pureRun P (Op.equalIn 10000 t u v) = some b) : evBin P .eql t x y p q = some (.lit (.bool b)) := by
  unfold evBin
  rw [hp, hq]
  simp only
  have h' : pureRun P (Op.equal t u v) = some b := h
  rw [pureRun_bind _ _ hg, hb, pureRun_bind _ _ h']
  rfl
theorem evBin_eqB {P : Program} {t : TypeId} (h : P.underlying t = some .bool) (x y : Operand) (c d : Bool) : evBin P .eql t x y (.lit (.bool c)) (.lit (.bool d)) = some (.lit (.bool (c == d))) :=
  evBin_eqV rfl rfl rfl rfl (eqB h 9999 c d)
theorem evBin_eqA {P : Program} {t : TypeId} {fs : Array Field} (h : P.underlying t = some (.struct fs)) (hs : P.stoodInHeld t = false) (hg : P.eqGuardType P.depth t = false) {x y : Operand} {cs ds : List PV} {c d : List Value} (hc : litL cs = some c) (hd : litL ds = some d) {bs : List Bool} (hf : Flds P 9999 c.toArray d.toArray fs.toList bs) : evBin P .eql t x y (.agg cs) (.agg ds) = some (.lit (.bool (bs.all id))) := by
  refine evBin_eqV (u := .agg c.toArray) (v := .agg d.toArray) (by simp only [litOf, hc]; rfl) (by simp only [litOf, hd]; rfl) ?_ rfl (eqAgg h hs 9999 _ _ hf)
  unfold eqGuard
  simp only [Bool.not_true, Bool.false_eq_true, if_false, pure_bind]
  rw [pureRun_bind _ _ pureRun_program, pureRun_bind _ _ pureRun_program, hg]
  rfl
/-- A struct's fields, in numbers. -/
def sFl (P : Program) (t : TypeId) : Option (Bool × List (Bool × TypeId × Nat)) := match P.underlying t with
  | some (.struct fs) => some (P.stoodInHeld t || P.eqGuardType P.depth t, fs.toList.map fun f => (f.name != "_", f.type, f.offset))
  | _ => none
inductive FldsT (P : Program) (n : Nat) (c d : Array Value) : List (Bool × TypeId × Nat) → List Bool → Prop
  | nil : FldsT P n c d [] []
  | cons {t : TypeId} {off : Nat} {fs : List (Bool × TypeId × Nat)} {b : Bool} {bs : List Bool} (u v : Value) (h1 : pureRun P (part t c off) = some u) (h2 : pureRun P (part t d off) = some v) (h3 : pureRun P (Op.equalIn n t u v) = some b) (h : FldsT P n c d fs bs) : FldsT P n c d ((true, t, off) :: fs) (b :: bs)
theorem flds_of {P : Program} {n : Nat} {c d : Array Value} : ∀ (fs : List Field) (l : List (Bool × TypeId × Nat)) (bs : List Bool), fs.map (fun f => (f.name != "_", f.type, f.offset)) = l → FldsT P n c d l bs → Flds P n c d fs bs
  | [], l, bs, h, hf => by subst h; cases hf; exact .nil
  | f :: fs, l, bs, h, hf => by
    subst h
    simp only [List.map_cons] at hf
    generalize hb : (f.name != "_") = b at hf
    generalize ht : f.type = t at hf
    generalize ho : f.offset = off at hf
    cases hf with
    | cons u v h1 h2 h3 h =>
      subst ht ho
      exact .cons u v (by simpa using hb) h1 h2 h3 (flds_of fs _ _ rfl h)
theorem evBin_eqT {P : Program} {t : TypeId} {l : List (Bool × TypeId × Nat)} (h : sFl P t = some (false, l)) {x y : Operand} {cs ds : List PV} {c d : List Value} (hc : litL cs = some c) (hd : litL ds = some d) {bs : List Bool} (hf : FldsT P 9999 c.toArray d.toArray l bs) : evBin P .eql t x y (.agg cs) (.agg ds) = some (.lit (.bool (bs.all id))) := by
  unfold sFl at h
  split at h
  · rename_i fs hu
    simp only [Option.some.injEq, Prod.mk.injEq, Bool.or_eq_false_iff] at h
    exact evBin_eqA hu h.1.1 h.1.2 hc hd (flds_of _ _ _ h.2 hf)
  · simp at h
end Go.Pv
